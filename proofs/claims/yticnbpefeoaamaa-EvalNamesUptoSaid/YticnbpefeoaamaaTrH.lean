/- Contracts: the reference's Pred and zero. -/
import Derived.Test.YticnbpefeoaamaaTrG
namespace Go.Proofs.Yticnbpefeoaamaa
open Go.RowKit
set_option linter.unusedSimpArgs false
set_option linter.unusedVariables false

theorem all_snoc {α : Type} {q : α → Bool} {xs : List α} {k : Nat} (h : Hid (∀ j, (h : j < xs.length) → j < k → q xs[j] = true)) (hk : k < xs.length) (he : q xs[k] = true) : Hid (∀ j, (h : j < xs.length) → j < k + 1 → q xs[j] = true) := fun j hj hjk => by
  by_cases e : j = k
  · subst e; exact he
  · exact h.out j hj (by omega)
theorem all_done {α : Type} {q : α → Bool} {xs : List α} {k : Nat} (h : Hid (∀ j, (h : j < xs.length) → j < k → q xs[j] = true)) (hk : ¬ k < xs.length) : xs.all q = true := by
  rw [List.all_eq_true]
  intro x hx
  obtain ⟨j, hj, rfl⟩ := List.getElem_of_mem hx
  exact h.out j hj (by omega)
theorem all_not {α : Type} {q : α → Bool} {xs : List α} {k : Nat} (hk : k < xs.length) (he : q xs[k] = false) : xs.all q = false := by
  rw [List.all_eq_false]
  exact ⟨_, List.getElem_mem hk, by simp [he]⟩

set_option maxHeartbeats 1600000 in
set_option maxRecDepth 100000 in
theorem refPred_calls (w : World) (F : Fp) (p : PredD) (A1 A2 : Option Addr) (c1 c2 : Nat) (h1 : Ty.i64.Row w F A1 p.ints) (h2 : Ty.str.Row w F A2 p.words) (hl1 : p.ints.length ≤ 9223372036854775807) (hl2 : p.words.length ≤ 9223372036854775807) :
    Calls Try.prog 67 #[.agg #[.int .i64 p.kind, .string p.attr, .slice A1 p.ints.length c1, .slice A2 p.words.length c2, .int .i64 p.lo, .int .i64 p.hi]] w fun e w' =>
      e = .returned (.bool (predOk p)) ∧ Below w.heap.size w w' := by
  have H1 := Lib.hid (Ty.Row_below (below1 _ (.cells #[.int .i64 p.kind, .string p.attr, .slice A1 p.ints.length c1, .slice A2 p.words.length c2, .int .i64 p.lo, .int .i64 p.hi] 30)) h1)
  have H2 := Lib.hid (Ty.Row_below (below1 _ (.cells #[.int .i64 p.kind, .string p.attr, .slice A1 p.ints.length c1, .slice A2 p.words.length c2, .int .i64 p.lo, .int .i64 p.hi] 30)) h2)
  clear h1 h2
  go_enter Try.func67, Try.ntmps67
  go_wp2_with fail
  refine (refName_calls _ _).mono ?_
  rintro e w1 ⟨rfl, rfl⟩
  cases hn : nameOk p.attr with
  | false =>
    have Hf : Hid (predOk p = false) := by simp [predOk, hn, Hid]
    clear hn
    go_wp2
    go_ret
    exact ⟨by rw [Hf.out]; rfl, below1 _ _⟩
  | true =>
    have Hn := Lib.hid hn
    clear hn
    go_wp2_with fail
    go_loop [3] (fun i => ∃ k : Nat, k ≤ p.ints.length ∧ i = .int .i64 k ∧ Hid (∀ j, (h : j < p.ints.length) → j < k → numOk p.ints[j] = true)) (fun i => p.ints.length - (intOf i).toNat)
    case atStart => exact ⟨0, Nat.zero_le _, rfl, fun j hj => by omega⟩
    case round =>
      obtain ⟨k, hk, rfl, HA⟩ := hrel
      by_cases hlt : k < p.ints.length
      · obtain ⟨ad, rfl, d0⟩ := Ty.int_at H1.out k hlt
        go_wp2_with fail
        refine (refNumber_calls _ _).mono ?_
        rintro e w1 ⟨rfl, rfl⟩
        cases he : numOk p.ints[k] with
        | false =>
          have Hf : Hid (predOk p = false) := by simp [predOk, all_not hlt he, Hid]
          clear he
          go_wp2
          go_ret
          exact ⟨by rw [Hf.out]; rfl, below1 _ _⟩
        | true =>
          have HA' := all_snoc HA hlt he
          clear he
          go_wp2
          go_round
          case rel => exact ⟨k + 1, by omega, by go_num, HA'⟩
          case measure => simp [intOf]; omega
      · have Hi := Lib.hid (all_done HA hlt)
        clear HA
        go_wp2_with fail
        go_loop [4] (fun i => ∃ k : Nat, k ≤ p.words.length ∧ i = .int .i64 k ∧ Hid (∀ j, (h : j < p.words.length) → j < k → wordOk p.words[j] = true)) (fun i => p.words.length - (intOf i).toNat)
        case atStart => exact ⟨0, Nat.zero_le _, rfl, fun j hj => by omega⟩
        case round =>
          obtain ⟨m, hm, rfl, HB⟩ := hrel
          by_cases hmt : m < p.words.length
          · obtain ⟨ad, rfl, d0⟩ := Ty.str_at H2.out m hmt
            cases he : wordOk p.words[m] with
            | false =>
              have Hf : Hid (predOk p = false) := by simp [predOk, all_not hmt he, Hid]
              have he' : ¬ ((p.words[m].size : Int) ≤ 64) := by simpa [wordOk] using he
              clear he
              go_wp2
              go_ret
              exact ⟨by rw [Hf.out]; rfl, below1 _ _⟩
            | true =>
              have HA' := all_snoc HB hmt he
              have he' : (p.words[m].size : Int) ≤ 64 := by simpa [wordOk] using he
              clear he
              go_wp2
              go_round
              case rel => exact ⟨m + 1, by omega, by go_num, HA'⟩
              case measure => simp [intOf]; omega
          · have Hw : Hid (predOk p = predShape p) := by simp [predOk, all_done HB hmt, Hi.out, Hn.out, Hid]
            clear HB Hi Hn
            go_wp2_with fail
            go_quiet (fail)
            go_wp2_with (go_at_call 104; (with_reducible refine (refNumber_calls _ _).mono ?_); rintro e w3 ⟨rfl, rfl⟩)
            all_goals
              go_ret
              refine ⟨?_, bl_drewN (below1 _ _) _⟩
              rw [Hw.out]
              clear H1 H2 Hw
              go_tidy
              simp_all [predShape] <;> omega
end Go.Proofs.Yticnbpefeoaamaa
