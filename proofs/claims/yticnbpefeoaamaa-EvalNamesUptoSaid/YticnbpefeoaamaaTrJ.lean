/- Contracts: the reference's told, Get; whether an event meets a predicate, both. -/
import Derived.Test.YticnbpefeoaamaaTrI
namespace Go.Proofs.Yticnbpefeoaamaa
open Go.RowKit
set_option linter.unusedSimpArgs false
set_option linter.unusedVariables false

theorem none_snoc {α : Type} {q : α → Bool} {xs : List α} {k : Nat} (h : Hid (∀ j, (h : j < xs.length) → j < k → q xs[j] = false)) (hk : k < xs.length) (he : q xs[k] = false) : Hid (∀ j, (h : j < xs.length) → j < k + 1 → q xs[j] = false) := fun j hj hjk => by
  by_cases e : j = k
  · subst e; exact he
  · exact h.out j hj (by omega)
theorem any_none {α : Type} {q : α → Bool} {xs : List α} {k : Nat} (h : Hid (∀ j, (h : j < xs.length) → j < k → q xs[j] = false)) (hk : ¬ k < xs.length) : xs.any q = false := by
  rw [List.any_eq_false]
  intro x hx
  obtain ⟨j, hj, rfl⟩ := List.getElem_of_mem hx
  rw [h.out j hj (by omega)]; simp
theorem any_hit {α : Type} {q : α → Bool} {xs : List α} {k : Nat} (hk : k < xs.length) (he : q xs[k] = true) : xs.any q = true := by
  rw [List.any_eq_true]
  exact ⟨_, List.getElem_mem hk, he⟩

theorem heap_alloc2 (w : World) (o1 o2 : Obj) : ((w.alloc o1).alloc o2).heap[w.heap.size + 1]? = some o2 := by
  have e := heap_alloc_new (w.alloc o1) o2
  simpa using e

set_option maxHeartbeats 1600000 in
set_option maxRecDepth 100000 in
theorem refTold_calls (w : World) (F : Fp) (p : PredD) (v : ValD) (A1 A2 : Option Addr) (c1 c2 : Nat) (h1 : Ty.i64.Row w F A1 p.ints) (h2 : Ty.str.Row w F A2 p.words) (hl1 : p.ints.length ≤ 9223372036854775807) (hl2 : p.words.length ≤ 9223372036854775807)
    (hp : predOk p = true) (hv : valOk v = true) :
    Calls Try.prog 69 #[.agg #[.int .i64 p.kind, .string p.attr, .slice A1 p.ints.length c1, .slice A2 p.words.length c2, .int .i64 p.lo, .int .i64 p.hi], .agg #[.int .i64 v.kind, .int .i64 v.int, .string v.word]] w fun e w' =>
      e = .returned (.bool (told p v)) ∧ Below w.heap.size w w' := by
  have B2 : ∀ o1 o2, Hid (Below w.heap.size w ((w.alloc o1).alloc o2)) := fun o1 o2 => bl_alloc (below1 _ _) _
  have H1 : ∀ o1 o2, Hid (Ty.i64.Row ((w.alloc o1).alloc o2) F A1 p.ints) := fun o1 o2 => Ty.Row_below (B2 o1 o2).out h1
  have H2 : ∀ o1 o2, Hid (Ty.str.Row ((w.alloc o1).alloc o2) F A2 p.words) := fun o1 o2 => Ty.Row_below (B2 o1 o2).out h2
  have H2' := Lib.hid h2
  have H1' := Lib.hid h1
  clear h1 h2
  have hk := predOk_kind hp
  have hv' := valOk_kind hv
  clear hp hv
  have hk' : p.kind = 3 ∨ (p.kind = 4 ∧ ∃ x, p.words = [x]) ∨ ((p.kind == 3) = false ∧ (p.kind == 4) = false ∧ Hid (told p v = ((v.kind == 1 && p.ints.any (fun y => y == v.int)) || (v.kind == 2 && p.words.any (fun y => y.toList == v.word.toList))))) := by
    have e1 : (fun y => v.int == y) = (fun y => y == v.int) := by funext y; exact Bool.beq_comm
    have e2 : (fun y : ByteArray => v.word.toList == y.toList) = (fun y => y.toList == v.word.toList) := by funext y; exact Bool.beq_comm
    rcases hk with ⟨hk, he⟩ | ⟨hk, he⟩ | hk | ⟨hk, he⟩
    · exact .inr (.inr ⟨by simp [hk], by simp [hk], by simp [told, hk, he, Hid, e1]⟩)
    · exact .inr (.inr ⟨by simp [hk], by simp [hk], by simp [told, hk, he, Hid, e2]⟩)
    · exact .inl hk
    · exact .inr (.inl ⟨hk, he⟩)
  clear hk
  rcases hk' with hk | ⟨hk, x, he⟩ | ⟨hk3, hk4, Hf⟩
  · rcases hv' with hv' | hv'
    · have Hf : Hid (told p v = (decide (p.lo ≤ v.int) && decide (v.int ≤ p.hi))) := by simp [told, hk, hv', Hid]
      clear H1 H2
      go_enter Try.func69, Try.ntmps69
      go_wp2_with fail
      all_goals
        go_ret
        refine ⟨?_, (B2 _ _).out⟩
        rw [Hf.out]
        clear Hf B2 H2'
        go_tidy
        simp_all <;> omega
    · have Hf : Hid (told p v = false) := by simp [told, hk, hv', Hid]
      clear H1 H2
      go_enter Try.func69, Try.ntmps69
      go_wp2_with fail
      go_ret
      exact ⟨by rw [Hf.out]; rfl, (B2 _ _).out⟩
  · rcases hv' with hv' | hv'
    · have Hf : Hid (told p v = false) := by simp [told, hk, hv', Hid]
      clear he H1 H2
      go_enter Try.func69, Try.ntmps69
      go_wp2_with fail
      go_quiet (fail)
      go_wp2
      go_ret
      exact ⟨by rw [Hf.out]; rfl, bl_drewN (B2 _ _).out _⟩
    · have Hf : Hid (told p v = begins v.word x) := by simp [told, hk, hv', he, word0, Hid]
      obtain ⟨ad, rfl, d0⟩ := Ty.str_at H2'.out 0 (by rw [he]; simp)
      have hx : p.words[0]'(by rw [he]; simp) = x := by simp [he]
      rw [hx] at d0
      have d1 : w.cell? ad = some (.string x) := by simpa [Addr.add] using d0
      have hblk := World.block_lt_of_cell? w _ d1
      clear d0
      have hlen : p.words.length = 1 := by rw [he]; rfl
      clear he hx H1 H2
      go_enter Try.func69, Try.ntmps69
      go_wp2_with fail
      go_quiet ((go_at_call 105; exact quiet_same (begins_calls _ _ _)))
      go_wp2
      go_ret
      exact ⟨by rw [Hf.out]; rfl, bl_drewN (B2 _ _).out _⟩
  · rcases hv' with hv' | hv'
    · have Hf' : Hid (told p v = p.ints.any (fun y => y == v.int)) := by rw [Hid, Hf.out]; simp [hv']
      clear Hf H1 H2
      obtain ⟨vk, vi, vw⟩ := v
      simp only at hv' ⊢
      subst hv'
      go_enter Try.func69, Try.ntmps69
      go_wp2_with fail
      go_loopw [5] (fun i wr => ∃ k : Nat, k ≤ p.ints.length ∧ i = .int .i64 k ∧ Hid (∀ j, (h : j < p.ints.length) → j < k → (fun y => y == vi) p.ints[j] = false) ∧
          Hid (Below w.heap.size w wr) ∧ Hid (wr.heap[w.heap.size]? = some (.cells #[.int .i64 p.kind, .string p.attr, .slice A1 p.ints.length c1, .slice A2 p.words.length c2, .int .i64 p.lo, .int .i64 p.hi] 30 (0, 0))) ∧
          Hid (wr.heap[w.heap.size + 1]? = some (.cells #[.int .i64 1, .int .i64 vi, .string vw] 44 (0, 0)))) (fun i _ => p.ints.length - (intOf i).toNat)
      case atStart => exact ⟨0, Nat.zero_le _, rfl, fun j hj => by omega, (B2 _ _).out, blk_alloc (heap_alloc_new _ _) _, heap_alloc2 _ _ _⟩
      case round =>
        obtain ⟨k, hk, rfl, HA, HB, HX, HY⟩ := hrel
        obtain ⟨x1, x2, x3⟩ := blk_facts HX.out
        obtain ⟨y1, y2, y3⟩ := blk_facts HY.out
        by_cases hlt : k < p.ints.length
        · obtain ⟨ad, rfl, d0⟩ := Ty.int_at (Ty.Row_below HB.out H1'.out) k hlt
          cases hq : (fun y => y == vi) p.ints[k] with
          | true =>
            have Hg : Hid (told p ⟨1, vi, vw⟩ = true) := by rw [Hid, Hf'.out]; exact any_hit (q := fun y => y == vi) hlt hq
            simp only at hq
            go_wp2_with fail
            go_quiet (fail)
            go_wp2
            go_ret
            exact ⟨by rw [Hg.out]; rfl, bl_drewN HB.out _⟩
          | false =>
            have HA' := none_snoc (q := fun y => y == vi) HA hlt hq
            simp only at hq
            go_wp2_with fail
            go_quiet (fail)
            go_wp2
            go_roundw
            case rel => exact ⟨k + 1, by omega, by go_num, HA', bl_drewN HB.out _, HX.out, HY.out⟩
            case measure => simp [intOf]; omega
        · have Hm := Lib.hid (any_none (q := fun y => y == vi) HA hlt)
          have HB0 := HB
          have HX0 := HX
          have HY0 := HY
          clear HA HB HX HY
          go_wp2_with fail
          clear x1 x2 x3 y1 y2 y3
          go_loopw [6] (fun i wr => ∃ k : Nat, k ≤ p.words.length ∧ i = .int .i64 k ∧ Hid (∀ j, (h : j < p.words.length) → j < k → (fun y => false && y.toList == vw.toList) p.words[j] = false) ∧
              Hid (Below w.heap.size w wr) ∧ Hid (wr.heap[w.heap.size]? = some (.cells #[.int .i64 p.kind, .string p.attr, .slice A1 p.ints.length c1, .slice A2 p.words.length c2, .int .i64 p.lo, .int .i64 p.hi] 30 (0, 0))) ∧
              Hid (wr.heap[w.heap.size + 1]? = some (.cells #[.int .i64 1, .int .i64 vi, .string vw] 44 (0, 0)))) (fun i _ => p.words.length - (intOf i).toNat)
          case atStart => exact ⟨0, Nat.zero_le _, rfl, fun j hj => by omega, HB0.out, HX0.out, HY0.out⟩
          case round =>
            obtain ⟨k2, hk2, rfl, HA, HB, HX, HY⟩ := hrel
            obtain ⟨x1, x2, x3⟩ := blk_facts HX.out
            obtain ⟨y1, y2, y3⟩ := blk_facts HY.out
            by_cases hlt2 : k2 < p.words.length
            · go_wp2_with fail
              go_quiet (fail)
              go_wp2
              go_roundw
              case rel => exact ⟨k2 + 1, by omega, by go_num, none_snoc (q := fun y => false && y.toList == vw.toList) HA hlt2 rfl, bl_drewN HB.out _, HX.out, HY.out⟩
              case measure => simp [intOf]; omega
            · have Hg : Hid (told p ⟨1, vi, vw⟩ = false) := by rw [Hid, Hf'.out]; exact Hm.out
              go_wp2
              go_ret
              exact ⟨by rw [Hg.out]; rfl, HB.out⟩
    · have Hf' : Hid (told p v = p.words.any (fun y => y.toList == v.word.toList)) := by rw [Hid, Hf.out]; simp [hv']
      clear Hf H1 H2
      obtain ⟨vk, vi, vw⟩ := v
      simp only at hv' ⊢
      subst hv'
      go_enter Try.func69, Try.ntmps69
      go_wp2_with fail
      go_loopw [5] (fun i wr => ∃ k : Nat, k ≤ p.ints.length ∧ i = .int .i64 k ∧ Hid (∀ j, (h : j < p.ints.length) → j < k → (fun y => false && y == vi) p.ints[j] = false) ∧
          Hid (Below w.heap.size w wr) ∧ Hid (wr.heap[w.heap.size]? = some (.cells #[.int .i64 p.kind, .string p.attr, .slice A1 p.ints.length c1, .slice A2 p.words.length c2, .int .i64 p.lo, .int .i64 p.hi] 30 (0, 0))) ∧
          Hid (wr.heap[w.heap.size + 1]? = some (.cells #[.int .i64 2, .int .i64 vi, .string vw] 44 (0, 0)))) (fun i _ => p.ints.length - (intOf i).toNat)
      case atStart => exact ⟨0, Nat.zero_le _, rfl, fun j hj => by omega, (B2 _ _).out, blk_alloc (heap_alloc_new _ _) _, heap_alloc2 _ _ _⟩
      case round =>
        obtain ⟨k, hk, rfl, HA, HB, HX, HY⟩ := hrel
        obtain ⟨x1, x2, x3⟩ := blk_facts HX.out
        obtain ⟨y1, y2, y3⟩ := blk_facts HY.out
        by_cases hlt : k < p.ints.length
        · go_wp2_with fail
          go_quiet (fail)
          go_wp2
          go_roundw
          case rel => exact ⟨k + 1, by omega, by go_num, none_snoc (q := fun y => false && y == vi) HA hlt rfl, bl_drewN HB.out _, HX.out, HY.out⟩
          case measure => simp [intOf]; omega
        · have Hm := Lib.hid (any_none (q := fun y => false && y == vi) HA hlt)
          have HB0 := HB
          have HX0 := HX
          have HY0 := HY
          clear HA HB HX HY
          go_wp2_with fail
          clear x1 x2 x3 y1 y2 y3
          go_loopw [6] (fun i wr => ∃ k : Nat, k ≤ p.words.length ∧ i = .int .i64 k ∧ Hid (∀ j, (h : j < p.words.length) → j < k → (fun y => y.toList == vw.toList) p.words[j] = false) ∧
              Hid (Below w.heap.size w wr) ∧ Hid (wr.heap[w.heap.size]? = some (.cells #[.int .i64 p.kind, .string p.attr, .slice A1 p.ints.length c1, .slice A2 p.words.length c2, .int .i64 p.lo, .int .i64 p.hi] 30 (0, 0))) ∧
              Hid (wr.heap[w.heap.size + 1]? = some (.cells #[.int .i64 2, .int .i64 vi, .string vw] 44 (0, 0)))) (fun i _ => p.words.length - (intOf i).toNat)
          case atStart => exact ⟨0, Nat.zero_le _, rfl, fun j hj => by omega, HB0.out, HX0.out, HY0.out⟩
          case round =>
            obtain ⟨k2, hk2, rfl, HA, HB, HX, HY⟩ := hrel
            obtain ⟨x1, x2, x3⟩ := blk_facts HX.out
            obtain ⟨y1, y2, y3⟩ := blk_facts HY.out
            by_cases hlt2 : k2 < p.words.length
            · obtain ⟨ad, rfl, d0⟩ := Ty.str_at (Ty.Row_below HB.out H2'.out) k2 hlt2
              cases hq : (fun y => y.toList == vw.toList) p.words[k2] with
              | true =>
                have Hg : Hid (told p ⟨2, vi, vw⟩ = true) := by rw [Hid, Hf'.out]; exact any_hit (q := fun y => y.toList == vw.toList) hlt2 hq
                simp only at hq
                go_wp2_with fail
                go_quiet (fail)
                go_wp2
                go_ret
                exact ⟨by rw [Hg.out]; rfl, bl_drewN HB.out _⟩
              | false =>
                have HA' := none_snoc (q := fun y => y.toList == vw.toList) HA hlt2 hq
                simp only at hq
                go_wp2_with fail
                go_quiet (fail)
                go_wp2
                go_roundw
                case rel => exact ⟨k2 + 1, by omega, by go_num, HA', bl_drewN HB.out _, HX.out, HY.out⟩
                case measure => simp [intOf]; omega
            · have Hg : Hid (told p ⟨2, vi, vw⟩ = false) := by rw [Hid, Hf'.out]; exact any_none (q := fun y => y.toList == vw.toList) HA hlt2
              go_wp2
              go_ret
              exact ⟨by rw [Hg.out]; rfl, HB.out⟩
end Go.Proofs.Yticnbpefeoaamaa
