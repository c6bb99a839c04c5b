/- Contracts: the first pair of a name. -/
import Derived.Test.YticnbpefeoaamaaTrC
namespace Go.Proofs.Yticnbpefeoaamaa
open Go.RowKit
set_option linter.unusedSimpArgs false
set_option linter.unusedVariables false

/-- The first pair of a name. -/
def getIdx (ev : List PairD) (name : ByteArray) : Option Nat := ev.findIdx? (fun p => p.name.toList == name.toList)
def getPair (ev : List PairD) (name : ByteArray) : Option ValD := (ev.find? (fun p => p.name.toList == name.toList)).map (·.val)
def getOut (o : Option ValD) : Value := match o with
  | some v => .tuple #[.agg #[.int .i64 v.kind, .int .i64 v.int, .string v.word], .bool true]
  | none => .tuple #[.agg #[.int .i64 0, .int .i64 0, .string ⟨#[]⟩], .bool false]
theorem getPair_hit {ev : List PairD} {name : ByteArray} {k : Nat} (hk : k < ev.length) (hA : ∀ j, (h : j < ev.length) → j < k → (ev[j].name.toList == name.toList) = false) (he : (ev[k].name.toList == name.toList) = true) : getPair ev name = some ev[k].val := by
  have : ev.find? (fun p => p.name.toList == name.toList) = some ev[k] := by
    rw [List.find?_eq_some_iff_getElem]
    exact ⟨he, k, hk, rfl, fun j hj => by simp [hA j (by omega) hj]⟩
  rw [getPair, this]; rfl
theorem getPair_miss {ev : List PairD} {name : ByteArray} (hA : ∀ j, (h : j < ev.length) → (ev[j].name.toList == name.toList) = false) : getPair ev name = none := by
  have : ev.find? (fun p => p.name.toList == name.toList) = none := by
    rw [List.find?_eq_none]
    intro x hx
    obtain ⟨j, hj, rfl⟩ := List.getElem_of_mem hx
    simp [hA j hj]
  rw [getPair, this]; rfl

theorem Try.results62' : Try.f62.results = #[.cell 4 44, .tmp 5] := by kernel_rfl
set_option maxHeartbeats 800000 in
set_option maxRecDepth 100000 in
theorem get_calls (w : World) (F : Fp) (A : Option Addr) (c : Nat) (ev : List PairD) (name : ByteArray) (hl : ev.length ≤ 9223372036854775807) (h : Ty.pr.Row w F A ev) :
   Calls Try.prog 62 #[.slice A ev.length c, .string name] w fun e w' => e = .returned (getOut (getPair ev name)) ∧ Below w.heap.size w w' := by
  have hu44 := Try.underlying44
  have hu46 := Try.underlying46
  go_enter Try.func62, Try.ntmps62
  go_wp2
  have HR := Lib.hid h
  clear h
  go_loopw [10] (fun i wr => ∃ k : Nat, k ≤ ev.length ∧ i = .int .i64 k ∧ Hid (∀ j, (h : j < ev.length) → j < k → (ev[j].name.toList == name.toList) = false) ∧ Hid (Below w.heap.size w wr) ∧ Hid (wr.heap[w.heap.size]? = some (.cells #[.int .i64 0, .int .i64 0, .string ⟨#[]⟩] 44 (0, 0))))
    (fun i _ => ev.length - (intOf i).toNat)
  case atStart => exact ⟨0, Nat.zero_le _, rfl, fun j hj => by omega, below1 _ _, heap_alloc_new _ _⟩
  case round =>
    obtain ⟨k, hk, rfl, HA, HB, HZ⟩ := hrel
    obtain ⟨b1, b2, b3⟩ := blk_facts HZ.out
    by_cases hlt : k < ev.length
    · obtain ⟨ad, rfl, c0, c1, c2, c3⟩ := Ty.pr_at (Ty.Row_below HB.out HR.out) k hlt
      have hsz : w.heap.size ≤ wr.heap.size := HB.out.size
      go_wp2
      · have he := getPair_hit hlt (fun j h hj => HA.out j h hj) (by assumption)
        rw [he]
        refine bodyPost_ret (v := .tuple #[.agg #[.int .i64 ev[k].val.kind, .int .i64 ev[k].val.int, .string ev[k].val.word], .bool true]) (by simp [results, Try.results62', go_sem, b1, b2, b3, hu44]) rfl ⟨rfl, ?_⟩
        repeat (first | exact HB.out | apply bl_alloc | refine bl_set ?_ (by exact Nat.le_refl _) _)
      · have hne : (ev[k].name.toList == name.toList) = false := by assumption
        go_roundw
        case rel => exact ⟨k + 1, by omega, by go_num, fun j h hj => by
          by_cases e : j = k
          · subst e; exact hne
          · exact HA.out j h (by omega), by repeat (first | exact HB.out | apply bl_alloc | refine bl_set ?_ (by exact Nat.le_refl _) _), by rw [Below.heap_alloc _ _ _ b1]; exact HZ.out⟩
        case measure => simp [intOf]; omega
    · go_wp2
      have he := getPair_miss (fun j h => HA.out j h (by omega))
      rw [he]
      refine bodyPost_ret (v := .tuple #[.agg #[.int .i64 0, .int .i64 0, .string ⟨#[]⟩], .bool false]) (by simp [results, Try.results62', go_sem, b1, b2, b3, hu44]) rfl ⟨rfl, ?_⟩
      repeat (first | exact HB.out | apply bl_alloc | refine bl_set ?_ (by exact Nat.le_refl _) _)
end Go.Proofs.Yticnbpefeoaamaa
