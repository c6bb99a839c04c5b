/- Contracts: whether a predicate in form is told of a value in form; no predicate at all. -/
import Derived.Test.YticnbpefeoaamaaTrH
namespace Go.Proofs.Yticnbpefeoaamaa
open Go.RowKit
set_option linter.unusedSimpArgs false
set_option linter.unusedVariables false

def word0 (p : PredD) : ByteArray := p.words.headD ⟨#[]⟩
def told (p : PredD) (v : ValD) : Bool :=
  if p.kind = 1 then v.kind == 1 && p.ints.any (fun y => v.int == y)
  else if p.kind = 2 then v.kind == 2 && p.words.any (fun y => v.word.toList == y.toList)
  else if p.kind = 3 then v.kind == 1 && (decide (p.lo ≤ v.int) && decide (v.int ≤ p.hi))
  else v.kind == 2 && begins v.word (word0 p)
theorem predOk_kind {p : PredD} (h : predOk p = true) : (p.kind = 1 ∧ p.words = []) ∨ (p.kind = 2 ∧ p.ints = []) ∨ p.kind = 3 ∨ (p.kind = 4 ∧ ∃ x, p.words = [x]) := by
  simp only [predOk, predShape, Bool.and_eq_true, Bool.or_eq_true, beq_iff_eq, decide_eq_true_eq] at h
  rcases h.2 with ((h | h) | h) | h
  · exact .inl ⟨h.1, List.eq_nil_of_length_eq_zero (by omega)⟩
  · exact .inr (.inl ⟨h.1, List.eq_nil_of_length_eq_zero (by omega)⟩)
  · exact .inr (.inr (.inl h.1))
  · exact .inr (.inr (.inr ⟨h.1, List.length_eq_one_iff.1 (by omega)⟩))
theorem valOk_kind {v : ValD} (h : valOk v = true) : v.kind = 1 ∨ v.kind = 2 := by
  simp only [valOk, Bool.and_eq_true, Bool.or_eq_true, beq_iff_eq] at h
  rcases h with h | h
  · exact .inl h.1.1.1
  · exact .inr h.1.1

set_option maxHeartbeats 1600000 in
set_option maxRecDepth 100000 in
theorem told_calls (w : World) (F : Fp) (p : PredD) (v : ValD) (A1 A2 : Option Addr) (c1 c2 : Nat) (h1 : Ty.i64.Row w F A1 p.ints) (h2 : Ty.str.Row w F A2 p.words) (hl1 : p.ints.length ≤ 9223372036854775807) (hl2 : p.words.length ≤ 9223372036854775807)
    (hp : predOk p = true) (hv : valOk v = true) :
    Calls Try.prog 65 #[.agg #[.int .i64 p.kind, .string p.attr, .slice A1 p.ints.length c1, .slice A2 p.words.length c2, .int .i64 p.lo, .int .i64 p.hi], .agg #[.int .i64 v.kind, .int .i64 v.int, .string v.word]] w fun e w' =>
      e = .returned (.bool (told p v)) ∧ Below w.heap.size w w' := by
  have H1 := Lib.hid h1
  have H2 := Lib.hid h2
  clear h1 h2
  have hk := predOk_kind hp
  have hv' := valOk_kind hv
  clear hp hv
  have B2 : ∀ o1 o2, Hid (Below w.heap.size w ((w.alloc o1).alloc o2)) := fun o1 o2 => bl_alloc (below1 _ _) _
  rcases hk with ⟨hk, he⟩ | ⟨hk, he⟩ | hk | ⟨hk, x, he⟩ <;> rcases hv' with hv' | hv'
  · have Hf : Hid (told p v = p.ints.any (fun y => v.int == y)) := by simp [told, hk, hv', Hid]
    clear he
    go_enter Try.func65, Try.ntmps65
    go_wp2_with fail
    refine (containsInt _ F A1 c1 p.ints v.int hl1 (Ty.Row_below (B2 _ _).out H1.out)).mono ?_
    rintro e w1 ⟨rfl, rfl⟩
    go_wp2
    go_ret
    exact ⟨by rw [Hf.out]; rfl, (B2 _ _).out⟩
  · have Hf : Hid (told p v = false) := by simp [told, hk, hv', Hid]
    clear he
    go_enter Try.func65, Try.ntmps65
    go_wp2_with fail
    go_ret
    exact ⟨by rw [Hf.out]; rfl, (B2 _ _).out⟩
  · have Hf : Hid (told p v = false) := by simp [told, hk, hv', Hid]
    clear he
    go_enter Try.func65, Try.ntmps65
    go_wp2_with fail
    go_ret
    exact ⟨by rw [Hf.out]; rfl, (B2 _ _).out⟩
  · have Hf : Hid (told p v = p.words.any (fun y => v.word.toList == y.toList)) := by simp [told, hk, hv', Hid]
    clear he
    go_enter Try.func65, Try.ntmps65
    go_wp2_with fail
    refine (containsStr _ F A2 c2 p.words v.word hl2 (Ty.Row_below (B2 _ _).out H2.out)).mono ?_
    rintro e w1 ⟨rfl, rfl⟩
    go_wp2
    go_ret
    exact ⟨by rw [Hf.out]; rfl, (B2 _ _).out⟩
  · have Hf : Hid (told p v = (decide (p.lo ≤ v.int) && decide (v.int ≤ p.hi))) := by simp [told, hk, hv', Hid]
    go_enter Try.func65, Try.ntmps65
    go_wp2_with fail
    all_goals
      go_ret
      refine ⟨?_, (B2 _ _).out⟩
      rw [Hf.out]
      clear H1 H2 Hf B2
      go_tidy
      simp_all <;> omega
  · have Hf : Hid (told p v = false) := by simp [told, hk, hv', Hid]
    go_enter Try.func65, Try.ntmps65
    go_wp2_with fail
    go_ret
    exact ⟨by rw [Hf.out]; rfl, (B2 _ _).out⟩
  · have Hf : Hid (told p v = false) := by simp [told, hk, hv', Hid]
    clear he
    go_enter Try.func65, Try.ntmps65
    go_wp2_with fail
    go_quiet (fail)
    go_wp2
    go_ret
    exact ⟨by rw [Hf.out]; rfl, bl_drewN (B2 _ _).out _⟩
  · have Hf : Hid (told p v = begins v.word x) := by simp [told, hk, hv', he, word0, Hid]
    obtain ⟨ad, rfl, d0⟩ := Ty.str_at H2.out 0 (by rw [he]; simp)
    have hx : p.words[0]'(by rw [he]; simp) = x := by simp [he]
    rw [hx] at d0
    have d1 : w.cell? ad = some (.string x) := by simpa [Addr.add] using d0
    have hblk := World.block_lt_of_cell? w _ d1
    clear d0
    have hlen : p.words.length = 1 := by rw [he]; rfl
    clear he hx
    go_enter Try.func65, Try.ntmps65
    go_wp2_with fail
    go_quiet ((go_at_call 102; exact quiet_same (hasPrefix_calls _ _ _)))
    go_wp2
    go_ret
    exact ⟨by rw [Hf.out]; rfl, bl_drewN (B2 _ _).out _⟩

def zeroPred (p : PredD) : Bool := p.kind == 0 && p.attr.toList.isEmpty && p.ints.isEmpty && p.words.isEmpty && p.lo == 0 && p.hi == 0
set_option maxHeartbeats 1600000 in
theorem zero_calls (w : World) (p : PredD) (A1 A2 : Option Addr) (c1 c2 : Nat) :
    Calls Try.prog 72 #[.agg #[.int .i64 p.kind, .string p.attr, .slice A1 p.ints.length c1, .slice A2 p.words.length c2, .int .i64 p.lo, .int .i64 p.hi]] w fun e w' =>
      e = .returned (.bool (zeroPred p)) ∧ Below w.heap.size w w' := by
  go_enter Try.func72, Try.ntmps72
  go_wp2
  all_goals
    go_ret
    refine ⟨?_, below1 _ _⟩
    go_tidy
    simp_all [zeroPred]
end Go.Proofs.Yticnbpefeoaamaa
