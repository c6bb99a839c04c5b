/- Contracts: two lists held against each other; two predicates. -/
import Derived.Test.YticnbpefeoaamaaTrK
namespace Go.Proofs.Yticnbpefeoaamaa
open Go.RowKit
set_option linter.unusedSimpArgs false
set_option linter.unusedVariables false

/-- Two lists, element by element. -/
def eqBy {α : Type} (q : α → α → Bool) (xs ys : List α) : Bool := decide (xs.length = ys.length) && (xs.zip ys).all (fun p => q p.1 p.2)
theorem eqBy_len {α : Type} {q : α → α → Bool} {xs ys : List α} (h : ¬ xs.length = ys.length) : eqBy q xs ys = false := by simp [eqBy, h]
theorem eqBy_no {α : Type} {q : α → α → Bool} {xs ys : List α} {k : Nat} (h1 : k < xs.length) (h2 : k < ys.length) (h : q xs[k] ys[k] = false) : eqBy q xs ys = false := by
  rw [eqBy, Bool.and_eq_false_iff, List.all_eq_false]
  refine .inr ⟨(xs[k], ys[k]), ?_, by simp [h]⟩
  rw [List.mem_iff_getElem]
  exact ⟨k, by simp; omega, by simp⟩
theorem eqBy_yes {α : Type} {q : α → α → Bool} {xs ys : List α} (h : xs.length = ys.length) (hq : ∀ j, (h1 : j < xs.length) → (h2 : j < ys.length) → q xs[j] ys[j] = true) : eqBy q xs ys = true := by
  rw [eqBy, Bool.and_eq_true, List.all_eq_true]
  refine ⟨by simp [h], fun p hp => ?_⟩
  obtain ⟨j, hj, rfl⟩ := List.getElem_of_mem hp
  simp only [List.length_zip] at hj
  simpa using hq j (by omega) (by omega)
theorem eqBy_iff {α : Type} {q : α → α → Bool} {xs ys : List α} : eqBy q xs ys = true ↔ xs.length = ys.length ∧ ∀ j, (h1 : j < xs.length) → (h2 : j < ys.length) → q xs[j] ys[j] = true := by
  constructor
  · intro h
    refine ⟨?_, fun j h1 h2 => ?_⟩
    · by_cases e : xs.length = ys.length
      · exact e
      · rw [eqBy_len e] at h; cases h
    · cases e : q xs[j] ys[j] with
      | true => rfl
      | false => rw [eqBy_no h1 h2 e] at h; cases h
  · exact fun h => eqBy_yes h.1 h.2

set_option maxHeartbeats 800000 in
set_option maxRecDepth 100000 in
theorem equalInt (w : World) (F F' : Fp) (A A' : Option Addr) (c c' : Nat) (xs ys : List Int) (hl : xs.length ≤ 9223372036854775807) (h : Ty.i64.Row w F A xs) (h' : Ty.i64.Row w F' A' ys) :
    Calls Try.prog 108 #[.slice A xs.length c, .slice A' ys.length c'] w fun e w' => e = .returned (.bool (eqBy (fun x y => x == y) xs ys)) ∧ Below w.heap.size w w' := by
  have HR := Lib.hid h
  have HS := Lib.hid h'
  clear h h'
  by_cases hlen : xs.length = ys.length
  · have e1 : ((xs.length : Int) != ys.length) = false := by simp [hlen]
    have e1' : ((xs.length : Int) == ys.length) = true := by simp [hlen]
    have HL := Lib.hid hlen
    clear hlen
    go_enter Try.func108, Try.ntmps108
    go_wp2_with fail
    go_loopw [13] (fun i wr => ∃ k : Nat, k ≤ xs.length ∧ i = .int .i64 k ∧ Hid (∀ j, (h1 : j < xs.length) → (h2 : j < ys.length) → j < k → (fun x y => x == y) xs[j] ys[j] = true) ∧ Hid (Below w.heap.size w wr)) (fun i _ => xs.length - (intOf i).toNat)
    case atStart => exact ⟨0, Nat.zero_le _, rfl, fun j h1 h2 hj => by omega, Below.refl _ _⟩
    case round =>
      obtain ⟨k, hk, rfl, HA, HB⟩ := hrel
      by_cases hlt : k < xs.length
      · have hlt2 : k < ys.length := by have := HL.out; omega
        obtain ⟨ad, rfl, c0⟩ := Ty.int_at (Ty.Row_below HB.out HR.out) k hlt
        obtain ⟨ad', rfl, c0'⟩ := Ty.int_at (Ty.Row_below HB.out HS.out) k hlt2
        cases hp : (fun x y => x == y) xs[k] ys[k] with
        | false =>
          have Hf : Hid (eqBy (fun x y => x == y) xs ys = false) := eqBy_no hlt hlt2 hp
          simp only at hp
          go_wp2_with fail
          go_quiet (fail)
          go_wp2
          go_ret
          exact ⟨by rw [Hf.out]; rfl, bl_drewN HB.out _⟩
        | true =>
          have HP := Lib.hid hp
          simp only at hp
          go_wp2_with fail
          go_quiet (fail)
          go_wp2
          go_roundw
          case rel => exact ⟨k + 1, by omega, by go_num, fun j h1 h2 hj => by
            by_cases e : j = k
            · subst e; exact HP.out
            · exact HA.out j h1 h2 (by omega), bl_drewN HB.out _⟩
          case measure => simp [intOf]; omega
      · have Hf : Hid (eqBy (fun x y => x == y) xs ys = true) := eqBy_yes HL.out (fun j h1 h2 => HA.out j h1 h2 (by omega))
        go_wp2
        go_ret
        exact ⟨by rw [Hf.out]; rfl, HB.out⟩
  · have e1 : ((xs.length : Int) != ys.length) = true := by simp; omega
    have e1' : ((xs.length : Int) == ys.length) = false := by simp; omega
    have Hf : Hid (eqBy (fun x y => x == y) xs ys = false) := eqBy_len hlen
    go_enter Try.func108, Try.ntmps108
    go_wp2_with fail
    go_ret
    exact ⟨by rw [Hf.out]; rfl, Below.refl _ _⟩

set_option maxHeartbeats 800000 in
set_option maxRecDepth 100000 in
theorem equalStr (w : World) (F F' : Fp) (A A' : Option Addr) (c c' : Nat) (xs ys : List ByteArray) (hl : xs.length ≤ 9223372036854775807) (h : Ty.str.Row w F A xs) (h' : Ty.str.Row w F' A' ys) :
    Calls Try.prog 109 #[.slice A xs.length c, .slice A' ys.length c'] w fun e w' => e = .returned (.bool (eqBy (fun x y => x.toList == y.toList) xs ys)) ∧ Below w.heap.size w w' := by
  have HR := Lib.hid h
  have HS := Lib.hid h'
  clear h h'
  by_cases hlen : xs.length = ys.length
  · have e1 : ((xs.length : Int) != ys.length) = false := by simp [hlen]
    have e1' : ((xs.length : Int) == ys.length) = true := by simp [hlen]
    have HL := Lib.hid hlen
    clear hlen
    go_enter Try.func109, Try.ntmps109
    go_wp2_with fail
    go_loopw [13] (fun i wr => ∃ k : Nat, k ≤ xs.length ∧ i = .int .i64 k ∧ Hid (∀ j, (h1 : j < xs.length) → (h2 : j < ys.length) → j < k → (fun x y => x.toList == y.toList) xs[j] ys[j] = true) ∧ Hid (Below w.heap.size w wr)) (fun i _ => xs.length - (intOf i).toNat)
    case atStart => exact ⟨0, Nat.zero_le _, rfl, fun j h1 h2 hj => by omega, Below.refl _ _⟩
    case round =>
      obtain ⟨k, hk, rfl, HA, HB⟩ := hrel
      by_cases hlt : k < xs.length
      · have hlt2 : k < ys.length := by have := HL.out; omega
        obtain ⟨ad, rfl, c0⟩ := Ty.str_at (Ty.Row_below HB.out HR.out) k hlt
        obtain ⟨ad', rfl, c0'⟩ := Ty.str_at (Ty.Row_below HB.out HS.out) k hlt2
        cases hp : (fun x y => x.toList == y.toList) xs[k] ys[k] with
        | false =>
          have Hf : Hid (eqBy (fun x y => x.toList == y.toList) xs ys = false) := eqBy_no hlt hlt2 hp
          simp only at hp
          go_wp2_with fail
          go_quiet (fail)
          go_wp2
          go_ret
          exact ⟨by rw [Hf.out]; rfl, bl_drewN HB.out _⟩
        | true =>
          have HP := Lib.hid hp
          simp only at hp
          go_wp2_with fail
          go_quiet (fail)
          go_wp2
          go_roundw
          case rel => exact ⟨k + 1, by omega, by go_num, fun j h1 h2 hj => by
            by_cases e : j = k
            · subst e; exact HP.out
            · exact HA.out j h1 h2 (by omega), bl_drewN HB.out _⟩
          case measure => simp [intOf]; omega
      · have Hf : Hid (eqBy (fun x y => x.toList == y.toList) xs ys = true) := eqBy_yes HL.out (fun j h1 h2 => HA.out j h1 h2 (by omega))
        go_wp2
        go_ret
        exact ⟨by rw [Hf.out]; rfl, HB.out⟩
  · have e1 : ((xs.length : Int) != ys.length) = true := by simp; omega
    have e1' : ((xs.length : Int) == ys.length) = false := by simp; omega
    have Hf : Hid (eqBy (fun x y => x.toList == y.toList) xs ys = false) := eqBy_len hlen
    go_enter Try.func109, Try.ntmps109
    go_wp2_with fail
    go_ret
    exact ⟨by rw [Hf.out]; rfl, Below.refl _ _⟩

def samePred (a b : PredD) : Bool := a.kind == b.kind && (a.attr.toList == b.attr.toList && (a.lo == b.lo && (a.hi == b.hi && (eqBy (fun x y => x == y) a.ints b.ints && eqBy (fun x y => x.toList == y.toList) a.words b.words))))
set_option maxHeartbeats 1600000 in
set_option maxRecDepth 100000 in
theorem samePred_calls (w : World) (F F' : Fp) (p q : PredD) (A1 A2 B1 B2 : Option Addr) (c1 c2 d1 d2 : Nat) (h1 : Ty.i64.Row w F A1 p.ints) (h2 : Ty.str.Row w F A2 p.words) (g1 : Ty.i64.Row w F' B1 q.ints) (g2 : Ty.str.Row w F' B2 q.words)
    (hl1 : p.ints.length ≤ 9223372036854775807) (hl2 : p.words.length ≤ 9223372036854775807) :
    Calls Try.prog 76 #[.agg #[.int .i64 p.kind, .string p.attr, .slice A1 p.ints.length c1, .slice A2 p.words.length c2, .int .i64 p.lo, .int .i64 p.hi],
      .agg #[.int .i64 q.kind, .string q.attr, .slice B1 q.ints.length d1, .slice B2 q.words.length d2, .int .i64 q.lo, .int .i64 q.hi]] w fun e w' =>
      e = .returned (.bool (samePred p q)) ∧ Below w.heap.size w w' := by
  have B2' : ∀ o1 o2, Hid (Below w.heap.size w ((w.alloc o1).alloc o2)) := fun o1 o2 => bl_alloc (below1 _ _) _
  have H1 := Lib.hid h1
  have H2 := Lib.hid h2
  have G1 := Lib.hid g1
  have G2 := Lib.hid g2
  clear h1 h2 g1 g2
  cases hk : p.kind == q.kind with
  | false =>
    have Hf : Hid (samePred p q = false) := by simp only [samePred, hk, Hid, Bool.false_and]
    go_enter Try.func76, Try.ntmps76
    go_wp2_with fail
    go_ret
    exact ⟨by rw [Hf.out]; rfl, (B2' _ _).out⟩
  | true =>
  cases ha : p.attr.toList == q.attr.toList with
  | false =>
    have Hf : Hid (samePred p q = false) := by simp only [samePred, ha, Hid, Bool.false_and, Bool.and_false]
    go_enter Try.func76, Try.ntmps76
    go_wp2_with fail
    go_ret
    exact ⟨by rw [Hf.out]; rfl, (B2' _ _).out⟩
  | true =>
  cases hlo : p.lo == q.lo with
  | false =>
    have Hf : Hid (samePred p q = false) := by simp only [samePred, hlo, Hid, Bool.false_and, Bool.and_false]
    go_enter Try.func76, Try.ntmps76
    go_wp2_with fail
    go_ret
    exact ⟨by rw [Hf.out]; rfl, (B2' _ _).out⟩
  | true =>
  cases hhi : p.hi == q.hi with
  | false =>
    have Hf : Hid (samePred p q = false) := by simp only [samePred, hhi, Hid, Bool.false_and, Bool.and_false]
    go_enter Try.func76, Try.ntmps76
    go_wp2_with fail
    go_ret
    exact ⟨by rw [Hf.out]; rfl, (B2' _ _).out⟩
  | true =>
  have Hs : Hid (samePred p q = (eqBy (fun x y => x == y) p.ints q.ints && eqBy (fun x y => x.toList == y.toList) p.words q.words)) := by simp only [samePred, hk, ha, hlo, hhi, Hid, Bool.true_and]
  go_enter Try.func76, Try.ntmps76
  go_wp2_with fail
  have HX := Lib.hid (blk_alloc (heap_alloc_new w (.cells #[.int .i64 p.kind, .string p.attr, .slice A1 p.ints.length c1, .slice A2 p.words.length c2, .int .i64 p.lo, .int .i64 p.hi] 30)) (.cells #[.int .i64 q.kind, .string q.attr, .slice B1 q.ints.length d1, .slice B2 q.words.length d2, .int .i64 q.lo, .int .i64 q.hi] 30))
  have HY := Lib.hid (heap_alloc2 w (.cells #[.int .i64 p.kind, .string p.attr, .slice A1 p.ints.length c1, .slice A2 p.words.length c2, .int .i64 p.lo, .int .i64 p.hi] 30) (.cells #[.int .i64 q.kind, .string q.attr, .slice B1 q.ints.length d1, .slice B2 q.words.length d2, .int .i64 q.lo, .int .i64 q.hi] 30))
  refine (equalInt _ F F' A1 B1 c1 d1 p.ints q.ints hl1 (Ty.Row_below (B2' _ _).out H1.out) (Ty.Row_below (B2' _ _).out G1.out)).mono ?_
  rintro e w1 ⟨rfl, hb⟩
  have HB := Lib.hid (bl_trans (B2' _ _).out hb)
  have HX1 := Lib.hid (blk_below hb HX.out)
  have HY1 := Lib.hid (blk_below hb HY.out)
  clear hb HX HY
  obtain ⟨x1, x2, x3⟩ := blk_facts HX1.out
  obtain ⟨y1, y2, y3⟩ := blk_facts HY1.out
  cases he : eqBy (fun x y => x == y) p.ints q.ints with
  | false =>
    have Hf : Hid (samePred p q = false) := by rw [Hid, Hs.out, he]; rfl
    clear he
    go_wp2
    go_ret
    exact ⟨by rw [Hf.out]; rfl, HB.out⟩
  | true =>
    have Hf : Hid (samePred p q = eqBy (fun x y => x.toList == y.toList) p.words q.words) := by rw [Hid, Hs.out, he]; rfl
    clear he Hs
    go_wp2_with fail
    refine (equalStr _ F F' A2 B2 c2 d2 p.words q.words hl2 (Ty.Row_below HB.out H2.out) (Ty.Row_below HB.out G2.out)).mono ?_
    rintro e w2 ⟨rfl, hb⟩
    have HB2 := Lib.hid (bl_trans HB.out hb)
    clear hb
    go_wp2
    go_ret
    exact ⟨by rw [Hf.out]; rfl, HB2.out⟩

theorem samePred_zero (p : PredD) : samePred p PredD.zero = zeroPred p := by
  have e0 : (⟨#[]⟩ : ByteArray).toList = [] := by rw [ByteArray.toList_eq]
  have e1 : ∀ (l : List UInt8), (l == []) = l.isEmpty := fun l => by cases l <;> rfl
  have e2 : ∀ {α : Type} (q : α → α → Bool) (l : List α), eqBy q l [] = l.isEmpty := fun q l => by cases l <;> rfl
  simp only [samePred, zeroPred, PredD.zero, e0, e1, e2]
  cases p.kind == 0 <;> cases p.attr.toList.isEmpty <;> cases p.lo == 0 <;> cases p.hi == 0 <;> cases p.ints.isEmpty <;> cases p.words.isEmpty <;> rfl
end Go.Proofs.Yticnbpefeoaamaa
