/- Contracts: a predicate in form, whether it is told of a value, whether an event meets it. -/
import Derived.Test.YticnbpefeoaamaaTrF
import Derived.Deep.RegionHeld3
namespace Go.Proofs.Yticnbpefeoaamaa
open Go.RowKit
set_option linter.unusedSimpArgs false
set_option linter.unusedVariables false

def predShape (p : PredD) : Bool :=
  (p.kind == 1 && (decide (0 < p.ints.length) && (decide ((p.ints.length : Int) ≤ 64) && ((p.words.length : Int) == 0 && (p.lo == 0 && p.hi == 0))))) ||
  (p.kind == 2 && (decide (0 < p.words.length) && (decide ((p.words.length : Int) ≤ 64) && ((p.ints.length : Int) == 0 && (p.lo == 0 && p.hi == 0))))) ||
  (p.kind == 3 && ((p.ints.length : Int) == 0 && ((p.words.length : Int) == 0 && (numOk p.lo && numOk p.hi)))) ||
  (p.kind == 4 && ((p.words.length : Int) == 1 && ((p.ints.length : Int) == 0 && (p.lo == 0 && p.hi == 0))))
def predOk (p : PredD) : Bool := nameOk p.attr && p.ints.all numOk && p.words.all wordOk && predShape p

theorem shape1 {p : PredD} (h : (p.kind == 1) = true) : predShape p = (decide (0 < p.ints.length) && (decide ((p.ints.length : Int) ≤ 64) && ((p.words.length : Int) == 0 && (p.lo == 0 && p.hi == 0)))) := by
  have e : p.kind = 1 := by simpa using h
  simp [predShape, e]
theorem shape2 {p : PredD} (h : (p.kind == 2) = true) : predShape p = (decide (0 < p.words.length) && (decide ((p.words.length : Int) ≤ 64) && ((p.ints.length : Int) == 0 && (p.lo == 0 && p.hi == 0)))) := by
  have e : p.kind = 2 := by simpa using h
  simp [predShape, e]
theorem shape3 {p : PredD} (h : (p.kind == 3) = true) : predShape p = ((p.ints.length : Int) == 0 && ((p.words.length : Int) == 0 && (numOk p.lo && numOk p.hi))) := by
  have e : p.kind = 3 := by simpa using h
  simp [predShape, e]
theorem shape4 {p : PredD} (h : (p.kind == 4) = true) : predShape p = ((p.words.length : Int) == 1 && ((p.ints.length : Int) == 0 && (p.lo == 0 && p.hi == 0))) := by
  have e : p.kind = 4 := by simpa using h
  simp [predShape, e]
theorem shape0 {p : PredD} (h1 : (p.kind == 1) = false) (h2 : (p.kind == 2) = false) (h3 : (p.kind == 3) = false) (h4 : (p.kind == 4) = false) : predShape p = false := by
  simp [predShape, h1, h2, h3, h4]
theorem lo_yes {p : PredD} (h : p.lo = 0) : (p.lo == 0 && p.hi == 0) = (p.hi == 0) := by simp [h]
theorem lo_no {p : PredD} (h : ¬ p.lo = 0) : (p.lo == 0 && p.hi == 0) = false := by simp [h]

theorem form4 (g : Nat) (b1 b2 b3 b4 : Bool) (t : TypeId) (fr : Nat × Nat) (w : World) (h : w.heap[g]? = some (.cells #[.bool b1, .bool b2, .bool b3, .bool b4] t fr)) :
    Calls Try.prog 77 #[.slice (some ⟨g, 0, none⟩) 4 4] w fun e w' => e = .returned (.int .i64 (errno (b1 && (b2 && (b3 && b4))))) ∧ w = w' :=
  (form_calls w (fun _ => True) (some ⟨g, 0, none⟩) 4 [b1, b2, b3, b4] (by simp) (Ty.Row_lit [b1, b2, b3, b4] h trivial)).mono fun e w' ⟨he, hw⟩ => ⟨by rw [he]; simp, hw⟩
theorem form3 (g : Nat) (b1 b2 b3 : Bool) (t : TypeId) (fr : Nat × Nat) (w : World) (h : w.heap[g]? = some (.cells #[.bool b1, .bool b2, .bool b3] t fr)) :
    Calls Try.prog 77 #[.slice (some ⟨g, 0, none⟩) 3 3] w fun e w' => e = .returned (.int .i64 (errno (b1 && (b2 && b3)))) ∧ w = w' :=
  (form_calls w (fun _ => True) (some ⟨g, 0, none⟩) 3 [b1, b2, b3] (by simp) (Ty.Row_lit [b1, b2, b3] h trivial)).mono fun e w' ⟨he, hw⟩ => ⟨by rw [he]; simp, hw⟩
theorem numFn : IsFn 97 := isFn_of Try.func97 (by kernel_rfl) (by kernel_rfl)
theorem wordFn : IsFn 99 := isFn_of Try.func99 (by kernel_rfl) (by kernel_rfl)
theorem everyNum (w : World) (F : Fp) (A : Option Addr) (c : Nat) (xs : List Int) (hl : xs.length ≤ 9223372036854775807) (h : Ty.i64.Row w F A xs) :
    Calls Try.prog 96 #[.slice A xs.length c, .func (.func 97) #[] #[]] w fun e w' => e = .returned (.bool (xs.all numOk)) ∧ Below w.heap.size w w' :=
  everyInt w F A c xs hl h 97 #[] numOk numFn fun W _ j hj => (number_calls _ W).mono fun e W' ⟨he, hw⟩ => ⟨he, hw ▸ Below.refl _ _⟩
theorem everyWord (w : World) (F : Fp) (A : Option Addr) (c : Nat) (xs : List ByteArray) (hl : xs.length ≤ 9223372036854775807) (h : Ty.str.Row w F A xs) :
    Calls Try.prog 98 #[.slice A xs.length c, .func (.func 99) #[] #[]] w fun e w' => e = .returned (.bool (xs.all wordOk)) ∧ Below w.heap.size w w' :=
  everyStr w F A c xs hl h 99 #[] wordOk wordFn fun W _ j hj => (word_calls _ W).mono fun e W' ⟨he, hw⟩ => ⟨he, hw ▸ Below.refl _ _⟩

set_option maxHeartbeats 1600000 in
set_option maxRecDepth 100000 in
theorem pred_calls (w : World) (F : Fp) (p : PredD) (A1 A2 : Option Addr) (c1 c2 : Nat) (h1 : Ty.i64.Row w F A1 p.ints) (h2 : Ty.str.Row w F A2 p.words) (hl1 : p.ints.length ≤ 9223372036854775807) (hl2 : p.words.length ≤ 9223372036854775807) :
    Calls Try.prog 63 #[.agg #[.int .i64 p.kind, .string p.attr, .slice A1 p.ints.length c1, .slice A2 p.words.length c2, .int .i64 p.lo, .int .i64 p.hi]] w fun e w' =>
      e = .returned (.int .i64 (errno (predOk p))) ∧ Below w.heap.size w w' := by
  have H1 := Lib.hid h1
  have H2 := Lib.hid h2
  clear h1 h2
  go_enter Try.func63, Try.ntmps63
  go_wp2_with fail
  go_quiet (fail)
  go_wp2_with fail
  all_goals
    refine (name_calls _ _).mono ?_
    rintro e w1 ⟨rfl, rfl⟩
    cases hn : nameOk p.attr with
    | false =>
      have Hf : Hid (predOk p = false) := by simp [predOk, hn, Hid]
      clear hn
      go_wp2
      go_ret
      exact ⟨by rw [Hf.out]; rfl, bl_drewN (below1 _ _) _⟩
    | true =>
      have Hn := Lib.hid hn
      clear hn
      go_wp2_with fail
      refine (everyNum _ F A1 c1 p.ints hl1 (Ty.Row_below (bl_drewN (below1 _ _) _) H1.out)).mono ?_
      rintro e w1 ⟨rfl, hb⟩
      have HB1 := Lib.hid (bl_trans (bl_drewN (below1 _ _) _) hb)
      have HX := Lib.hid (blk_below hb (heap_alloc_new w _))
      clear hb
      cases hi : p.ints.all numOk with
      | false =>
        have Hf : Hid (predOk p = false) := by simp [predOk, hi, Hid]
        clear hi
        go_wp2
        go_ret
        exact ⟨by rw [Hf.out]; rfl, HB1.out⟩
      | true =>
        have Hi := Lib.hid hi
        clear hi
        obtain ⟨x1, x2, x3⟩ := blk_facts HX.out
        go_wp2_with fail
        refine (everyWord _ F A2 c2 p.words hl2 (Ty.Row_below HB1.out H2.out)).mono ?_
        rintro e w2 ⟨rfl, hb⟩
        have HB2 := Lib.hid (bl_trans HB1.out hb)
        have HX2 := Lib.hid (blk_below hb HX.out)
        clear hb HB1 HX x1 x2 x3
        cases hi : p.words.all wordOk with
        | false =>
          have Hf : Hid (predOk p = false) := by simp [predOk, hi, Hid]
          clear hi
          go_wp2
          go_ret
          exact ⟨by rw [Hf.out]; rfl, HB2.out⟩
        | true =>
          have Hw : Hid (predOk p = predShape p) := by simp [predOk, hi, Hn.out, Hi.out, Hid]
          clear hi Hn Hi
          obtain ⟨x1, x2, x3⟩ := blk_facts HX2.out
          go_wp2_with fail
          all_goals first
            | (go_at_call 77; (with_reducible refine (form4 _ _ _ _ _ _ _ _ (heap_alloc_new _ _)).mono ?_)
               rintro e w3 ⟨rfl, rfl⟩
               go_wp2
               go_ret
               refine ⟨?_, bl_alloc HB2.out _⟩
               first
                 | (rw [Hw.out, shape1 (by assumption)]; first | (rw [lo_yes (by assumption)]; rfl) | (rw [lo_no (by assumption)]; first | rfl | simp))
                 | (rw [Hw.out, shape2 (by assumption)]; first | (rw [lo_yes (by assumption)]; rfl) | (rw [lo_no (by assumption)]; first | rfl | simp)))
            | (go_at_call 77; (with_reducible refine (form3 _ _ _ _ _ _ _ (heap_alloc_new _ _)).mono ?_)
               rintro e w3 ⟨rfl, rfl⟩
               go_wp2
               go_ret
               refine ⟨?_, bl_alloc HB2.out _⟩
               rw [Hw.out, shape4 (by assumption)]; first | (rw [lo_yes (by assumption)]; rfl) | (rw [lo_no (by assumption)]; first | rfl | simp))
            | (go_ret
               refine ⟨?_, HB2.out⟩
               rw [Hw.out, shape0 (by assumption) (by assumption) (by assumption) (by assumption)]; rfl)
            | skip
          go_region_held3 (fun W => W.cell? ⟨w.heap.size, 4, none⟩ = some (.int .i64 p.lo) ∧ W.cell? ⟨w.heap.size, 5, none⟩ = some (.int .i64 p.hi)) (go_keep)
              (first
                | (go_at_call 97; (with_reducible refine (number_calls _ _).mono ?_); rintro e w3 ⟨rfl, rfl⟩)
                | (go_at_call 77; (refine (form4 _ _ _ _ _ 4 (0, 0) _ (heap_alloc_new w2.drew _)).mono ?_); rintro e w3 ⟨rfl, rfl⟩))
          go_wp2
          go_ret
          refine ⟨?_, by repeat (first | exact HB2.out | apply bl_drew | apply bl_alloc)⟩
          rw [Hw.out, shape3 (by assumption)]; first | rfl | simp [*]
end Go.Proofs.Yticnbpefeoaamaa
