/- Contracts: a tree in form, by the program and by the reference. -/
import Derived.Test.YticnbpefeoaamaaTrP
namespace Go.Proofs.Yticnbpefeoaamaa
open Go.RowKit
set_option linter.unusedSimpArgs false
set_option linter.unusedVariables false

theorem form2 (g : Nat) (b1 b2 : Bool) (t : TypeId) (fr : Nat × Nat) (w : World) (h : w.heap[g]? = some (.cells #[.bool b1, .bool b2] t fr)) :
    Calls Try.prog 77 #[.slice (some ⟨g, 0, none⟩) 2 2] w fun e w' => e = .returned (.int .i64 (errno (b1 && b2))) ∧ w = w' :=
  (form_calls w (fun _ => True) (some ⟨g, 0, none⟩) 2 [b1, b2] (by simp) (Ty.Row_lit [b1, b2] h trivial)).mono fun e w' ⟨he, hw⟩ => ⟨by rw [he]; simp, hw⟩
theorem form1 (g : Nat) (b1 : Bool) (t : TypeId) (fr : Nat × Nat) (w : World) (h : w.heap[g]? = some (.cells #[.bool b1] t fr)) :
    Calls Try.prog 77 #[.slice (some ⟨g, 0, none⟩) 1 1] w fun e w' => e = .returned (.int .i64 (errno b1)) ∧ w = w' :=
  (form_calls w (fun _ => True) (some ⟨g, 0, none⟩) 1 [b1] (by simp) (Ty.Row_lit [b1] h trivial)).mono fun e w' ⟨he, hw⟩ => ⟨by rw [he]; simp, hw⟩

theorem errno_eq (b : Bool) : (errno b == 0) = b := by cases b <;> rfl
theorem len_isEmpty {α : Type} (l : List α) : ((l.length : Int) == 0) = l.isEmpty := by cases l with
  | nil => rfl
  | cons a l => simp; omega
theorem len_one {α : Type} (l : List α) : ((l.length : Int) == 1) = (l.length == 1) := by
  rw [Bool.eq_iff_iff]; simp; omega
theorem len_more {α : Type} (l : List α) : decide (1 < (l.length : Int)) = decide (1 < l.length) := by
  rw [Bool.eq_iff_iff]; simp; omega
theorem boxAt_mk {w W : World} {g : Nat} {cs : Array Value} {t : TypeId} (hb : Below w.heap.size w W) (h : W.heap[g]? = some (.cells cs t (0, 0))) :
    Below w.heap.size w W ∧ W.heap[g]? = some (.cells cs t (0, 0)) ∧ ∀ o, W.cell? ⟨g, o, none⟩ = cs[o]? := ⟨hb, h, (blk_facts h).2.2⟩
theorem boxAt_drew {w W : World} {g : Nat} {cs : Array Value} {t : TypeId} (h : Below w.heap.size w W ∧ W.heap[g]? = some (.cells cs t (0, 0)) ∧ ∀ o, W.cell? ⟨g, o, none⟩ = cs[o]?) :
    Below w.heap.size w W.drew ∧ W.drew.heap[g]? = some (.cells cs t (0, 0)) ∧ ∀ o, W.drew.cell? ⟨g, o, none⟩ = cs[o]? := boxAt_mk (bl_drew h.1) h.2.1
theorem boxAt_alloc {w W : World} {g : Nat} {cs : Array Value} {t : TypeId} (h : Below w.heap.size w W ∧ W.heap[g]? = some (.cells cs t (0, 0)) ∧ ∀ o, W.cell? ⟨g, o, none⟩ = cs[o]?) (o' : Obj) :
    Below w.heap.size w (W.alloc o') ∧ (W.alloc o').heap[g]? = some (.cells cs t (0, 0)) ∧ ∀ o, (W.alloc o').cell? ⟨g, o, none⟩ = cs[o]? := boxAt_mk (bl_alloc h.1 _) (blk_alloc h.2.1 _)
theorem boxAt_below {w W W' : World} {g : Nat} {cs : Array Value} {t : TypeId} (h : Below w.heap.size w W ∧ W.heap[g]? = some (.cells cs t (0, 0)) ∧ ∀ o, W.cell? ⟨g, o, none⟩ = cs[o]?) (hb : Below W.heap.size W W') :
    Below w.heap.size w W' ∧ W'.heap[g]? = some (.cells cs t (0, 0)) ∧ ∀ o, W'.cell? ⟨g, o, none⟩ = cs[o]? := boxAt_mk (bl_trans h.1 hb) (blk_below hb h.2.1)

/-- What Check answers, in every world. -/
def CheckSaid (n : NodeD) : Prop := ∀ (w : World) (F : Fp) (cs : List Value), Ty.node.K w F n cs → Calls Try.prog 34 #[.agg cs.toArray] w fun e w' => e = .returned (.int .i64 (errno (check n))) ∧ Below w.heap.size w w'
theorem checkFn : IsFn 79 := isFn_of Try.func79 (by kernel_rfl) (by kernel_rfl)
set_option maxHeartbeats 800000 in
theorem checkIn (n : NodeD) (hn : CheckSaid n) (w : World) (F : Fp) (cs : List Value) (h : Ty.node.K w F n cs) : Calls Try.prog 79 (#[.agg cs.toArray] ++ #[]) w fun e w' => e = .returned (.bool (check n)) ∧ Below w.heap.size w w' := by
  obtain ⟨A1, c1, A2, c2, A3, c3, rfl, h1, h2, h3⟩ := Ty.node_open h
  have H := Lib.hid hn
  have HK := Lib.hid h
  clear hn h h1 h2 h3
  show Calls Try.prog 79 #[_] w _
  go_enter Try.func79, Try.ntmps79
  go_wp2_with fail
  refine (H.out _ F _ (Ty.node.kbelow (below1 _ _) HK.out)).mono ?_
  rintro e w1 ⟨rfl, hb⟩
  have HB := Lib.hid (bl_trans (below1 _ _) hb)
  clear hb
  cases hc : check n <;> (have HC := Lib.hid hc; clear hc; simp only [errno]; go_wp2; go_ret; exact ⟨by rw [HC.out]; rfl, HB.out⟩)

set_option maxHeartbeats 3200000 in
set_option maxRecDepth 100000 in
theorem check_calls : ∀ n, CheckSaid n := by
  refine NodeD.ind fun p op kids ih w F cs h => ?_
  obtain ⟨A1, c1, A2, c2, A3, c3, rfl, h1, h2, h3⟩ := Ty.node_open h
  simp only [NodeD.p, NodeD.op, NodeD.kids] at h1 h2 h3 ⊢
  obtain ⟨B1, d1, e1, hc1, hm1, r1⟩ := h1
  obtain ⟨B2, d2, e2, hc2, hm2, r2⟩ := h2
  obtain ⟨B3, d3, e3, hc3, hm3, r3⟩ := h3
  cases e1; cases e2; cases e3
  have hl1 : p.ints.length ≤ 9223372036854775807 := by unfold maxLen at hm1; omega
  have hl2 : p.words.length ≤ 9223372036854775807 := by unfold maxLen at hm2; omega
  have hl3 : kids.length ≤ 9223372036854775807 := by unfold maxLen at hm3; omega
  clear hm1 hm2 hm3 hc1 hc2 hc3 h
  have H1 := Lib.hid r1
  have H2 := Lib.hid r2
  have H3 := Lib.hid r3
  have IH := Lib.hid ih
  clear r1 r2 r3 ih
  have hce := Lib.hid (check_eq p op kids)
  go_enter Try.func34, Try.ntmps34
  go_wp2_with fail
  refine (samePred_calls _ F (fun _ => True) p PredD.zero A1 A2 none none c1 c2 0 0 (Ty.Row_below (below1 _ _) H1.out) (Ty.Row_below (below1 _ _) H2.out) (Ty.Row_nil _ _ _ _) (Ty.Row_nil _ _ _ _) hl1 hl2).mono ?_
  rintro e w1 ⟨rfl, hb⟩
  have HB := Lib.hid (bl_trans (below1 _ _) hb)
  have HX := Lib.hid (blk_below hb (heap_alloc_new w _))
  clear hb
  obtain ⟨x1, x2, x3⟩ := blk_facts HX.out
  rw [samePred_zero]
  go_wp2_with fail
  · go_region_held3 (fun W => Below w.heap.size w W ∧ W.heap[w.heap.size]? = some (.cells #[.int .i64 p.kind, .string p.attr, .slice A1 p.ints.length c1, .slice A2 p.words.length c2, .int .i64 p.lo, .int .i64 p.hi, .int .i64 op, .slice A3 kids.length c3] 32 (0, 0)) ∧
        ∀ o, W.cell? ⟨w.heap.size, o, none⟩ = #[.int .i64 p.kind, .string p.attr, .slice A1 p.ints.length c1, .slice A2 p.words.length c2, .int .i64 p.lo, .int .i64 p.hi, .int .i64 op, .slice A3 kids.length c3][o]?)
      (first | exact boxAt_mk (bl_drew HB.out) HX.out | exact boxAt_alloc (by assumption) _ | exact boxAt_below (by assumption) hb | assumption)
      (first
        | (go_at_call 63; (with_reducible refine (pred_calls _ F p A1 A2 c1 c2 (Ty.Row_below (And.left (by assumption : Below w.heap.size w _ ∧ _)) H1.out) (Ty.Row_below (And.left (by assumption : Below w.heap.size w _ ∧ _)) H2.out) hl1 hl2).mono ?_); rintro e w3 ⟨rfl, hb⟩)
        | (go_at_call 77; (refine (form2 _ _ _ 4 (0, 0) _ (heap_alloc_new _ _)).mono ?_); rintro e w4 ⟨rfl, rfl⟩))
    have ho : (op == 1) = true := by assumption
    have hb4 := Lib.hid (And.left (by assumption : Below w.heap.size w _ ∧ _))
    have Hf : Hid (check (.mk p op kids) = (errno (predOk p) == 0 && (kids.length : Int) == 0)) := by
      rw [Hid, check_eq, if_pos (by simpa using ho), errno_eq, len_isEmpty]
    go_wp2
    go_ret
    exact ⟨by rw [Hf.out]; rfl, hb4.out⟩
  · have ho : (op == 2) = true := by assumption
    have Hf : Hid (check (.mk p op kids) = (zeroPred p && (kids.length : Int) == 1 && kids.all check)) := by
      have : op = 2 := by simpa using ho
      subst this
      rw [Hid, check_eq, if_neg (by decide), if_pos rfl, len_one]
    clear ho
    refine (form2 _ _ _ 4 (0, 0) _ (heap_alloc_new _ _)).mono ?_
    rintro e w4 ⟨rfl, rfl⟩
    have HB1 := Lib.hid (bl_alloc HB.out (.cells #[.bool (zeroPred p), .bool ((kids.length : Int) == 1)] 4))
    have HX1 := Lib.hid (blk_alloc HX.out (.cells #[.bool (zeroPred p), .bool ((kids.length : Int) == 1)] 4))
    clear HB HX x1 x2 x3
    obtain ⟨x1, x2, x3⟩ := blk_facts HX1.out
    cases hz : (zeroPred p && (kids.length : Int) == 1) with
    | false =>
      have Hg : Hid (check (.mk p op kids) = false) := by rw [Hid, Hf.out, hz]; rfl
      clear hz
      simp only [errno]
      go_wp2
      go_ret
      exact ⟨by rw [Hg.out]; rfl, HB1.out⟩
    | true =>
      have Hg : Hid (check (.mk p op kids) = kids.all check) := by rw [Hid, Hf.out, hz]; rfl
      clear hz
      simp only [errno]
      go_wp2_with fail
      refine (everyNode _ F A3 c3 kids hl3 (Ty.Row_below HB1.out H3.out) 79 #[] check checkFn (fun W hW j hj cs hn => checkIn kids[j] (IH.out j hj) W F cs hn)).mono ?_
      rintro e w5 ⟨rfl, hb⟩
      have HB2 := Lib.hid (bl_trans HB1.out hb)
      clear hb HB1 HX1 x1 x2 x3
      go_wp2_with fail
      refine (form1 _ _ 4 (0, 0) _ (heap_alloc_new _ _)).mono ?_
      rintro e w6 ⟨rfl, rfl⟩
      go_wp2
      go_ret
      exact ⟨by rw [Hg.out]; rfl, bl_alloc HB2.out _⟩
  all_goals first
    | (refine (form2 _ _ _ 4 (0, 0) _ (heap_alloc_new _ _)).mono ?_
       rintro e w4 ⟨rfl, rfl⟩
       have Hf : Hid (check (.mk p op kids) = (zeroPred p && decide (1 < (kids.length : Int)) && kids.all check)) := by
         have : op = 3 ∨ op = 4 := by first | exact .inl (by simpa using (by assumption : (op == 3) = true)) | exact .inr (by simpa using (by assumption : (op == 4) = true))
         rw [Hid, check_eq, if_neg (by omega), if_neg (by omega), if_pos this, len_more]
       have HB1 := Lib.hid (bl_alloc HB.out (.cells #[.bool (zeroPred p), .bool (decide (1 < (kids.length : Int)))] 4))
       have HX1 := Lib.hid (blk_alloc HX.out (.cells #[.bool (zeroPred p), .bool (decide (1 < (kids.length : Int)))] 4))
       clear HB HX x1 x2 x3
       obtain ⟨x1, x2, x3⟩ := blk_facts HX1.out
       cases hz : (zeroPred p && decide (1 < (kids.length : Int))) with
       | false =>
         have Hg : Hid (check (.mk p op kids) = false) := by rw [Hid, Hf.out, hz]; rfl
         clear hz
         simp only [errno]
         go_wp2
         go_ret
         exact ⟨by rw [Hg.out]; rfl, HB1.out⟩
       | true =>
         have Hg : Hid (check (.mk p op kids) = kids.all check) := by rw [Hid, Hf.out, hz]; rfl
         clear hz
         simp only [errno]
         go_wp2_with fail
         refine (everyNode _ F A3 c3 kids hl3 (Ty.Row_below HB1.out H3.out) 79 #[] check checkFn (fun W hW j hj cs hn => checkIn kids[j] (IH.out j hj) W F cs hn)).mono ?_
         rintro e w5 ⟨rfl, hb⟩
         have HB2 := Lib.hid (bl_trans HB1.out hb)
         clear hb HB1 HX1 x1 x2 x3
         go_wp2_with fail
         refine (form1 _ _ 4 (0, 0) _ (heap_alloc_new _ _)).mono ?_
         rintro e w6 ⟨rfl, rfl⟩
         go_wp2
         go_ret
         exact ⟨by rw [Hg.out]; rfl, bl_alloc HB2.out _⟩)
    | (have h1 : (op == 1) = false := by assumption
       have h2 : (op == 2) = false := by assumption
       have h3 : (op == 3) = false := by assumption
       have h4 : (op == 4) = false := by assumption
       have Hg : Hid (check (.mk p op kids) = false) := by
         simp only [beq_eq_false_iff_ne, ne_eq] at h1 h2 h3 h4
         rw [Hid, check_eq, if_neg h1, if_neg h2, if_neg (by omega)]
       go_ret
       exact ⟨by rw [Hg.out]; rfl, HB.out⟩)
end Go.Proofs.Yticnbpefeoaamaa
