/- Contracts: the truth of a tree in form. -/
import Derived.Test.YticnbpefeoaamaaTrM
namespace Go.Proofs.Yticnbpefeoaamaa
open Go.RowKit
set_option linter.unusedSimpArgs false
set_option linter.unusedVariables false

/-- What truth answers of a tree in form, in every world. -/
def TruthSaid (n : NodeD) : Prop := ∀ (w : World) (F : Fp) (cs : List Value) (A : Option Addr) (c : Nat) (ev : List PairD), check n = true → Ty.node.K w F n cs → Ty.pr.Row w F A ev → ev.length ≤ 9223372036854775807 →
  Calls Try.prog 60 #[.agg cs.toArray, .slice A ev.length c] w fun e w' => e = .returned (.bool (truth ev n)) ∧ Below w.heap.size w w'
theorem truthFn1 : IsFn 92 := isFn_of Try.func92 (by kernel_rfl) (by kernel_rfl)
theorem truthFn2 : IsFn 94 := isFn_of Try.func94 (by kernel_rfl) (by kernel_rfl)
theorem store_func (P : Program) (fn : Fn) (first cap : Array Value) (a : Addr) (w : World) (h : (w.cell? a).isSome = true) (hz : w.frozen? a = false) : (store a (.func fn first cap)).run P w = .ok () (w.setCell a (.func fn first cap)) := by
  rw [run_store _ _ _ _ _ rfl]
  cases e : w.cell? a with
  | none => rw [e] at h; cases h
  | some v => simp [hz]
theorem add_zero' (ad : Addr) : ad.add 0 = ad := by simp [Addr.add]
/-- Two local variables in memory, and all that is older: what a region that draws its order holds on to. -/
theorem box2_mk {w W : World} {g g' : Nat} {cs cs' : Array Value} {t t' : TypeId} (hb : Below w.heap.size w W) (h : W.heap[g]? = some (.cells cs t (0, 0))) (h' : W.heap[g']? = some (.cells cs' t' (0, 0))) :
    Below w.heap.size w W ∧ W.heap[g]? = some (.cells cs t (0, 0)) ∧ W.heap[g']? = some (.cells cs' t' (0, 0)) ∧ (∀ o, W.cell? ⟨g, o, none⟩ = cs[o]?) ∧ (∀ o, W.cell? ⟨g', o, none⟩ = cs'[o]?) ∧ ∀ a : Addr, a.block < w.heap.size → W.cell? a = w.cell? a :=
  ⟨hb, h, h', (blk_facts h).2.2, (blk_facts h').2.2, fun a ha => hb.cell ha⟩
theorem box2_below {w W W' : World} {g g' : Nat} {cs cs' : Array Value} {t t' : TypeId} (h : Below w.heap.size w W ∧ W.heap[g]? = some (.cells cs t (0, 0)) ∧ W.heap[g']? = some (.cells cs' t' (0, 0)) ∧ (∀ o, W.cell? ⟨g, o, none⟩ = cs[o]?) ∧ (∀ o, W.cell? ⟨g', o, none⟩ = cs'[o]?) ∧ ∀ a : Addr, a.block < w.heap.size → W.cell? a = w.cell? a) (hb : Below W.heap.size W W') :
    Below w.heap.size w W' ∧ W'.heap[g]? = some (.cells cs t (0, 0)) ∧ W'.heap[g']? = some (.cells cs' t' (0, 0)) ∧ (∀ o, W'.cell? ⟨g, o, none⟩ = cs[o]?) ∧ (∀ o, W'.cell? ⟨g', o, none⟩ = cs'[o]?) ∧ ∀ a : Addr, a.block < w.heap.size → W'.cell? a = w.cell? a :=
  box2_mk (bl_trans h.1 hb) (blk_below hb h.2.1) (blk_below hb h.2.2.1)
theorem heap_alloc3 (w : World) (o1 o2 o3 : Obj) : (((w.alloc o1).alloc o2).alloc o3).heap[w.heap.size + 1 + 1]? = some o3 := by
  have e := heap_alloc_new ((w.alloc o1).alloc o2) o3
  simpa using e

set_option maxHeartbeats 800000 in
theorem truthIn1 (n : NodeD) (hn : TruthSaid n) (hk : check n = true) (w : World) (F : Fp) (cs : List Value) (A : Option Addr) (c : Nat) (ev : List PairD) (b : Nat) (h : Ty.node.K w F n cs) (hr : Ty.pr.Row w F A ev) (hl : ev.length ≤ 9223372036854775807)
    (hb : w.cell? ⟨b, 0, none⟩ = some (.slice A ev.length c)) :
    Calls Try.prog 92 (#[.agg cs.toArray] ++ #[.pointer (some ⟨b, 0, none⟩)]) w fun e w' => e = .returned (.bool (truth ev n)) ∧ Below w.heap.size w w' := by
  obtain ⟨A1, c1, A2, c2, A3, c3, rfl, h1, h2, h3⟩ := Ty.node_open h
  have hbl := World.block_lt_of_cell? w _ hb
  simp only at hbl
  have H := Lib.hid (hn _ F _ A c ev hk (Ty.node.kbelow (below1 _ (.cells #[.int .i64 n.p.kind, .string n.p.attr, .slice A1 n.p.ints.length c1, .slice A2 n.p.words.length c2, .int .i64 n.p.lo, .int .i64 n.p.hi, .int .i64 n.op, .slice A3 n.kids.length c3] 32)) h) (Ty.Row_below (below1 _ _) hr) hl)
  clear hn h h1 h2 h3 hk hr
  show Calls Try.prog 92 #[_, _] w _
  go_enter Try.func92, Try.ntmps92
  go_wp2_with fail
  refine H.out.mono ?_
  rintro e w1 ⟨rfl, hb⟩
  have HB := Lib.hid (bl_trans (below1 _ _) hb)
  clear hb
  go_wp2
  go_ret
  exact ⟨rfl, HB.out⟩

set_option maxHeartbeats 800000 in
theorem truthIn2 (n : NodeD) (hn : TruthSaid n) (hk : check n = true) (w : World) (F : Fp) (cs : List Value) (A : Option Addr) (c : Nat) (ev : List PairD) (b b' : Nat) (h : Ty.node.K w F n cs) (hr : Ty.pr.Row w F A ev) (hl : ev.length ≤ 9223372036854775807)
    (hb : w.cell? ⟨b, 0, none⟩ = some (.slice A ev.length c)) (hb' : w.cell? ⟨b', 0, none⟩ = some (.func (.func 92) #[] #[.pointer (some ⟨b, 0, none⟩)])) :
    Calls Try.prog 94 (#[.agg cs.toArray] ++ #[.pointer (some ⟨b', 0, none⟩)]) w fun e w' => e = .returned (.bool (!truth ev n)) ∧ Below w.heap.size w w' := by
  obtain ⟨A1, c1, A2, c2, A3, c3, rfl, h1, h2, h3⟩ := Ty.node_open h
  have hbl := World.block_lt_of_cell? w _ hb
  have hbl' := World.block_lt_of_cell? w _ hb'
  simp only at hbl hbl'
  have hb1 : (w.alloc (.cells #[.int .i64 n.p.kind, .string n.p.attr, .slice A1 n.p.ints.length c1, .slice A2 n.p.words.length c2, .int .i64 n.p.lo, .int .i64 n.p.hi, .int .i64 n.op, .slice A3 n.kids.length c3] 32)).cell? ⟨b, 0, none⟩ = some (.slice A ev.length c) := by rw [World.cell?_alloc_lt _ _ _ hbl]; exact hb
  have H := Lib.hid (truthIn1 n hn hk _ F _ A c ev b (Ty.node.kbelow (below1 _ (.cells #[.int .i64 n.p.kind, .string n.p.attr, .slice A1 n.p.ints.length c1, .slice A2 n.p.words.length c2, .int .i64 n.p.lo, .int .i64 n.p.hi, .int .i64 n.op, .slice A3 n.kids.length c3] 32)) h) (Ty.Row_below (below1 _ _) hr) hl hb1)
  clear hn h h1 h2 h3 hk hr hb1 hb hbl
  have HC := Lib.hid truthFn1
  show Calls Try.prog 94 #[_, _] w _
  go_enter Try.func94, Try.ntmps94
  go_wp2_with fail
  refine H.out.mono ?_
  rintro e w1 ⟨rfl, hb⟩
  have HB := Lib.hid (bl_trans (below1 _ _) hb)
  clear hb
  go_wp2
  go_ret
  exact ⟨rfl, HB.out⟩

set_option maxHeartbeats 3200000 in
set_option maxRecDepth 100000 in
theorem truth_calls : ∀ n, TruthSaid n := by
  have hmf : ∀ (fn : Fn) (first cap : Array Value) (w : World), (Instr.makeFunc fn first cap).run Try.prog w = .ok (.func fn first cap) w := fun _ _ _ _ => rfl
  have hu49 := Try.underlying49
  have hsf := store_func Try.prog
  refine NodeD.ind fun p op kids ih w F cs A c ev hc h hr hl => ?_
  obtain ⟨A1, c1, A2, c2, A3, c3, rfl, h1, h2, h3⟩ := Ty.node_open h
  simp only [NodeD.p, NodeD.op, NodeD.kids] at h1 h2 h3 ⊢
  obtain ⟨B1, d1, e1, hc1, hm1, r1⟩ := h1
  obtain ⟨B2, d2, e2, hc2, hm2, r2⟩ := h2
  obtain ⟨B3, d3, e3, hc3, hm3, r3⟩ := h3
  cases e1; cases e2; cases e3
  have hl1 : p.ints.length ≤ 9223372036854775807 := by unfold maxLen at hm1; omega
  have hl2 : p.words.length ≤ 9223372036854775807 := by unfold maxLen at hm2; omega
  have hl3 : kids.length ≤ 9223372036854775807 := by unfold maxLen at hm3; omega
  clear hm1 hm2 hm3 hc1 hc2 hc3 h
  have H1 := Lib.hid r1
  have H2 := Lib.hid r2
  have H3 := Lib.hid r3
  have HE := Lib.hid hr
  have IH := Lib.hid ih
  clear r1 r2 r3 ih hr
  have hop := check_op hc
  clear hc
  have key : ∀ W, W = (((w.alloc (.cells #[.int .i64 p.kind, .string p.attr, .slice A1 p.ints.length c1, .slice A2 p.words.length c2, .int .i64 p.lo, .int .i64 p.hi, .int .i64 op, .slice A3 kids.length c3] 32)).alloc (.cells #[.slice A ev.length c] 23)).alloc (.cells #[.func (.func 92) #[] #[.pointer (some ⟨w.heap.size + 1, 0, none⟩)]] 49)) →
      Below w.heap.size w W ∧ W.cell? ⟨w.heap.size + 1, 0, none⟩ = some (.slice A ev.length c) ∧ W.cell? ⟨w.heap.size + 1 + 1, 0, none⟩ = some (.func (.func 92) #[] #[.pointer (some ⟨w.heap.size + 1, 0, none⟩)]) := by
    rintro W rfl
    exact ⟨bl_alloc (bl_alloc (below1 _ _) _) _, (blk_facts (blk_alloc (heap_alloc2 _ _ _) _)).2.2 0, (blk_facts (heap_alloc3 _ _ _ _)).2.2 0⟩
  have HK := Lib.hid key
  clear key
  rcases hop with ⟨ho, hp, rfl⟩ | ⟨ho, hp, k, rfl, hk⟩ | ⟨ho, hp, hk1, hk⟩
  · subst ho
    have Hf : Hid (truth ev (.mk p 1 []) = holds p ev) := truth_pred _ _ _ _ (by decide) (by decide) (by decide)
    go_enter Try.func60, Try.ntmps60
    go_wp2_with fail
    have HB := Lib.hid (HK.out _ rfl).1
    refine (holds_calls _ F p A1 A2 A c1 c2 c ev (Ty.Row_below HB.out H1.out) (Ty.Row_below HB.out H2.out) (Ty.Row_below HB.out HE.out) hl1 hl2 hl).mono ?_
    rintro e w1 ⟨rfl, hb⟩
    have HB1 := Lib.hid (bl_trans HB.out hb)
    clear hb
    go_wp2
    go_ret
    exact ⟨by rw [Hf.out]; rfl, HB1.out⟩
  · subst ho
    have Hf : Hid (truth ev (.mk p 2 [k]) = !truth ev k) := truth_not _ _ _ _
    obtain ⟨ad, A1', c1', A2', c2', A3', c3', e, e0, e1, e2, e3, e4, e5, e6, e7, hn⟩ := Ty.node_at H3.out 0 (by simp)
    obtain rfl := e
    simp only [Nat.zero_mul, add_zero', List.getElem_cons_zero] at e0 e1 e2 e3 e4 e5 e6 e7 hn
    have HN := Lib.hid hn
    have hblk := World.block_lt_of_cell? w _ e0
    have ih0 := Lib.hid (IH.out 0 (by simp))
    simp only [List.getElem_cons_zero] at ih0
    have HKK := Lib.hid hk
    clear hn IH H3 hk hl3
    go_enter Try.func60, Try.ntmps60
    go_wp2_with fail
    go_region_held3 (fun W => Below w.heap.size w W ∧ W.heap[w.heap.size]? = some (.cells #[.int .i64 p.kind, .string p.attr, .slice A1 p.ints.length c1, .slice A2 p.words.length c2, .int .i64 p.lo, .int .i64 p.hi, .int .i64 2, .slice (some ad) 1 c3] 32 (0, 0)) ∧
        W.heap[w.heap.size + 1]? = some (.cells #[.slice A ev.length c] 23 (0, 0)) ∧
        (∀ o, W.cell? ⟨w.heap.size, o, none⟩ = #[.int .i64 p.kind, .string p.attr, .slice A1 p.ints.length c1, .slice A2 p.words.length c2, .int .i64 p.lo, .int .i64 p.hi, .int .i64 2, .slice (some ad) 1 c3][o]?) ∧
        (∀ o, W.cell? ⟨w.heap.size + 1, o, none⟩ = #[.slice A ev.length c][o]?) ∧ ∀ a : Addr, a.block < w.heap.size → W.cell? a = w.cell? a)
      (first | exact box2_mk (bl_drew (bl_alloc (bl_alloc (below1 _ _) _) _)) (blk_alloc (blk_alloc (heap_alloc_new _ _) _) _) (blk_alloc (heap_alloc2 _ _ _) _) | exact box2_below (by assumption) hb | assumption)
      (first | (go_at_call 60; have hh := ih0.out _ F _ A c ev HKK.out (Ty.node.kbelow (And.left (by assumption : Below w.heap.size w ((((w.alloc _).alloc _).alloc _).drew) ∧ _)) HN.out) (Ty.Row_below (And.left (by assumption : Below w.heap.size w _ ∧ _)) HE.out) hl; refine hh.mono ?_; clear hh; rintro e w3 ⟨rfl, hb⟩))
    have hb4 := Lib.hid (And.left (by assumption : Below w.heap.size w _ ∧ _))
    go_wp2
    go_ret
    exact ⟨by rw [Hf.out]; rfl, hb4.out⟩
  · have HKK := Lib.hid hk
    clear hk
    rcases ho with rfl | rfl
    · have Hf : Hid (truth ev (.mk p 3 kids) = kids.all (truth ev)) := truth_and _ _ _
      go_enter Try.func60, Try.ntmps60
      go_wp2_with fail
      have HB := Lib.hid (HK.out _ rfl)
      refine (containsFuncNode _ F A3 c3 kids hl3 (Ty.Row_below HB.out.1 H3.out) 94 #[.pointer (some ⟨w.heap.size + 1 + 1, 0, none⟩)] (fun x => !truth ev x) truthFn2 (fun W hW j hj cs hn =>
        truthIn2 kids[j] (IH.out j hj) (HKK.out j hj) W F cs A c ev (w.heap.size + 1) (w.heap.size + 1 + 1) hn (Ty.Row_below (bl_trans HB.out.1 hW) HE.out) hl ((hW.cell (by simp)).trans HB.out.2.1) ((hW.cell (by simp)).trans HB.out.2.2))).mono ?_
      rintro e w1 ⟨rfl, hb⟩
      have HB1 := Lib.hid (bl_trans HB.out.1 hb)
      clear hb
      go_wp2
      go_ret
      exact ⟨by rw [Hf.out, List.all_eq_not_any_not]; rfl, HB1.out⟩
    · have Hf : Hid (truth ev (.mk p 4 kids) = kids.any (truth ev)) := truth_or _ _ _
      go_enter Try.func60, Try.ntmps60
      go_wp2_with fail
      have HB := Lib.hid (HK.out _ rfl)
      refine (containsFuncNode _ F A3 c3 kids hl3 (Ty.Row_below HB.out.1 H3.out) 92 #[.pointer (some ⟨w.heap.size + 1, 0, none⟩)] (truth ev) truthFn1 (fun W hW j hj cs hn =>
        truthIn1 kids[j] (IH.out j hj) (HKK.out j hj) W F cs A c ev (w.heap.size + 1) hn (Ty.Row_below (bl_trans HB.out.1 hW) HE.out) hl ((hW.cell (by simp)).trans HB.out.2.1))).mono ?_
      rintro e w1 ⟨rfl, hb⟩
      have HB1 := Lib.hid (bl_trans HB.out.1 hb)
      clear hb
      go_wp2
      go_ret
      exact ⟨by rw [Hf.out]; rfl, HB1.out⟩
end Go.Proofs.Yticnbpefeoaamaa
