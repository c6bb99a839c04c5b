/- Contracts: Eval; how many nodes; whether a tree names an attribute. -/
import Derived.Test.YticnbpefeoaamaaTrN
namespace Go.Proofs.Yticnbpefeoaamaa
open Go.RowKit
set_option linter.unusedSimpArgs false
set_option linter.unusedVariables false

set_option maxHeartbeats 1600000 in
set_option maxRecDepth 100000 in
theorem eval_calls (n : NodeD) (w : World) (F : Fp) (cs : List Value) (A : Option Addr) (c : Nat) (ev : List PairD) (h : Ty.node.K w F n cs) (hr : Ty.pr.Row w F A ev) (hl : ev.length ≤ 9223372036854775807) :
    Calls Try.prog 17 #[.agg cs.toArray, .slice A ev.length c] w fun e w' => e = .returned (.bool (eval n ev)) ∧ Below w.heap.size w w' := by
  obtain ⟨A1, c1, A2, c2, A3, c3, rfl, h1, h2, h3⟩ := Ty.node_open h
  have HN := Lib.hid h
  have HE := Lib.hid hr
  clear h h1 h2 h3 hr
  go_enter Try.func17, Try.ntmps17
  go_wp2_with fail
  refine (check_calls n _ F _ (Ty.node.kbelow (below1 _ _) HN.out)).mono ?_
  rintro e w1 ⟨rfl, hb⟩
  have HB := Lib.hid (bl_trans (below1 _ _) hb)
  have HX := Lib.hid (blk_below hb (heap_alloc_new w _))
  clear hb
  obtain ⟨x1, x2, x3⟩ := blk_facts HX.out
  cases hc : check n with
  | false =>
    have Hf : Hid (eval n ev = false) := by simp [eval, hc, Hid]
    clear hc
    simp only [errno]
    go_wp2
    go_ret
    exact ⟨by rw [Hf.out]; rfl, HB.out⟩
  | true =>
    have Hf : Hid (eval n ev = truth ev n) := by simp [eval, hc, Hid]
    have HC := Lib.hid hc
    clear hc
    simp only [errno]
    go_wp2_with fail
    refine (truth_calls n _ F _ A c ev HC.out (Ty.node.kbelow HB.out HN.out) (Ty.Row_below HB.out HE.out) hl).mono ?_
    rintro e w2 ⟨rfl, hb⟩
    have HB2 := Lib.hid (bl_trans HB.out hb)
    clear hb
    go_wp2
    go_ret
    exact ⟨by rw [Hf.out]; rfl, HB2.out⟩

mutual
def fewL : List NodeD → Int → Int
  | [], left => left
  | n :: ns, left => if left > 0 then fewL ns (fewN n (left - 1)) else left
def fewN : NodeD → Int → Int
  | .mk _ _ kids, left => fewL kids left
end
theorem fewN_eq (n : NodeD) (left : Int) : fewN n left = fewL n.kids left := by cases n; rw [fewN]; rfl
mutual
theorem fewL_bd : ∀ (l : List NodeD) (left : Int), 0 ≤ left → 0 ≤ fewL l left ∧ fewL l left ≤ left
  | [], left, h => by rw [fewL]; omega
  | n :: ns, left, h => by
    rw [fewL]
    split
    · have h1 := fewN_bd n (left - 1) (by omega)
      have h2 := fewL_bd ns (fewN n (left - 1)) h1.1
      omega
    · omega
theorem fewN_bd : ∀ (n : NodeD) (left : Int), 0 ≤ left → 0 ≤ fewN n left ∧ fewN n left ≤ left
  | .mk p op kids, left, h => by rw [fewN]; exact fewL_bd kids left h
end
theorem fewL_zero (l : List NodeD) (left : Int) (h : ¬ left > 0) : fewL l left = left := by cases l with
  | nil => rw [fewL]
  | cons n ns => rw [fewL, if_neg h]
theorem fewL_step {l : List NodeD} {k : Nat} (hk : k < l.length) {left : Int} (h : left > 0) : fewL (l.drop k) left = fewL (l.drop (k + 1)) (fewL l[k].kids (left - 1)) := by
  rw [List.drop_eq_getElem_cons hk, fewL, if_pos h, fewN_eq]

/-- What few answers of a node's kids. -/
def FewSaid (n : NodeD) : Prop := ∀ (w : World) (F : Fp) (A : Option Addr) (c : Nat) (left : Int), Ty.node.Row w F A n.kids → n.kids.length ≤ 9223372036854775807 → 0 ≤ left → left ≤ 4001 →
  Calls Try.prog 58 #[.slice A n.kids.length c, .int .i64 left] w fun e w' => e = .returned (.int .i64 (fewL n.kids left)) ∧ Below w.heap.size w w'
set_option maxHeartbeats 1600000 in
set_option maxRecDepth 100000 in
theorem few_calls : ∀ n, FewSaid n := by
  refine NodeD.ind fun p op kids ih w F A c left0 h hl h0 h1 => ?_
  simp only [NodeD.kids] at h hl ⊢
  have HR := Lib.hid h
  have IH := Lib.hid ih
  clear h ih
  go_enter Try.func58, Try.ntmps58
  go_wp2_with fail
  go_loopw [1, 5] (fun lv i wr => ∃ (k : Nat) (left : Int), k ≤ kids.length ∧ i = .int .i64 k ∧ lv = .int .i64 left ∧ 0 ≤ left ∧ left ≤ 4001 ∧ Hid (fewL (kids.drop k) left = fewL kids left0) ∧ Hid (Below w.heap.size w wr)) (fun _ i _ => kids.length - (intOf i).toNat)
  case atStart => exact ⟨0, left0, Nat.zero_le _, rfl, rfl, h0, h1, rfl, Below.refl _ _⟩
  case round =>
    obtain ⟨k, left, hk, rfl, rfl, g0, g1, HL, HB⟩ := hrel
    by_cases hlt : k < kids.length
    · by_cases hpos : 0 < left
      · obtain ⟨ad, A1, c1, A2, c2, A3, c3, rfl, e0, e1, e2, e3, e4, e5, e6, e7, hn⟩ := Ty.node_at (Ty.Row_below HB.out HR.out) k hlt
        have hbd := fewL_bd kids[k].kids (left - 1) (by omega)
        obtain ⟨_, _, _, _, _, _, e, _, _, h3⟩ := Ty.node_open hn
        cases e
        obtain ⟨B3, d3, e, hc3, hm3, r3⟩ := h3
        cases e
        have HN := Lib.hid r3
        have hl3 : kids[k].kids.length ≤ 9223372036854775807 := by unfold maxLen at hm3; omega
        clear hn hm3 hc3 r3
        go_wp2_with fail
        refine (IH.out k hlt _ F _ _ (left - 1) HN.out hl3 (by omega) (by omega)).mono ?_
        rintro e w1 ⟨rfl, hb⟩
        have HB1 := Lib.hid (bl_trans HB.out hb)
        clear hb
        go_wp2
        go_roundw
        case rel => exact ⟨k + 1, _, by omega, by go_num, rfl, hbd.1, by omega, by rw [Hid, ← fewL_step hlt hpos]; exact HL.out, HB1.out⟩
        case measure => simp [intOf]; omega
      · have Hf : Hid (fewL kids left0 = left) := by rw [Hid, ← HL.out]; exact fewL_zero _ _ hpos
        go_wp2
        go_ret
        exact ⟨by rw [Hf.out]; rfl, HB.out⟩
    · have Hf : Hid (fewL kids left0 = left) := by rw [Hid, ← HL.out, List.drop_of_length_le (by omega), fewL]
      go_wp2
      all_goals
        go_ret
        exact ⟨by rw [Hf.out]; rfl, HB.out⟩
def few (l : List NodeD) : Bool := decide (0 < fewL l 4001)
theorem fewAll_calls (l : List NodeD) (w : World) (F : Fp) (A : Option Addr) (c : Nat) (h : Ty.node.Row w F A l) (hl : l.length ≤ 9223372036854775807) :
    Calls Try.prog 14 #[.slice A l.length c] w fun e w' => e = .returned (.bool (few l)) ∧ Below w.heap.size w w' := by
  have H := Lib.hid (few_calls (.mk PredD.zero 0 l) w F A c 4001 h hl (by decide) (by decide))
  simp only [NodeD.kids] at H
  clear h
  go_enter Try.func14, Try.ntmps14
  go_wp2_with fail
  refine H.out.mono ?_
  rintro e w1 ⟨rfl, hb⟩
  have HB := Lib.hid hb
  clear hb
  go_wp2
  go_ret
  exact ⟨rfl, HB.out⟩

mutual
def named (attr : ByteArray) : NodeD → Bool
  | .mk p _ kids => p.attr.toList == attr.toList || (nameds attr kids).any id
def nameds (attr : ByteArray) : List NodeD → List Bool
  | [] => []
  | n :: ns => named attr n :: nameds attr ns
end
theorem nameds_map (attr : ByteArray) : ∀ l, nameds attr l = l.map (named attr)
  | [] => by simp [nameds]
  | n :: ns => by simp [nameds, nameds_map attr ns]
theorem named_eq (attr : ByteArray) (p : PredD) (op : Int) (kids : List NodeD) : named attr (.mk p op kids) = (p.attr.toList == attr.toList || kids.any (named attr)) := by
  rw [named, nameds_map, List.any_map]; rfl
def NamedSaid (n : NodeD) : Prop := ∀ (w : World) (F : Fp) (cs : List Value) (attr : ByteArray), Ty.node.K w F n cs →
  Calls Try.prog 27 #[.agg cs.toArray, .string attr] w fun e w' => e = .returned (.bool (named attr n)) ∧ Below w.heap.size w w'
set_option maxHeartbeats 1600000 in
set_option maxRecDepth 100000 in
theorem named_calls : ∀ n, NamedSaid n := by
  refine NodeD.ind fun p op kids ih w F cs attr h => ?_
  obtain ⟨A1, c1, A2, c2, A3, c3, rfl, h1, h2, h3⟩ := Ty.node_open h
  simp only [NodeD.p, NodeD.op, NodeD.kids] at h1 h2 h3 ⊢
  obtain ⟨B3, d3, e3, hc3, hm3, r3⟩ := h3
  cases e3
  have hl3 : kids.length ≤ 9223372036854775807 := by unfold maxLen at hm3; omega
  clear hm3 hc3 h h1 h2
  have hu32 := Try.underlying32
  have H3 := Lib.hid r3
  have IH := Lib.hid ih
  clear r3 ih
  have hne := Lib.hid (named_eq attr p op kids)
  cases ha : p.attr.toList == attr.toList with
  | true =>
    have Hf : Hid (named attr (.mk p op kids) = true) := by rw [Hid, hne.out, ha]; rfl
    go_enter Try.func27, Try.ntmps27
    go_wp2_with fail
    go_ret
    exact ⟨by rw [Hf.out]; rfl, below1 _ _⟩
  | false =>
    have Hf : Hid (named attr (.mk p op kids) = kids.any (named attr)) := by rw [Hid, hne.out, ha]; rfl
    clear hne
    go_enter Try.func27, Try.ntmps27
    go_wp2_with fail
    go_loopw [15] (fun i wr => ∃ k : Nat, k ≤ kids.length ∧ i = .int .i64 k ∧ Hid (∀ j, (h : j < kids.length) → j < k → named attr kids[j] = false) ∧ Hid (Below w.heap.size w wr)) (fun i _ => kids.length - (intOf i).toNat)
    case atStart => exact ⟨0, Nat.zero_le _, rfl, fun j hj => by omega, below1 _ _⟩
    case round =>
      obtain ⟨k, hk, rfl, HA, HB⟩ := hrel
      by_cases hlt : k < kids.length
      · obtain ⟨ad, A1, c1, A2, c2, A3, c3, rfl, e0, e1, e2, e3, e4, e5, e6, e7, hn⟩ := Ty.node_at (Ty.Row_below HB.out H3.out) k hlt
        have HN := Lib.hid hn
        clear hn
        go_wp2_with fail
        refine (IH.out k hlt _ F _ attr (Ty.node.kbelow (below1 _ _) HN.out)).mono ?_
        rintro e w1 ⟨rfl, hb⟩
        have HB1 := Lib.hid (bl_trans (bl_alloc HB.out _) hb)
        clear hb HB
        cases hp : named attr kids[k] with
        | true =>
          have Hg : Hid (named attr (.mk p op kids) = true) := by rw [Hid, Hf.out]; exact any_hit hlt hp
          clear hp
          go_wp2
          go_ret
          exact ⟨by rw [Hg.out]; rfl, HB1.out⟩
        | false =>
          have HA' := none_snoc HA hlt hp
          clear hp
          go_wp2
          go_roundw
          case rel => exact ⟨k + 1, by omega, by go_num, HA', HB1.out⟩
          case measure => simp [intOf]; omega
      · have Hg : Hid (named attr (.mk p op kids) = false) := by rw [Hid, Hf.out]; exact any_none HA hlt
        go_wp2
        go_ret
        exact ⟨by rw [Hg.out]; rfl, HB.out⟩
end Go.Proofs.Yticnbpefeoaamaa
