/- Contracts: Which; the fixed calls of layer 6. -/
import Derived.Test.YticnbpefeoaamaaTrO
import Derived.Test.YticnbpefeoaamaaTrQ
namespace Go.Proofs.Yticnbpefeoaamaa
open Go.RowKit
set_option linter.unusedSimpArgs false
set_option linter.unusedVariables false

theorem infoInt : (Try.prog.info? 3).map (fun i => (i.zero, i.size, i.bytes)) = some (some (.int .i64 0), 1, 8) := by kernel_rfl

/-- The places, ahead of k, of the trees that are true. -/
def whichTo (ev : List PairD) (nodes : List NodeD) (k : Nat) : List Int := ((List.range k).filter (fun j => match nodes[j]? with | some n => eval n ev | none => false)).map (fun (j : Nat) => (j : Int))
def which (ev : List PairD) (nodes : List NodeD) : List Int := whichTo ev nodes nodes.length
theorem whichTo_zero (ev : List PairD) (nodes : List NodeD) : whichTo ev nodes 0 = [] := rfl
theorem whichTo_yes {ev : List PairD} {nodes : List NodeD} {k : Nat} (hk : k < nodes.length) (h : eval nodes[k] ev = true) : whichTo ev nodes (k + 1) = whichTo ev nodes k ++ [(k : Int)] := by
  simp [whichTo, List.range_succ, List.filter_append, List.getElem?_eq_getElem hk, h]
theorem whichTo_no {ev : List PairD} {nodes : List NodeD} {k : Nat} (hk : k < nodes.length) (h : eval nodes[k] ev = false) : whichTo ev nodes (k + 1) = whichTo ev nodes k := by
  simp [whichTo, List.range_succ, List.filter_append, List.getElem?_eq_getElem hk, h]
theorem whichTo_len (ev : List PairD) (nodes : List NodeD) (k : Nat) : (whichTo ev nodes k).length ≤ k := by
  rw [whichTo, List.length_map]
  exact Nat.le_trans (List.length_filter_le _ _) (by simp)

set_option maxHeartbeats 1600000 in
set_option maxRecDepth 100000 in
theorem which_calls (w : World) (F : Fp) (A A' : Option Addr) (c c' : Nat) (ev : List PairD) (nodes : List NodeD) (h : Ty.pr.Row w F A ev) (h' : Ty.node.Row w F A' nodes) (hl : ev.length ≤ 9223372036854775807) (hl' : nodes.length ≤ 1099511627776) :
    Calls Try.prog 22 #[.slice A ev.length c, .slice A' nodes.length c'] w fun e w' => ∃ v, e = .returned v ∧ Ty.i64.Own 3 w' (fun k => w.heap.size ≤ k) v (which ev nodes) ∧ Below w.heap.size w w' := by
  have HE := Lib.hid h
  have HN := Lib.hid h'
  clear h h'
  go_enter Try.func22, Try.ntmps22
  go_wp2_with fail
  go_loopw [5, 10] (fun v i wr => ∃ k : Nat, k ≤ nodes.length ∧ i = .int .i64 k ∧ Hid (Ty.i64.Own 3 wr (fun k => w.heap.size ≤ k) v (whichTo ev nodes k)) ∧ Hid (Below w.heap.size w wr)) (fun _ i _ => nodes.length - (intOf i).toNat)
  case atStart => exact ⟨0, Nat.zero_le _, rfl, Ty.Own_nil _ _ _ _, Below.refl _ _⟩
  case round =>
    obtain ⟨k, hk, rfl, HO, HB⟩ := hrel
    by_cases hlt : k < nodes.length
    · obtain ⟨ad, A1, c1, A2, c2, A3, c3, rfl, e0, e1, e2, e3, e4, e5, e6, e7, hn⟩ := Ty.node_at (Ty.Row_below HB.out HN.out) k hlt
      have HNk := Lib.hid hn
      clear hn
      go_wp2_with fail
      refine (eval_calls nodes[k] _ F _ A c ev (Ty.node.kbelow (below1 _ _) HNk.out) (Ty.Row_below (bl_alloc HB.out _) HE.out) hl).mono ?_
      rintro e w1 ⟨rfl, hb⟩
      have HB1 := Lib.hid (bl_trans (bl_alloc HB.out _) hb)
      have HO1 := Lib.hid (Ty.Own_below hb (Ty.Own_below (below1 _ _) HO.out))
      clear hb HB HO
      cases hp : eval nodes[k] ev with
      | false =>
        have Hw := Lib.hid (whichTo_no hlt hp)
        clear hp
        go_wp2
        go_roundw
        case rel => exact ⟨k + 1, by omega, by go_num, by rw [Hw.out]; exact HO1.out, HB1.out⟩
        case measure => simp [intOf]; omega
      | true =>
        have Hw := Lib.hid (whichTo_yes hlt hp)
        have hwl := whichTo_len ev nodes k
        clear hp
        go_wp2_with (first
          | (at_builtin; refine own_append Ty.i64 rfl (.tmp 18) (.tmp 20) 27 3 (.int .i64 0) 8 rfl Try.underlying27 infoInt rfl (by decide) _ (whichTo ev nodes k) [(k : Int)] (fun k => w.heap.size ≤ k) (fun k => w.heap.size ≤ k) rfl (Ty.Own_below (below1 _ _) HO1.out) ⟨w1.heap.size, 0, none⟩ 1 rfl
              (fun _ _ => False) (fun _ => [.int .i64 k]) ?_ nofun nofun (fun _ h => h) nofun ?_ ?_ ?_))
        · intro j hj
          obtain rfl : j = 0 := by simpa using hj
          refine ⟨rfl, fun i u hu => ?_⟩
          have h0 : i = 0 := by have := (List.getElem?_eq_some_iff.1 hu).1; simpa using this
          subst h0
          cases hu
          exact World.cell?_alloc_at _ _ _ _ rfl
        · intro k' hk'
          have := HB1.out.size
          simp at hk'; omega
        · simp; omega
        · intro v1 w2 hO2 hch
          have HO2 := Lib.hid hO2
          have HB2 := Lib.hid (Chg.below (bl_alloc HB1.out _) hch (fun _ h => h))
          clear hO2 hch HO1 HB1
          go_wp2
          go_roundw
          case rel => exact ⟨k + 1, by omega, by go_num, by rw [Hw.out]; exact HO2.out, HB2.out⟩
          case measure => simp [intOf]; omega
    · have Hw : Hid (which ev nodes = whichTo ev nodes k) := by rw [Hid, which, show nodes.length = k by omega]
      go_wp2
      go_ret
      exact ⟨_, rfl, by rw [Hw.out]; exact HO.out, HB.out⟩

theorem Try.results56' : Try.f56.results = #[.cell 2 32] := by kernel_rfl
set_option maxHeartbeats 800000 in
theorem lawPred_calls (w : World) (k lo hi : Int) (at' : ByteArray) (a1 a2 : Option Addr) (l1 l2 c1 c2 : Nat) :
    Calls Try.prog 56 #[.agg #[.int .i64 k, .string at', .slice a1 l1 c1, .slice a2 l2 c2, .int .i64 lo, .int .i64 hi]] w fun e w' => e = .returned (.agg #[.int .i64 k, .string at', .slice a1 l1 c1, .slice a2 l2 c2, .int .i64 lo, .int .i64 hi, .int .i64 1, .slice none 0 0]) ∧ Below w.heap.size w w' := by
  have hu32 := Try.underlying32
  have hu30 := Try.underlying30
  go_enter Try.func56, Try.ntmps56
  go_wp2
  refine bodyPost_ret (v := .agg #[.int .i64 k, .string at', .slice a1 l1 c1, .slice a2 l2 c2, .int .i64 lo, .int .i64 hi, .int .i64 1, .slice none 0 0]) (by simp [results, go_sem, hu32]) rfl ⟨rfl, ?_⟩
  repeat (first | exact Below.refl _ _ | apply bl_alloc | refine bl_set ?_ (by first | exact Nat.le_refl _ | (simp; done) | (simp; omega)) _)

theorem strA : (⟨#[97]⟩ : ByteArray) = ⟨#[97]⟩ := rfl
theorem event_calls (w : World) :
    Calls Try.prog 57 #[] w fun e w' => e = .returned (.slice (some ⟨w.heap.size, 0, none⟩) 2 2) ∧
      w' = w.alloc (.cells #[.string ⟨#[97]⟩, .int .i64 1, .int .i64 5, .string ⟨#[]⟩, .string ⟨#[99]⟩, .int .i64 2, .int .i64 0, .string ⟨#[97, 98]⟩] 46) := by
  have hu46 := Try.underlying46
  have hu44 := Try.underlying44
  go_enter Try.func57, Try.ntmps57
  go_wp2
  go_ret
  exact ⟨rfl, rfl⟩
end Go.Proofs.Yticnbpefeoaamaa
