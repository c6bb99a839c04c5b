/- EvalNames: what the tree doesn't name plays no part: the plain law, and the walk of the statement's function. -/
import Derived.Test.YticnbpefeoaamaaTrS
namespace Go.Proofs.Yticnbpefeoaamaa
open Go.RowKit
set_option linter.unusedSimpArgs false
set_option linter.unusedVariables false

theorem ba_ext {a b : ByteArray} (h : a.toList = b.toList) : a = b := by
  rw [ByteArray.toList_eq, ByteArray.toList_eq] at h
  obtain ⟨⟨x⟩⟩ := a
  obtain ⟨⟨y⟩⟩ := b
  simp only at h
  rw [h]
/-- What is left over of the pairs. -/
def mixed (n : NodeD) (ev more : List PairD) : List PairD := more.filter (fun p => !named p.name n) ++ ev.filter (fun p => named p.name n)
theorem mixed_get (n : NodeD) (ev more : List PairD) (a : ByteArray) (h : named a n = true) : getPair (mixed n ev more) a = getPair ev a := by
  have h1 : (more.filter (fun p => !named p.name n)).find? (fun p => p.name.toList == a.toList) = none := by
    rw [List.find?_eq_none]
    intro p hp he
    rw [List.mem_filter] at hp
    have := ba_ext (by simpa using he)
    rw [this, h] at hp
    simp at hp
  have h2 : (ev.filter (fun p => named p.name n)).find? (fun p => p.name.toList == a.toList) = ev.find? (fun p => p.name.toList == a.toList) := by
    rw [List.find?_filter]
    congr 1
    funext p
    cases e : p.name.toList == a.toList with
    | false => simp
    | true =>
      have := ba_ext (by simpa using e)
      rw [this, h]; rfl
  rw [getPair, mixed, List.find?_append, h1, h2, Option.none_or]; rfl
theorem mixed_truth (n : NodeD) (ev more : List PairD) : ∀ m, check m = true → (∀ a, named a m = true → named a n = true) → truth (mixed n ev more) m = truth ev m := by
  refine NodeD.ind fun p op kids ih hc hs => ?_
  have hk : ∀ j (hj : j < kids.length), check kids[j] = true → truth (mixed n ev more) kids[j] = truth ev kids[j] := fun j hj hcj =>
    ih j hj hcj (fun a ha => hs a (by rw [named_eq, List.any_eq_true.2 ⟨_, List.getElem_mem hj, ha⟩, Bool.or_true]))
  rcases check_op hc with ⟨rfl, hp, rfl⟩ | ⟨rfl, hp, k, rfl, hck⟩ | ⟨ho, hp, hl, hck⟩
  · rw [truth_pred _ _ _ _ (by decide) (by decide) (by decide), truth_pred _ _ _ _ (by decide) (by decide) (by decide)]
    have := mixed_get n ev more p.attr (hs p.attr (by rw [named_eq]; simp))
    rw [holds, holds, this]
  · rw [truth_not, truth_not]
    have := hk 0 (by simp) hck
    simp only [List.getElem_cons_zero] at this
    rw [this]
  · have hm : ∀ x ∈ kids, truth (mixed n ev more) x = truth ev x := fun x hx => by
      obtain ⟨j, hj, rfl⟩ := List.getElem_of_mem hx
      exact hk j hj (hck j hj)
    rcases ho with rfl | rfl
    · rw [truth_and, truth_and, Bool.eq_iff_iff, List.all_eq_true, List.all_eq_true]
      exact ⟨fun h x hx => by rw [← hm x hx]; exact h x hx, fun h x hx => by rw [hm x hx]; exact h x hx⟩
    · rw [truth_or, truth_or, Bool.eq_iff_iff, List.any_eq_true, List.any_eq_true]
      exact ⟨fun ⟨x, hx, h⟩ => ⟨x, hx, by rw [← hm x hx]; exact h⟩, fun ⟨x, hx, h⟩ => ⟨x, hx, by rw [hm x hx]; exact h⟩⟩
theorem mixed_eval (n : NodeD) (ev more : List PairD) : eval n (mixed n ev more) = eval n ev := by
  unfold eval
  cases hc : check n with
  | false => rfl
  | true => rw [mixed_truth n ev more n hc (fun a h => h)]

theorem infoPair : (Try.prog.info? 46).map (fun i => (i.zero, i.size, i.bytes)) = some (some (.agg #[.string ⟨#[]⟩, .int .i64 0, .int .i64 0, .string ⟨#[]⟩]), 4, 48) := by kernel_rfl
theorem prO_mk (w F) (p : PairD) : Ty.pr.O w F p [.string p.name, .int .i64 p.val.kind, .int .i64 p.val.int, .string p.val.word] :=
  ⟨[_], _, fun _ => False, fun _ => False, rfl, rfl, ⟨[_], _, fun _ => False, fun _ => False, rfl, rfl, ⟨[_], [_], fun _ => False, fun _ => False, rfl, rfl, rfl, nofun, nofun, nofun⟩, nofun, nofun, nofun⟩, nofun, nofun, nofun⟩
theorem filter_yes {α : Type} {q : α → Bool} {xs : List α} {k : Nat} (hk : k < xs.length) (h : q xs[k] = true) : (xs.take (k + 1)).filter q = (xs.take k).filter q ++ [xs[k]] := by
  rw [List.take_succ_eq_append_getElem hk, List.filter_append]; simp [h]
theorem filter_no {α : Type} {q : α → Bool} {xs : List α} {k : Nat} (hk : k < xs.length) (h : q xs[k] = false) : (xs.take (k + 1)).filter q = (xs.take k).filter q := by
  rw [List.take_succ_eq_append_getElem hk, List.filter_append]; simp [h]
theorem filter_take_le {α : Type} (q : α → Bool) (xs : List α) (k : Nat) : ((xs.take k).filter q).length ≤ xs.length :=
  Nat.le_trans (List.length_filter_le _ _) (by rw [List.length_take]; omega)

set_option maxHeartbeats 3200000 in
set_option maxRecDepth 100000 in
theorem names_walk (w : World) (n : NodeD) (cs : List Value) (A1 A2 : Option Addr) (c1 c2 : Nat) (ev more : List PairD) (h : Ty.node.K w all n cs) (h1 : Ty.pr.Row w all A1 ev) (h2 : Ty.pr.Row w all A2 more)
    (hl1 : ev.length ≤ 1048576) (hl2 : more.length ≤ 1048576) :
    Calls Try.prog 4 #[.agg cs.toArray, .slice A1 ev.length c1, .slice A2 more.length c2] w fun e w' => e = .returned (.bool true) ∧ Below w.heap.size w w' := by
  have hu32 := Try.underlying32
  have hu46 := Try.underlying46
  obtain ⟨B1, d1, B2, d2, B3, d3, rfl, _, _, _⟩ := Ty.node_open h
  have HN := Lib.hid h
  have H1 := Lib.hid h1
  have H2 := Lib.hid h2
  clear h h1 h2
  go_enter Try.func4, Try.ntmps4
  go_wp2_with fail
  refine (fixed_calls _).mono ?_
  rintro e w1 ⟨rfl, hb⟩
  have HB := Lib.hid (bl_trans (below1 _ _) hb)
  have HX := Lib.hid (blk_below hb (heap_alloc_new w _))
  clear hb
  obtain ⟨x1, x2, x3⟩ := blk_facts HX.out
  go_wp2_with fail
  refine (fewAll_calls [n] _ all _ 1 (Ty.Row_flat [[.int .i64 n.p.kind, .string n.p.attr, .slice B1 n.p.ints.length d1, .slice B2 n.p.words.length d2, .int .i64 n.p.lo, .int .i64 n.p.hi, .int .i64 n.op, .slice B3 n.kids.length d3]] (heap_alloc_new w1 _) trivial rfl
    (fun j hj => match j, hj with | 0, _ => Ty.node.kbelow (bl_alloc HB.out _) HN.out)) (by simp)).mono ?_
  rintro e w2 ⟨rfl, hb⟩
  have HB2 := Lib.hid (bl_trans (bl_alloc HB.out _) hb)
  have HX2 := Lib.hid (blk_below hb (blk_alloc HX.out _))
  clear hb HB HX x1 x2 x3
  cases hf : few [n] with
  | false =>
    clear hf
    go_wp2
    go_ret
    exact ⟨rfl, HB2.out⟩
  | true =>
    clear hf
    obtain ⟨x1, x2, x3⟩ := blk_facts HX2.out
    go_wp2_with fail
    clear x1 x2 x3
    go_loopw [7, 20] (fun v i wr => ∃ k : Nat, k ≤ more.length ∧ i = .int .i64 k ∧ Hid (Ty.pr.Own 46 wr (fun k => w.heap.size + 1 ≤ k) v ((more.take k).filter (fun p => !named p.name n))) ∧ Hid (Below w.heap.size w wr) ∧ Hid (wr.heap[w.heap.size]? = some (.cells #[.int .i64 n.p.kind, .string n.p.attr, .slice B1 n.p.ints.length d1, .slice B2 n.p.words.length d2, .int .i64 n.p.lo, .int .i64 n.p.hi, .int .i64 n.op, .slice B3 n.kids.length d3] 32 (0, 0)))) (fun _ i _ => more.length - (intOf i).toNat)
    case atStart => exact ⟨0, Nat.zero_le _, rfl, Ty.Own_nil _ _ _ _, HB2.out, HX2.out⟩
    case round =>
      obtain ⟨k, hk, rfl, HO, HB, HX⟩ := hrel
      obtain ⟨x1, x2, x3⟩ := blk_facts HX.out
      by_cases hlt : k < more.length
      · obtain ⟨ad, rfl, e0, e1, e2, e3⟩ := Ty.pr_at (Ty.Row_below HB.out H2.out) k hlt
        go_wp2_with fail
        refine (named_calls n _ all _ more[k].name (Ty.node.kbelow (bl_alloc HB.out _) HN.out)).mono ?_
        rintro e w3 ⟨rfl, hb⟩
        have HB1 := Lib.hid (bl_trans (bl_alloc HB.out _) hb)
        have HX1 := Lib.hid (blk_below hb (blk_alloc HX.out _))
        have HP1 := Lib.hid (blk_below hb (heap_alloc_new wr (.cells #[.string more[k].name, .int .i64 more[k].val.kind, .int .i64 more[k].val.int, .string more[k].val.word] 46)))
        have HO1 := Lib.hid (Ty.Own_below hb (Ty.Own_below (below1 _ _) HO.out))
        clear hb HB HX HO x1 x2 x3 e0 e1 e2 e3
        cases hp : named more[k].name n with
        | true =>
          have Hw := Lib.hid (filter_no (q := fun p => !named p.name n) hlt (by simp [hp]))
          clear hp
          go_wp2
          go_roundw
          case rel => exact ⟨k + 1, by omega, by go_num, by rw [Hw.out]; exact HO1.out, HB1.out, HX1.out⟩
          case measure => simp [intOf]; omega
        | false =>
          have Hw := Lib.hid (filter_yes (q := fun p => !named p.name n) hlt (by simp [hp]))
          have hle := filter_take_le (fun p => !named p.name n) more k
          clear hp
          obtain ⟨x1, x2, x3⟩ := blk_facts HP1.out
          go_wp2_with (first
            | (at_builtin; refine own_append Ty.pr rfl (.tmp 29) (.tmp 31) 23 46 (.agg #[.string ⟨#[]⟩, .int .i64 0, .int .i64 0, .string ⟨#[]⟩]) 48 rfl Try.underlying23 infoPair rfl (by decide) _ ((more.take k).filter (fun p => !named p.name n)) [more[k]] (fun k => w.heap.size + 1 ≤ k) (fun k => w.heap.size + 1 ≤ k) rfl (Ty.Own_below (below1 _ _) HO1.out) ⟨w3.heap.size, 0, none⟩ 1 rfl
                (fun _ _ => False) (fun _ => [.string more[k].name, .int .i64 more[k].val.kind, .int .i64 more[k].val.int, .string more[k].val.word]) ?_ nofun nofun (fun _ h => h) nofun ?_ ?_ ?_))
          · intro j hj
            obtain rfl : j = 0 := by simpa using hj
            refine ⟨prO_mk _ _ _, fun i u hu => ?_⟩
            rw [Nat.zero_mul, Nat.zero_add, show (⟨w3.heap.size, 0, none⟩ : Addr).add i = ⟨w3.heap.size, i, none⟩ by unfold Addr.add; split <;> simp_all, (blk_facts (heap_alloc_new w3 _)).2.2 i]
            simpa using hu
          · intro k' hk'
            have := HB1.out.size
            have := (blk_facts HX1.out).1
            simp at hk'; omega
          · simp only [List.length_singleton]; omega
          · intro v1 w4 hO2 hch
            have HO2 := Lib.hid hO2
            have HB2 := Lib.hid (Chg.below (bl_alloc HB1.out _) hch (fun _ h => by omega))
            have HX2 := Lib.hid (Chg.blk hch (blk_alloc HX1.out _) (by omega))
            clear hO2 hch HO1 HB1 HX1 HP1 x1 x2 x3
            go_wp2
            go_roundw
            case rel => exact ⟨k + 1, by omega, by go_num, by rw [Hw.out]; exact HO2.out, HB2.out, HX2.out⟩
            case measure => simp [intOf]; omega
      · have Hacc : Hid ((more.take k).filter (fun p => !named p.name n) = more.filter (fun p => !named p.name n)) := by rw [Hid, List.take_of_length_le (by omega)]
        rw [Hacc.out] at HO
        clear Hacc
        have HO0 := HO
        have HB0 := HB
        have HX0 := HX
        clear HO HB HX
        go_wp2_with fail
        clear x1 x2 x3
        go_loopw [7, 36] (fun v i wr => ∃ k : Nat, k ≤ ev.length ∧ i = .int .i64 k ∧ Hid (Ty.pr.Own 46 wr (fun k => w.heap.size + 1 ≤ k) v (more.filter (fun p => !named p.name n) ++ (ev.take k).filter (fun p => named p.name n))) ∧ Hid (Below w.heap.size w wr) ∧ Hid (wr.heap[w.heap.size]? = some (.cells #[.int .i64 n.p.kind, .string n.p.attr, .slice B1 n.p.ints.length d1, .slice B2 n.p.words.length d2, .int .i64 n.p.lo, .int .i64 n.p.hi, .int .i64 n.op, .slice B3 n.kids.length d3] 32 (0, 0)))) (fun _ i _ => ev.length - (intOf i).toNat)
        case atStart => exact ⟨0, Nat.zero_le _, rfl, by rw [List.take_zero, List.filter_nil, List.append_nil]; exact HO0.out, HB0.out, HX0.out⟩
        case round =>
          obtain ⟨k, hk, rfl, HO, HB, HX⟩ := hrel
          obtain ⟨x1, x2, x3⟩ := blk_facts HX.out
          by_cases hlt : k < ev.length
          · obtain ⟨ad, rfl, e0, e1, e2, e3⟩ := Ty.pr_at (Ty.Row_below HB.out H1.out) k hlt
            go_wp2_with fail
            refine (named_calls n _ all _ ev[k].name (Ty.node.kbelow (bl_alloc HB.out _) HN.out)).mono ?_
            rintro e w3 ⟨rfl, hb⟩
            have HB1 := Lib.hid (bl_trans (bl_alloc HB.out _) hb)
            have HX1 := Lib.hid (blk_below hb (blk_alloc HX.out _))
            have HP1 := Lib.hid (blk_below hb (heap_alloc_new wr (.cells #[.string ev[k].name, .int .i64 ev[k].val.kind, .int .i64 ev[k].val.int, .string ev[k].val.word] 46)))
            have HO1 := Lib.hid (Ty.Own_below hb (Ty.Own_below (below1 _ _) HO.out))
            clear hb HB HX HO x1 x2 x3 e0 e1 e2 e3
            cases hp : named ev[k].name n with
            | false =>
              have Hw := Lib.hid (filter_no (q := fun p => named p.name n) hlt (by simp [hp]))
              clear hp
              go_wp2
              go_roundw
              case rel => exact ⟨k + 1, by omega, by go_num, by rw [Hw.out]; exact HO1.out, HB1.out, HX1.out⟩
              case measure => simp [intOf]; omega
            | true =>
              have Hw := Lib.hid (filter_yes (q := fun p => named p.name n) hlt (by simp [hp]))
              have hle := filter_take_le (fun p => named p.name n) ev k
              clear hp
              obtain ⟨x1, x2, x3⟩ := blk_facts HP1.out
              go_wp2_with (first
                | (at_builtin; refine own_append Ty.pr rfl (.tmp 44) (.tmp 46) 23 46 (.agg #[.string ⟨#[]⟩, .int .i64 0, .int .i64 0, .string ⟨#[]⟩]) 48 rfl Try.underlying23 infoPair rfl (by decide) _ (more.filter (fun p => !named p.name n) ++ (ev.take k).filter (fun p => named p.name n)) [ev[k]] (fun k => w.heap.size + 1 ≤ k) (fun k => w.heap.size + 1 ≤ k) rfl (Ty.Own_below (below1 _ _) HO1.out) ⟨w3.heap.size, 0, none⟩ 1 rfl
                    (fun _ _ => False) (fun _ => [.string ev[k].name, .int .i64 ev[k].val.kind, .int .i64 ev[k].val.int, .string ev[k].val.word]) ?_ nofun nofun (fun _ h => h) nofun ?_ ?_ ?_))
              · intro j hj
                obtain rfl : j = 0 := by simpa using hj
                refine ⟨prO_mk _ _ _, fun i u hu => ?_⟩
                rw [Nat.zero_mul, Nat.zero_add, show (⟨w3.heap.size, 0, none⟩ : Addr).add i = ⟨w3.heap.size, i, none⟩ by unfold Addr.add; split <;> simp_all, (blk_facts (heap_alloc_new w3 _)).2.2 i]
                simpa using hu
              · intro k' hk'
                have := HB1.out.size
                have := (blk_facts HX1.out).1
                simp at hk'; omega
              · have hle2 := List.length_filter_le (fun p : PairD => !named p.name n) more; simp only [List.length_append, List.length_singleton]; omega
              · intro v1 w4 hO2 hch
                have HO2 := Lib.hid hO2
                have HB2 := Lib.hid (Chg.below (bl_alloc HB1.out _) hch (fun _ h => by omega))
                have HX2 := Lib.hid (Chg.blk hch (blk_alloc HX1.out _) (by omega))
                clear hO2 hch HO1 HB1 HX1 HP1 x1 x2 x3
                go_wp2
                go_roundw
                case rel => exact ⟨k + 1, by omega, by go_num, by rw [Hw.out]; exact HO2.out, HB2.out, HX2.out⟩
                case measure => simp [intOf]; omega
          · have Hacc : Hid ((more.filter (fun p => !named p.name n) ++ (ev.take k).filter (fun p => named p.name n)) = mixed n ev more) := by rw [Hid, List.take_of_length_le (by omega)]; rfl
            rw [Hacc.out] at HO
            clear Hacc
            have hlen : (mixed n ev more).length ≤ 9223372036854775807 := by
              have a1 := List.length_filter_le (fun p : PairD => !named p.name n) more
              have a2 := List.length_filter_le (fun p : PairD => named p.name n) ev
              simp only [mixed, List.length_append]; omega
            obtain ⟨Am, cm, hv, hc1, hc2, hrow⟩ := Ty.Own_row HO.out
            have HM := Lib.hid hrow
            obtain rfl := hv
            clear HO hrow
            go_wp2_with fail
            go_region_held3 (fun W => Below wr.heap.size wr W ∧ ∀ a : Addr, a.block < wr.heap.size → W.cell? a = wr.cell? a)
              (first | exact old_mk (bl_drew (Below.refl _ _)) | exact old_below (by assumption) hb | assumption)
              (first
                | (go_at_call 17; (with_reducible refine (eval_calls n _ (fun _ => True) _ Am cm (mixed n ev more) ?_ ?_ hlen).mono ?_); exact Ty.node.kbelow (bl_trans HB.out (And.left (by assumption : Below wr.heap.size wr _ ∧ _))) HN.out; exact Ty.Row_mono (fun _ _ => trivial) (Ty.Row_below (And.left (by assumption : Below wr.heap.size wr _ ∧ _)) HM.out); rintro e w5 ⟨rfl, hb⟩)
                | (go_at_call 17; (with_reducible refine (eval_calls n _ (fun _ => True) _ A1 c1 ev ?_ ?_ (by omega)).mono ?_); exact Ty.node.kbelow (bl_trans HB.out (And.left (by assumption : Below wr.heap.size wr _ ∧ _))) HN.out; exact Ty.Row_below (bl_trans HB.out (And.left (by assumption : Below wr.heap.size wr _ ∧ _))) H1.out; rintro e w5 ⟨rfl, hb⟩))
            have hS2 := (by assumption : Below wr.heap.size wr _ ∧ _)
            have HB4 := Lib.hid (bl_trans HB.out hS2.1)
            clear hS2
            go_wp2
            go_ret
            exact ⟨by rw [mixed_eval]; simp, HB4.out⟩
end Go.Proofs.Yticnbpefeoaamaa
