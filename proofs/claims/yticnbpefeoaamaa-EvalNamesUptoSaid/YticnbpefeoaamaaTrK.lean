/- Contracts: the reference's Get; whether an event meets a predicate, by the program and by the reference. -/
import Derived.Test.YticnbpefeoaamaaTrJ
namespace Go.Proofs.Yticnbpefeoaamaa
open Go.RowKit
set_option linter.unusedSimpArgs false
set_option linter.unusedVariables false

set_option maxHeartbeats 800000 in
set_option maxRecDepth 100000 in
theorem refGet_calls (w : World) (F : Fp) (A : Option Addr) (c : Nat) (ev : List PairD) (name : ByteArray) (hl : ev.length ≤ 9223372036854775807) (h : Ty.pr.Row w F A ev) :
   Calls Try.prog 66 #[.slice A ev.length c, .string name] w fun e w' => e = .returned (getOut (getPair ev name)) ∧ Below w.heap.size w w' := by
  have hu44 := Try.underlying44
  have hu46 := Try.underlying46
  go_enter Try.func66, Try.ntmps66
  go_wp2
  have HR := Lib.hid h
  clear h
  go_loopw [6] (fun i wr => ∃ k : Nat, k ≤ ev.length ∧ i = .int .i64 k ∧ Hid (∀ j, (h : j < ev.length) → j < k → (ev[j].name.toList == name.toList) = false) ∧ Hid (Below w.heap.size w wr) ∧ Hid (wr.heap[w.heap.size]? = some (.cells #[.int .i64 0, .int .i64 0, .string ⟨#[]⟩] 44 (0, 0))))
    (fun i _ => ev.length - (intOf i).toNat)
  case atStart => exact ⟨0, Nat.zero_le _, rfl, fun j hj => by omega, below1 _ _, heap_alloc_new _ _⟩
  case round =>
    obtain ⟨k, hk, rfl, HA, HB, HZ⟩ := hrel
    obtain ⟨b1, b2, b3⟩ := blk_facts HZ.out
    by_cases hlt : k < ev.length
    · obtain ⟨ad, rfl, c0, c1, c2, c3⟩ := Ty.pr_at (Ty.Row_below HB.out HR.out) k hlt
      go_wp2
      · have he := getPair_hit hlt (fun j h hj => HA.out j h hj) (by assumption)
        rw [he]
        refine bodyPost_ret (v := .tuple #[.agg #[.int .i64 ev[k].val.kind, .int .i64 ev[k].val.int, .string ev[k].val.word], .bool true]) (by simp [results, go_sem, b1, b2, b3, hu44]) rfl ⟨rfl, ?_⟩
        repeat (first | exact HB.out | apply bl_alloc | refine bl_set ?_ (by exact Nat.le_refl _) _)
      · have hne : (ev[k].name.toList == name.toList) = false := by assumption
        go_roundw
        case rel => exact ⟨k + 1, by omega, by go_num, fun j h hj => by
          by_cases e : j = k
          · subst e; exact hne
          · exact HA.out j h (by omega), HB.out, HZ.out⟩
        case measure => simp [intOf]; omega
    · go_wp2
      have he := getPair_miss (fun j h => HA.out j h (by omega))
      rw [he]
      refine bodyPost_ret (v := .tuple #[.agg #[.int .i64 0, .int .i64 0, .string ⟨#[]⟩], .bool false]) (by simp [results, go_sem, b1, b2, b3, hu44]) rfl ⟨rfl, ?_⟩
      repeat (first | exact HB.out | apply bl_alloc | refine bl_set ?_ (by exact Nat.le_refl _) _)

def holds (p : PredD) (ev : List PairD) : Bool := predOk p && (match getPair ev p.attr with
  | some v => valOk v && told p v
  | none => false)

set_option maxHeartbeats 1600000 in
set_option maxRecDepth 100000 in
theorem holds_calls (w : World) (F : Fp) (p : PredD) (A1 A2 A : Option Addr) (c1 c2 c : Nat) (ev : List PairD) (h1 : Ty.i64.Row w F A1 p.ints) (h2 : Ty.str.Row w F A2 p.words) (h : Ty.pr.Row w F A ev)
    (hl1 : p.ints.length ≤ 9223372036854775807) (hl2 : p.words.length ≤ 9223372036854775807) (hl : ev.length ≤ 9223372036854775807) :
    Calls Try.prog 19 #[.agg #[.int .i64 p.kind, .string p.attr, .slice A1 p.ints.length c1, .slice A2 p.words.length c2, .int .i64 p.lo, .int .i64 p.hi], .slice A ev.length c] w fun e w' =>
      e = .returned (.bool (holds p ev)) ∧ Below w.heap.size w w' := by
  have hu30 := Try.underlying30
  have hu44 := Try.underlying44
  have H1 := Lib.hid h1
  have H2 := Lib.hid h2
  have H := Lib.hid h
  clear h1 h2 h
  go_enter Try.func19, Try.ntmps19
  go_wp2_with fail
  refine (get_calls _ F A c ev p.attr hl (Ty.Row_below (below1 _ _) H.out)).mono ?_
  rintro e w1 ⟨rfl, hb⟩
  have HB := Lib.hid (bl_trans (below1 _ _) hb)
  have HX := Lib.hid (blk_below hb (heap_alloc_new w _))
  clear hb
  obtain ⟨x1, x2, x3⟩ := blk_facts HX.out
  cases hg : getPair ev p.attr with
  | none =>
    have Hf : Hid (holds p ev = false) := by simp [holds, hg, Hid]
    clear hg
    simp only [getOut]
    go_wp2
    go_ret
    exact ⟨by rw [Hf.out]; rfl, by repeat (first | exact HB.out | apply bl_alloc | refine bl_set ?_ (by first | exact HB.out.size | exact Nat.le_refl _) _)⟩
  | some v =>
    have HG := Lib.hid hg
    clear hg
    simp only [getOut]
    go_wp2_with fail
    have HB1 := Lib.hid (bl_alloc HB.out (.cells #[.int .i64 v.kind, .int .i64 v.int, .string v.word] 44))
    have HX1 := Lib.hid (blk_alloc HX.out (.cells #[.int .i64 v.kind, .int .i64 v.int, .string v.word] 44))
    have HY1 := Lib.hid (heap_alloc_new w1 (.cells #[.int .i64 v.kind, .int .i64 v.int, .string v.word] 44))
    clear HB HX x1 x2 x3
    refine (pred_calls _ F p A1 A2 c1 c2 (Ty.Row_below HB1.out H1.out) (Ty.Row_below HB1.out H2.out) hl1 hl2).mono ?_
    rintro e w2 ⟨rfl, hb⟩
    have HB2 := Lib.hid (bl_trans HB1.out hb)
    have HX2 := Lib.hid (blk_below hb HX1.out)
    have HY2 := Lib.hid (blk_below hb HY1.out)
    clear hb HB1 HX1 HY1
    cases hp : predOk p with
    | false =>
      have Hf : Hid (holds p ev = false) := by simp [holds, hp, Hid]
      clear hp
      simp only [errno]
      go_wp2
      go_ret
      exact ⟨by rw [Hf.out]; rfl, HB2.out⟩
    | true =>
      have HP := Lib.hid hp
      clear hp
      simp only [errno]
      obtain ⟨x1, x2, x3⟩ := blk_facts HX2.out
      obtain ⟨y1, y2, y3⟩ := blk_facts HY2.out
      go_wp2_with fail
      refine (valueCheck v _).mono ?_
      rintro e w3 ⟨rfl, hb⟩
      have HB3 := Lib.hid (bl_trans HB2.out hb)
      have HX3 := Lib.hid (blk_below hb HX2.out)
      have HY3 := Lib.hid (blk_below hb HY2.out)
      clear hb HB2 HX2 HY2 x1 x2 x3 y1 y2 y3
      cases hv : valOk v with
      | false =>
        have Hf : Hid (holds p ev = false) := by simp [holds, HG.out, hv, Hid]
        clear hv
        simp only [errno]
        go_wp2
        go_ret
        exact ⟨by rw [Hf.out]; rfl, HB3.out⟩
      | true =>
        have Hf : Hid (holds p ev = told p v) := by simp [holds, HG.out, HP.out, hv, Hid]
        have HV := Lib.hid hv
        clear hv
        simp only [errno]
        obtain ⟨x1, x2, x3⟩ := blk_facts HX3.out
        obtain ⟨y1, y2, y3⟩ := blk_facts HY3.out
        go_wp2_with fail
        refine (told_calls _ F p v A1 A2 c1 c2 (Ty.Row_below HB3.out H1.out) (Ty.Row_below HB3.out H2.out) hl1 hl2 HP.out HV.out).mono ?_
        rintro e w4 ⟨rfl, hb⟩
        have HB4 := Lib.hid (bl_trans HB3.out hb)
        clear hb
        go_wp2
        go_ret
        exact ⟨by rw [Hf.out]; rfl, HB4.out⟩
set_option maxHeartbeats 1600000 in
set_option maxRecDepth 100000 in
theorem refHolds_calls (w : World) (F : Fp) (p : PredD) (A1 A2 A : Option Addr) (c1 c2 c : Nat) (ev : List PairD) (h1 : Ty.i64.Row w F A1 p.ints) (h2 : Ty.str.Row w F A2 p.words) (h : Ty.pr.Row w F A ev)
    (hl1 : p.ints.length ≤ 9223372036854775807) (hl2 : p.words.length ≤ 9223372036854775807) (hl : ev.length ≤ 9223372036854775807) :
    Calls Try.prog 20 #[.agg #[.int .i64 p.kind, .string p.attr, .slice A1 p.ints.length c1, .slice A2 p.words.length c2, .int .i64 p.lo, .int .i64 p.hi], .slice A ev.length c] w fun e w' =>
      e = .returned (.bool (holds p ev)) ∧ Below w.heap.size w w' := by
  have hu30 := Try.underlying30
  have hu44 := Try.underlying44
  have H1 := Lib.hid h1
  have H2 := Lib.hid h2
  have H := Lib.hid h
  clear h1 h2 h
  go_enter Try.func20, Try.ntmps20
  go_wp2_with fail
  refine (refGet_calls _ F A c ev p.attr hl (Ty.Row_below (below1 _ _) H.out)).mono ?_
  rintro e w1 ⟨rfl, hb⟩
  have HB := Lib.hid (bl_trans (below1 _ _) hb)
  have HX := Lib.hid (blk_below hb (heap_alloc_new w _))
  clear hb
  obtain ⟨x1, x2, x3⟩ := blk_facts HX.out
  cases hg : getPair ev p.attr with
  | none =>
    have Hf : Hid (holds p ev = false) := by simp [holds, hg, Hid]
    clear hg
    simp only [getOut]
    go_wp2_with fail
    have HB1 := Lib.hid (bl_alloc HB.out (.cells #[.int .i64 0, .int .i64 0, .string ⟨#[]⟩] 44))
    clear HB HX x1 x2 x3
    refine (refPred_calls _ F p A1 A2 c1 c2 (Ty.Row_below HB1.out H1.out) (Ty.Row_below HB1.out H2.out) hl1 hl2).mono ?_
    rintro e w2 ⟨rfl, hb⟩
    have HB2 := Lib.hid (bl_trans HB1.out hb)
    clear hb HB1
    go_wp2
    all_goals
      go_ret
      refine ⟨?_, HB2.out⟩
      rw [Hf.out]; first | rfl | simp
  | some v =>
    have HG := Lib.hid hg
    clear hg
    simp only [getOut]
    go_wp2_with fail
    have HB1 := Lib.hid (bl_alloc HB.out (.cells #[.int .i64 v.kind, .int .i64 v.int, .string v.word] 44))
    have HX1 := Lib.hid (blk_alloc HX.out (.cells #[.int .i64 v.kind, .int .i64 v.int, .string v.word] 44))
    have HY1 := Lib.hid (heap_alloc_new w1 (.cells #[.int .i64 v.kind, .int .i64 v.int, .string v.word] 44))
    clear HB HX x1 x2 x3
    refine (refPred_calls _ F p A1 A2 c1 c2 (Ty.Row_below HB1.out H1.out) (Ty.Row_below HB1.out H2.out) hl1 hl2).mono ?_
    rintro e w2 ⟨rfl, hb⟩
    have HB2 := Lib.hid (bl_trans HB1.out hb)
    have HX2 := Lib.hid (blk_below hb HX1.out)
    have HY2 := Lib.hid (blk_below hb HY1.out)
    clear hb HB1 HX1 HY1
    cases hp : predOk p with
    | false =>
      have Hf : Hid (holds p ev = false) := by simp [holds, hp, Hid]
      clear hp
      go_wp2
      go_ret
      exact ⟨by rw [Hf.out]; rfl, HB2.out⟩
    | true =>
      have HP := Lib.hid hp
      clear hp
      obtain ⟨x1, x2, x3⟩ := blk_facts HX2.out
      obtain ⟨y1, y2, y3⟩ := blk_facts HY2.out
      go_wp2_with fail
      refine (refValueCheck v _).mono ?_
      rintro e w3 ⟨rfl, hb⟩
      have HB3 := Lib.hid (bl_trans HB2.out hb)
      have HX3 := Lib.hid (blk_below hb HX2.out)
      have HY3 := Lib.hid (blk_below hb HY2.out)
      clear hb HB2 HX2 HY2 x1 x2 x3 y1 y2 y3
      cases hv : valOk v with
      | false =>
        have Hf : Hid (holds p ev = false) := by simp [holds, HG.out, hv, Hid]
        clear hv
        simp only [errno]
        go_wp2
        go_ret
        exact ⟨by rw [Hf.out]; rfl, HB3.out⟩
      | true =>
        have Hf : Hid (holds p ev = told p v) := by simp [holds, HG.out, HP.out, hv, Hid]
        have HV := Lib.hid hv
        clear hv
        simp only [errno]
        obtain ⟨x1, x2, x3⟩ := blk_facts HX3.out
        obtain ⟨y1, y2, y3⟩ := blk_facts HY3.out
        go_wp2_with fail
        refine (refTold_calls _ F p v A1 A2 c1 c2 (Ty.Row_below HB3.out H1.out) (Ty.Row_below HB3.out H2.out) hl1 hl2 HP.out HV.out).mono ?_
        rintro e w4 ⟨rfl, hb⟩
        have HB4 := Lib.hid (bl_trans HB3.out hb)
        clear hb
        go_wp2
        go_ret
        exact ⟨by rw [Hf.out]; rfl, HB4.out⟩
end Go.Proofs.Yticnbpefeoaamaa
