/- Contracts: the fixed calls of layer 6's statements. -/
import Derived.Test.YticnbpefeoaamaaTrR
namespace Go.Proofs.Yticnbpefeoaamaa
open Go.RowKit
set_option linter.unusedSimpArgs false
set_option linter.unusedVariables false

theorem flatten_get {sz : Nat} : ∀ (L : List (List Value)) (j i : Nat), (∀ l ∈ L, l.length = sz) → j < L.length → i < sz → L.flatten[j * sz + i]? = (L.getD j [])[i]?
  | [], j, i, _, hj, _ => absurd hj (Nat.not_lt_zero j)
  | l :: L, 0, i, hl, _, hi => by
    have : l.length = sz := hl l (by simp)
    rw [List.flatten_cons, Nat.zero_mul, Nat.zero_add, List.getElem?_append_left (by omega)]; rfl
  | l :: L, j + 1, i, hl, hj, hi => by
    have h1 : l.length = sz := hl l (by simp)
    rw [List.flatten_cons, List.getElem?_append_right (by rw [Nat.add_mul]; omega), show (j + 1) * sz + i - l.length = j * sz + i by rw [Nat.add_mul]; omega]
    rw [flatten_get L j i (fun l' h => hl l' (by simp [h])) (by simpa using hj) hi]; rfl
/-- A row that was written out whole. -/
theorem Ty.Row_flat {α : Type} {d : Ty α} {W : World} {F : Fp} {g : Nat} {t : TypeId} {fr : Nat × Nat} {xs : List α} (L : List (List Value)) (h : W.heap[g]? = some (.cells L.flatten.toArray t fr)) (hF : F g) (hL : L.length = xs.length)
    (hk : ∀ j (hj : j < xs.length), d.K W F xs[j] (L.getD j [])) : d.Row W F (some ⟨g, 0, none⟩) xs := by
  refine ⟨fun j => L.getD j [], fun _ => ⟨_, rfl, hF, fun j hj i u hu hi => ?_⟩, hk⟩
  have e : (⟨g, 0, none⟩ : Addr).add (j * d.sz + i) = ⟨g, j * d.sz + i, none⟩ := by unfold Addr.add; split <;> simp_all
  rw [e, cell_of_row W g _ _ t fr h]
  have hl : ∀ l ∈ L, l.length = d.sz := by
    intro l hl
    obtain ⟨m, hm, rfl⟩ := List.getElem_of_mem hl
    have := d.len (hk m (by omega))
    rwa [List.getD_eq_getElem?_getD, List.getElem?_eq_getElem hm] at this
  rw [List.getElem?_toArray, flatten_get L j i hl (by omega) hi]; exact hu

abbrev all : Fp := fun _ => True
def evF : List PairD := [⟨⟨#[97]⟩, ⟨1, 5, ⟨#[]⟩⟩⟩, ⟨⟨#[99]⟩, ⟨2, 0, ⟨#[97, 98]⟩⟩⟩]
def fiveF : NodeD := .mk ⟨1, ⟨#[97]⟩, [1, 5], [], 0, 0⟩ 1 []
def beginsF : PredD := ⟨4, ⟨#[99]⟩, [], [⟨#[97]⟩], 0, 0⟩
def emptyF : NodeD := .mk ⟨3, ⟨#[97]⟩, [], [], 9, 5⟩ 1 []
theorem fixed1 : which evF [fiveF, emptyF, .mk PredD.zero 2 [emptyF]] = [0, 2] := by decide +kernel
theorem fixed2 : eval fiveF evF = true := by decide +kernel
theorem fixed3 : holds beginsF evF = true := by decide +kernel
theorem fixed4 : eval emptyF evF = false := by decide +kernel

theorem evF_row {W : World} {g : Nat} {t : TypeId} {fr : Nat × Nat} (h : W.heap[g]? = some (.cells #[.string ⟨#[97]⟩, .int .i64 1, .int .i64 5, .string ⟨#[]⟩, .string ⟨#[99]⟩, .int .i64 2, .int .i64 0, .string ⟨#[97, 98]⟩] t fr)) :
    Ty.pr.Row W all (some ⟨g, 0, none⟩) evF := by
  refine Ty.Row_flat [[.string ⟨#[97]⟩, .int .i64 1, .int .i64 5, .string ⟨#[]⟩], [.string ⟨#[99]⟩, .int .i64 2, .int .i64 0, .string ⟨#[97, 98]⟩]] h trivial rfl ?_
  intro j hj
  match j, hj with
  | 0, _ => exact Ty.pr_mk _ _ _
  | 1, _ => exact Ty.pr_mk _ _ _
theorem nilInts (W : World) (F : Fp) : Ty.ints.K W F [] [.slice none 0 0] := ⟨none, 0, rfl, Nat.le_refl _, Nat.zero_le _, Ty.Row_nil _ _ _ _⟩
theorem nilWords (W : World) (F : Fp) : Ty.words.K W F [] [.slice none 0 0] := ⟨none, 0, rfl, Nat.le_refl _, Nat.zero_le _, Ty.Row_nil _ _ _ _⟩
theorem nilNodes (W : World) (F : Fp) : Ty.nodes.K W F [] [.slice none 0 0] := ⟨none, 0, rfl, Nat.le_refl _, Nat.zero_le _, Ty.Row_nil _ _ _ _⟩
theorem fiveF_k {W : World} {g : Nat} {t : TypeId} {fr : Nat × Nat} (h : W.heap[g]? = some (.cells #[.int .i64 1, .int .i64 5] t fr)) :
    Ty.node.K W all fiveF [.int .i64 1, .string ⟨#[97]⟩, .slice (some ⟨g, 0, none⟩) 2 2, .slice none 0 0, .int .i64 0, .int .i64 0, .int .i64 1, .slice none 0 0] :=
  Ty.node_mk (n := fiveF) ⟨_, 2, rfl, by decide, by decide, Ty.Row_lit [1, 5] h trivial⟩ (nilWords _ _) (nilNodes _ _)
theorem emptyF_k (W : World) : Ty.node.K W all emptyF [.int .i64 3, .string ⟨#[97]⟩, .slice none 0 0, .slice none 0 0, .int .i64 9, .int .i64 5, .int .i64 1, .slice none 0 0] :=
  Ty.node_mk (n := emptyF) (nilInts _ _) (nilWords _ _) (nilNodes _ _)
theorem notF_k {W : World} {g : Nat} {t : TypeId} {fr : Nat × Nat} (h : W.heap[g]? = some (.cells #[.int .i64 3, .string ⟨#[97]⟩, .slice none 0 0, .slice none 0 0, .int .i64 9, .int .i64 5, .int .i64 1, .slice none 0 0] t fr)) :
    Ty.node.K W all (.mk PredD.zero 2 [emptyF]) [.int .i64 0, .string ⟨#[]⟩, .slice none 0 0, .slice none 0 0, .int .i64 0, .int .i64 0, .int .i64 2, .slice (some ⟨g, 0, none⟩) 1 1] := by
  refine Ty.node_mk (n := .mk PredD.zero 2 [emptyF]) (nilInts _ _) (nilWords _ _) ⟨_, 1, rfl, by decide, by decide, ?_⟩
  refine Ty.Row_flat [[.int .i64 3, .string ⟨#[97]⟩, .slice none 0 0, .slice none 0 0, .int .i64 9, .int .i64 5, .int .i64 1, .slice none 0 0]] h trivial rfl ?_
  intro j hj
  match j, hj with
  | 0, _ => exact emptyF_k _

/-- All that is older than W0: what a region that draws its order holds on to. -/
theorem old_mk {W0 W : World} (hb : Below W0.heap.size W0 W) : Below W0.heap.size W0 W ∧ ∀ a : Addr, a.block < W0.heap.size → W.cell? a = W0.cell? a := ⟨hb, fun a ha => hb.cell ha⟩
theorem old_alloc {W0 W : World} (h : Below W0.heap.size W0 W ∧ ∀ a : Addr, a.block < W0.heap.size → W.cell? a = W0.cell? a) (o : Obj) : Below W0.heap.size W0 (W.alloc o) ∧ ∀ a : Addr, a.block < W0.heap.size → (W.alloc o).cell? a = W0.cell? a := old_mk (bl_alloc h.1 o)
theorem old_below {W0 W W' : World} (h : Below W0.heap.size W0 W ∧ ∀ a : Addr, a.block < W0.heap.size → W.cell? a = W0.cell? a) (hb : Below W.heap.size W W') : Below W0.heap.size W0 W' ∧ ∀ a : Addr, a.block < W0.heap.size → W'.cell? a = W0.cell? a := old_mk (bl_trans h.1 hb)

theorem evalFive (W : World) (g ge : Nat) (t t' : TypeId) (fr fr' : Nat × Nat) (h : W.heap[g]? = some (.cells #[.int .i64 1, .int .i64 5] t fr))
    (he : W.heap[ge]? = some (.cells #[.string ⟨#[97]⟩, .int .i64 1, .int .i64 5, .string ⟨#[]⟩, .string ⟨#[99]⟩, .int .i64 2, .int .i64 0, .string ⟨#[97, 98]⟩] t' fr')) :
    Calls Try.prog 17 #[.agg #[.int .i64 1, .string ⟨#[97]⟩, .slice (some ⟨g, 0, none⟩) 2 2, .slice none 0 0, .int .i64 0, .int .i64 0, .int .i64 1, .slice none 0 0], .slice (some ⟨ge, 0, none⟩) 2 2] W fun e w' => e = .returned (.bool true) ∧ Below W.heap.size W w' :=
  (eval_calls fiveF W all _ _ 2 evF (fiveF_k h) (evF_row he) (by decide)).mono fun e w' ⟨h1, h2⟩ => ⟨by rw [h1, fixed2], h2⟩
theorem evalEmpty (W : World) (ge : Nat) (t' : TypeId) (fr' : Nat × Nat)
    (he : W.heap[ge]? = some (.cells #[.string ⟨#[97]⟩, .int .i64 1, .int .i64 5, .string ⟨#[]⟩, .string ⟨#[99]⟩, .int .i64 2, .int .i64 0, .string ⟨#[97, 98]⟩] t' fr')) :
    Calls Try.prog 17 #[.agg #[.int .i64 3, .string ⟨#[97]⟩, .slice none 0 0, .slice none 0 0, .int .i64 9, .int .i64 5, .int .i64 1, .slice none 0 0], .slice (some ⟨ge, 0, none⟩) 2 2] W fun e w' => e = .returned (.bool false) ∧ Below W.heap.size W w' :=
  (eval_calls emptyF W all _ _ 2 evF (emptyF_k _) (evF_row he) (by decide)).mono fun e w' ⟨h1, h2⟩ => ⟨by rw [h1, fixed4], h2⟩
theorem holdsBegins (W : World) (g ge : Nat) (t t' : TypeId) (fr fr' : Nat × Nat) (h : W.heap[g]? = some (.cells #[.string ⟨#[97]⟩] t fr))
    (he : W.heap[ge]? = some (.cells #[.string ⟨#[97]⟩, .int .i64 1, .int .i64 5, .string ⟨#[]⟩, .string ⟨#[99]⟩, .int .i64 2, .int .i64 0, .string ⟨#[97, 98]⟩] t' fr')) :
    Calls Try.prog 19 #[.agg #[.int .i64 4, .string ⟨#[99]⟩, .slice none 0 0, .slice (some ⟨g, 0, none⟩) 1 1, .int .i64 0, .int .i64 0], .slice (some ⟨ge, 0, none⟩) 2 2] W fun e w' => e = .returned (.bool true) ∧ Below W.heap.size W w' :=
  (holds_calls W all beginsF none (some ⟨g, 0, none⟩) _ 0 1 2 evF (Ty.Row_nil _ _ _ _) (Ty.Row_lit (enc := Value.string) (h1 := fun _ => rfl) [(⟨#[97]⟩ : ByteArray)] h trivial) (evF_row he) (by decide) (by decide) (by decide)).mono fun e w' ⟨h1, h2⟩ => ⟨by rw [h1, fixed3], h2⟩

set_option maxHeartbeats 3200000 in
set_option maxRecDepth 100000 in
theorem fixed_calls (w : World) : Calls Try.prog 13 #[] w fun e w' => e = .returned (.bool true) ∧ Below w.heap.size w w' := by
  have hu32 := Try.underlying32
  have hu30 := Try.underlying30
  go_enter Try.func13, Try.ntmps13
  go_wp2_with fail
  refine (lawPred_calls _ 1 0 0 _ _ none 2 0 2 0).mono ?_
  rintro e w1 ⟨rfl, hb⟩
  have HB1 := Lib.hid (bl_trans (below1 _ _) hb)
  have HI1 := Lib.hid (blk_below hb (heap_alloc_new w (.cells #[.int .i64 1, .int .i64 5] 3)))
  clear hb
  go_wp2_with fail
  refine (lawPred_calls _ 3 9 5 _ none none 0 0 0 0).mono ?_
  rintro e w2 ⟨rfl, hb⟩
  have HB2 := Lib.hid (bl_trans (bl_alloc (bl_alloc (bl_alloc HB1.out _) _) _) hb)
  have HI2 := Lib.hid (blk_below hb (blk_alloc (blk_alloc (blk_alloc HI1.out _) _) _))
  have HF2 := Lib.hid (blk_below hb (blk_alloc (blk_alloc (heap_alloc_new w1 (.cells #[.int .i64 1, .string ⟨#[97]⟩, .slice (some ⟨w.heap.size, 0, none⟩) 2 2, .slice none 0 0, .int .i64 0, .int .i64 0, .int .i64 1, .slice none 0 0] 32)) (.cells #[.string ⟨#[97]⟩] 9)) (.cells #[.int .i64 4, .string ⟨#[99]⟩, .slice none 0 0, .slice (some ⟨w1.heap.size + 1, 0, none⟩) 1 1, .int .i64 0, .int .i64 0] 30)))
  have HW2 := Lib.hid (blk_below hb (blk_alloc (heap_alloc2 w1 (.cells #[.int .i64 1, .string ⟨#[97]⟩, .slice (some ⟨w.heap.size, 0, none⟩) 2 2, .slice none 0 0, .int .i64 0, .int .i64 0, .int .i64 1, .slice none 0 0] 32) (.cells #[.string ⟨#[97]⟩] 9)) (.cells #[.int .i64 4, .string ⟨#[99]⟩, .slice none 0 0, .slice (some ⟨w1.heap.size + 1, 0, none⟩) 1 1, .int .i64 0, .int .i64 0] 30)))
  have HG2 := Lib.hid (blk_below hb (heap_alloc3 w1 (.cells #[.int .i64 1, .string ⟨#[97]⟩, .slice (some ⟨w.heap.size, 0, none⟩) 2 2, .slice none 0 0, .int .i64 0, .int .i64 0, .int .i64 1, .slice none 0 0] 32) (.cells #[.string ⟨#[97]⟩] 9) (.cells #[.int .i64 4, .string ⟨#[99]⟩, .slice none 0 0, .slice (some ⟨w1.heap.size + 1, 0, none⟩) 1 1, .int .i64 0, .int .i64 0] 30)))
  clear hb HB1 HI1
  go_wp2_with fail
  obtain ⟨W0, hW0⟩ : ∃ W0, W0 = w2.alloc (.cells #[.int .i64 3, .string ⟨#[97]⟩, .slice none 0 0, .slice none 0 0, .int .i64 9, .int .i64 5, .int .i64 1, .slice none 0 0] 32) := ⟨_, rfl⟩
  have HB := Lib.hid (bl_alloc HB2.out (.cells #[.int .i64 3, .string ⟨#[97]⟩, .slice none 0 0, .slice none 0 0, .int .i64 9, .int .i64 5, .int .i64 1, .slice none 0 0] 32))
  have HI := Lib.hid (blk_alloc HI2.out (.cells #[.int .i64 3, .string ⟨#[97]⟩, .slice none 0 0, .slice none 0 0, .int .i64 9, .int .i64 5, .int .i64 1, .slice none 0 0] 32))
  have HF := Lib.hid (blk_alloc HF2.out (.cells #[.int .i64 3, .string ⟨#[97]⟩, .slice none 0 0, .slice none 0 0, .int .i64 9, .int .i64 5, .int .i64 1, .slice none 0 0] 32))
  have HW := Lib.hid (blk_alloc HW2.out (.cells #[.int .i64 3, .string ⟨#[97]⟩, .slice none 0 0, .slice none 0 0, .int .i64 9, .int .i64 5, .int .i64 1, .slice none 0 0] 32))
  have HG := Lib.hid (blk_alloc HG2.out (.cells #[.int .i64 3, .string ⟨#[97]⟩, .slice none 0 0, .slice none 0 0, .int .i64 9, .int .i64 5, .int .i64 1, .slice none 0 0] 32))
  have HE := Lib.hid (heap_alloc_new w2 (.cells #[.int .i64 3, .string ⟨#[97]⟩, .slice none 0 0, .slice none 0 0, .int .i64 9, .int .i64 5, .int .i64 1, .slice none 0 0] 32))
  rw [← hW0] at HB HI HF HW HG HE ⊢
  clear hW0 HB2 HI2 HF2 HW2 HG2
  generalize w2.heap.size = ge at HE ⊢
  generalize w1.heap.size = gf at HF HW HG ⊢
  obtain ⟨f1, f2, f3⟩ := blk_facts HF.out
  obtain ⟨g1, g2, g3⟩ := blk_facts HG.out
  obtain ⟨e1, e2, e3⟩ := blk_facts HE.out
  go_region_held3 (fun W => Below W0.heap.size W0 W ∧ ∀ a : Addr, a.block < W0.heap.size → W.cell? a = W0.cell? a)
    (first | exact old_mk (bl_drew (Below.refl _ _)) | exact old_alloc (by assumption) _ | exact old_below (by assumption) hb | assumption)
    (first
      | (go_at_call 57; (with_reducible refine (event_calls _).mono ?_); rintro e w' ⟨rfl, rfl⟩)
      | (go_at_call 22; (refine (which_calls _ all _ _ 2 3 evF [fiveF, emptyF, .mk PredD.zero 2 [emptyF]] (evF_row (t := 46) (fr := (0, 0)) (by first | exact blk_alloc (blk_alloc (heap_alloc_new _ _) _) _ | exact blk_alloc (heap_alloc2 _ _ _) _ | exact heap_alloc3 _ _ _ _))
          (Ty.Row_flat [[.int .i64 1, .string ⟨#[97]⟩, .slice (some ⟨w.heap.size, 0, none⟩) 2 2, .slice none 0 0, .int .i64 0, .int .i64 0, .int .i64 1, .slice none 0 0], [.int .i64 3, .string ⟨#[97]⟩, .slice none 0 0, .slice none 0 0, .int .i64 9, .int .i64 5, .int .i64 1, .slice none 0 0], [.int .i64 0, .string ⟨#[]⟩, .slice none 0 0, .slice none 0 0, .int .i64 0, .int .i64 0, .int .i64 2, .slice (some ⟨_, 0, none⟩) 1 1]]
            (t := 32) (fr := (0, 0)) (by first | exact heap_alloc3 _ _ _ _ | exact blk_alloc (heap_alloc2 _ _ _) _) trivial rfl
            (fun j hj => match j, hj with
              | 0, _ => fiveF_k (blk_below (And.left (by assumption : Below W0.heap.size W0 _ ∧ _)) HI.out)
              | 1, _ => emptyF_k _
              | 2, _ => notF_k (t := 32) (fr := (0, 0)) (by first | exact blk_alloc (blk_alloc (heap_alloc_new _ _) _) _ | exact blk_alloc (heap_alloc2 _ _ _) _ | exact heap_alloc3 _ _ _ _))) (by decide) (by decide)).mono ?_); rintro e w3 ⟨v, rfl, hO, hb⟩))
  all_goals
    have hS := (by assumption : Below W0.heap.size W0 _ ∧ _)
    have hO' := hO
    rw [fixed1] at hO'
    obtain ⟨A, c, hv, hc1, hc2, hrow⟩ := Ty.Own_row hO'
    replace hv : v = .slice A 2 c := hv
    subst hv
    obtain ⟨ad, rfl, l1⟩ := Ty.int_at hrow 1 (by decide)
    replace l1 : w3.cell? (ad.add 1) = some (.int .i64 2) := l1
    replace l1 : w3.cell? ⟨ad.block, ad.off + 1, none⟩ = some (.int .i64 2) := by simpa [Addr.add] using l1
    have hl1 : ad.block < w3.heap.size := World.block_lt_of_cell? w3 ⟨ad.block, ad.off + 1, none⟩ l1
    have HB3 := Lib.hid (bl_trans HB.out hS.1)
    have HI3 := Lib.hid (blk_below hS.1 HI.out)
    have HW3 := Lib.hid (blk_below hS.1 HW.out)
    obtain ⟨f1, f2, f3⟩ := blk_facts (blk_below hS.1 HF.out)
    obtain ⟨g1, g2, g3⟩ := blk_facts (blk_below hS.1 HG.out)
    obtain ⟨e1, e2, e3⟩ := blk_facts (blk_below hS.1 HE.out)
    clear hS hO hO' hrow HB HI HW HF HG HE
    go_wp2_with fail
    go_region_held3 (fun W => Below w3.heap.size w3 W ∧ ∀ a : Addr, a.block < w3.heap.size → W.cell? a = w3.cell? a)
      (first | exact old_mk (bl_drew (Below.refl _ _)) | exact old_alloc (by assumption) _ | exact old_below (by assumption) hb' | assumption)
      (first
        | (go_at_call 57; (with_reducible refine (event_calls _).mono ?_); rintro e w' ⟨rfl, rfl⟩)
        | (go_at_call 17; (with_reducible refine (evalFive _ _ _ 3 46 (0, 0) (0, 0) ?_ ?_).mono ?_); exact blk_below (And.left (by assumption : Below w3.heap.size w3 _ ∧ _)) HI3.out; exact heap_alloc_new _ _; rintro e w' ⟨rfl, hb'⟩)
        | (go_at_call 17; (with_reducible refine (evalEmpty _ _ 46 (0, 0) ?_).mono ?_); exact heap_alloc_new _ _; rintro e w' ⟨rfl, hb'⟩)
        | (go_at_call 19; (with_reducible refine (holdsBegins _ _ _ 9 46 (0, 0) (0, 0) ?_ ?_).mono ?_); exact blk_below (And.left (by assumption : Below w3.heap.size w3 _ ∧ _)) HW3.out; exact heap_alloc_new _ _; rintro e w' ⟨rfl, hb'⟩))
    have hS2 := (by assumption : Below w3.heap.size w3 _ ∧ _)
    have HB4 := Lib.hid (bl_trans HB3.out hS2.1)
    clear hS2
    go_wp2
    go_ret
    exact ⟨rfl, HB4.out⟩
end Go.Proofs.Yticnbpefeoaamaa
