/- Appending to a row of the call's own; what changes at most the blocks F. -/
import Derived.Test.YticnbpefeoaamaaTrB
import Derived.Maps.AppendAt
namespace Go.Proofs.Yticnbpefeoaamaa
open Go.RowKit
set_option linter.unusedSimpArgs false
set_option linter.unusedVariables false

/-- From W to w1 nothing that was there has changed but what lies in F. -/
structure Chg (F : Fp) (W w1 : World) : Prop where
  os : w1.os = W.os
  tape : w1.tape = W.tape
  output : w1.output = W.output
  size : W.heap.size ≤ w1.heap.size
  block : ∀ k, k < W.heap.size → ¬ F k → w1.heap[k]? = W.heap[k]?
theorem Chg.refl (F : Fp) (W : World) : Chg F W W := ⟨rfl, rfl, rfl, Nat.le_refl _, fun _ _ _ => rfl⟩
theorem Chg.mono {F F' : Fp} {W w1 : World} (h : Chg F W w1) (hm : ∀ k, F k → F' k) : Chg F' W w1 := ⟨h.os, h.tape, h.output, h.size, fun k hk hf => h.block k hk (fun hF => hf (hm k hF))⟩
theorem Chg.trans {F : Fp} {W w1 w2 : World} (h : Chg F W w1) (h' : Chg F w1 w2) : Chg F W w2 :=
  ⟨h'.os.trans h.os, h'.tape.trans h.tape, h'.output.trans h.output, Nat.le_trans h.size h'.size, fun k hk hf => (h'.block k (Nat.lt_of_lt_of_le hk h.size) hf).trans (h.block k hk hf)⟩
/-- What the second step changes may be new to the first. -/
theorem Chg.then {F F' : Fp} {W w1 w2 : World} (h : Chg F W w1) (h' : Chg F' w1 w2) (hm : ∀ k, k < W.heap.size → F' k → F k) : Chg F W w2 :=
  ⟨h'.os.trans h.os, h'.tape.trans h.tape, h'.output.trans h.output, Nat.le_trans h.size h'.size, fun k hk hf => (h'.block k (Nat.lt_of_lt_of_le hk h.size) (fun hF => hf (hm k hk hF))).trans (h.block k hk hf)⟩
theorem Chg.of_below {F : Fp} {W w1 : World} (h : Below W.heap.size W w1) : Chg F W w1 := ⟨h.os, h.tape, h.output, h.size, fun k hk _ => h.block k hk⟩
theorem Chg.below {w0 W w1 : World} {F : Fp} (hb : Below w0.heap.size w0 W) (h : Chg F W w1) (hF : ∀ k, F k → w0.heap.size ≤ k) : Below w0.heap.size w0 w1 :=
  ⟨h.os.trans hb.os, h.tape.trans hb.tape, h.output.trans hb.output, Nat.le_trans hb.size h.size, fun k hk => (h.block k (Nat.lt_of_lt_of_le hk hb.size) (fun hf => by have := hF k hf; omega)).trans (hb.block k hk)⟩
theorem Chg.blk {F : Fp} {W w1 : World} {g : Nat} {o : Obj} (h : Chg F W w1) (hg : W.heap[g]? = some o) (hF : ¬ F g) : w1.heap[g]? = some o := (h.block g (Array.getElem?_eq_some_iff.1 hg).1 hF).trans hg

namespace Ty
variable {α : Type}
theorem kchg (d : Ty α) {F G : Fp} {W w1 : World} {x : α} {cs : List Value} (h : Chg F W w1) (hG : ∀ k, G k → ¬ F k) (hk : d.K W G x cs) : d.K w1 G x cs := d.kstep (fun k hg hlt => h.block k hlt (hG k hg)) hk
theorem ochg (d : Ty α) {F G : Fp} {W w1 : World} {x : α} {cs : List Value} (h : Chg F W w1) (hG : ∀ k, G k → ¬ F k) (hk : d.O W G x cs) : d.O w1 G x cs := d.ostep (fun k hg hlt => h.block k hlt (hG k hg)) hk
theorem Row_chg {d : Ty α} {F G : Fp} {W w1 : World} {A : Option Addr} {xs : List α} (h : Chg F W w1) (hG : ∀ k, G k → ¬ F k) (hk : d.Row W G A xs) : d.Row w1 G A xs := Row_step (fun k hg hlt => h.block k hlt (hG k hg)) hk
theorem Own_chg {d : Ty α} {e : TypeId} {F G : Fp} {W w1 : World} {v : Value} {xs : List α} (h : Chg F W w1) (hG : ∀ k, G k → ¬ F k) (hk : d.Own e W G v xs) : d.Own e w1 G v xs := Own_step (fun k hg hlt => h.block k hlt (hG k hg)) hk

theorem Own_block {d : Ty α} {e : TypeId} {W : World} {F : Fp} {v : Value} {xs : List α} (h : d.Own e W F v xs) : ∀ k, v.ownBlock = some k → F k := by
  rcases h with ⟨rfl, _⟩ | ⟨g, cap, cur, rfl, hF, _⟩
  · intro k hk; cases hk
  · intro k hk; cases hk; exact hF

/-- The row's cells, one behind the other. -/
theorem Own_cells {d : Ty α} {e : TypeId} {W : World} {F : Fp} {v : Value} {xs : List α} (h : d.Own e W F v xs) :
    ∃ cells, W.ownsRow 0 e d.sz v xs.length cells ∧ ∃ (Fs : Nat → Fp) (css : Nat → List Value), (∀ j k, Fs j k → F k ∧ v.ownBlock ≠ some k ∧ k < W.heap.size) ∧ (∀ i j k, i ≠ j → Fs i k → Fs j k → False) ∧
      ∀ j (h : j < xs.length), d.O W (Fs j) xs[j] (css j) ∧ ∀ i u, (css j)[i]? = some u → cells[j * d.sz + i]? = some u := by
  rcases h with ⟨rfl, rfl⟩ | ⟨g, cap, cur, rfl, hF, hb, h1, h2, h3, Fs, css, s1, s2, s3⟩
  · exact ⟨[], ⟨by simp, .inl ⟨rfl, rfl⟩⟩, fun _ _ => False, fun _ => [], nofun, nofun, fun j hj => absurd hj (Nat.not_lt_zero j)⟩
  · refine ⟨cur.toList.take (xs.length * d.sz), ⟨?_, .inr ⟨g, cap, cur, rfl, Nat.zero_le _, hb, h1, h2, h3, rfl⟩⟩, fun j k => Fs j k ∧ k < W.heap.size, css, ?_, fun i j k hij a b => s2 i j k hij a.1 b.1, fun j hj => ⟨d.obound (s3 j hj).1, fun i u hu => ?_⟩⟩
    · have hc : cur.toList.length = cap * d.sz := h3
      rw [List.length_take, hc]
      exact Nat.min_eq_left (Nat.mul_le_mul_right _ h1)
    · intro j k hk
      exact ⟨(s1 j k hk.1).1, fun he => (s1 j k hk.1).2 (by cases he; rfl), hk.2⟩
    · have hl := d.len (d.ok (s3 j hj).1)
      have hi : i < d.sz := by have := (List.getElem?_eq_some_iff.1 hu).1; omega
      have hlt : j * d.sz + i < xs.length * d.sz := by
        have : (j + 1) * d.sz ≤ xs.length * d.sz := Nat.mul_le_mul_right _ hj
        rw [Nat.add_mul, Nat.one_mul] at this
        omega
      rw [List.getElem?_take, if_pos hlt, Array.getElem?_toList]
      exact (s3 j hj).2 i u hu

theorem Own_of_cells {d : Ty α} {e : TypeId} {w : World} {F : Fp} {v : Value} {xs : List α} {base : Nat} {cells : List Value} (ho : w.ownsRow base e d.sz v xs.length cells) (hv : ∀ k, v.ownBlock = some k → F k)
    (Fs : Nat → Fp) (css : Nat → List Value) (s1 : ∀ j k, Fs j k → F k ∧ v.ownBlock ≠ some k) (s2 : ∀ i j k, i ≠ j → Fs i k → Fs j k → False)
    (s3 : ∀ j (h : j < xs.length), d.O w (Fs j) xs[j] (css j) ∧ ∀ i u, (css j)[i]? = some u → cells[j * d.sz + i]? = some u) : d.Own e w F v xs := by
  obtain ⟨hl, ⟨rfl, h0⟩ | ⟨g, cap, cur, rfl, hbg, hb, h1, h2, h3, h4⟩⟩ := ho
  · exact .inl ⟨rfl, List.eq_nil_of_length_eq_zero h0⟩
  · refine .inr ⟨g, cap, cur, rfl, hv g rfl, hb, h1, h2, h3, Fs, css, fun j k hk => ⟨(s1 j k hk).1, fun he => (s1 j k hk).2 (by rw [he]; rfl)⟩, s2, fun j hj => ⟨(s3 j hj).1, fun i u hu => ?_⟩⟩
    have := (s3 j hj).2 i u hu
    rw [← h4, List.getElem?_take] at this
    split at this
    · rwa [Array.getElem?_toList] at this
    · cases this
end Ty

section
variable {α : Type} {P : Program} {ops : Array Oper} {rest : List Oper} {o : Oper} {a : Act} {Q : Exit → Act → World → Prop}
/-- append(v, ys...): v is the call's own; the new elements' cells lie at ad. -/
theorem own_append (d : Ty α) {W : World} (hgd : o.guard = none) (s x : Operand) (t e : TypeId) (z : Value) (bytes : Nat)
    (ho : o.op = .call { callee := .builtin .append, args := #[s, x], argTypes := #[t, t] })
    (ht : P.underlying t = some (.slice e)) (hinfo : (P.info? e).map (fun i => (i.zero, i.size, i.bytes)) = some (some z, d.sz, bytes)) (hz : z.cells.size = d.sz) (hb0 : 0 < bytes)
    (v : Value) (xs ys : List α) (F F' : Fp) (hs : a.eval s = v) (HO : d.Own e W F v xs) (ad : Addr) (c : Nat) (hx : a.eval x = .slice (some ad) ys.length c)
    (Gs : Nat → Fp) (cz : Nat → List Value) (hG : ∀ j (h : j < ys.length), d.O W (Gs j) ys[j] (cz j) ∧ ∀ i u, (cz j)[i]? = some u → W.cell? (ad.add (j * d.sz + i)) = some u)
    (hGd : ∀ i j k, i ≠ j → Gs i k → Gs j k → False) (hGF : ∀ j k, Gs j k → ¬ F k) (h1 : ∀ k, F k → F' k) (h2 : ∀ j k, Gs j k → F' k) (h3 : ∀ k, W.heap.size ≤ k → F' k)
    (hl : (xs.length + ys.length) * bytes ≤ 140737488355328)
    (h : ∀ v1 w1, d.Own e w1 F' v1 (xs ++ ys) → Chg F W w1 → wpList P ops Q rest (a.put o.dst v1) w1) :
    wpList P ops Q (o :: rest) a W := by
  obtain ⟨i0, hi, hz0, hz1, hz2⟩ := info_parts hinfo
  obtain ⟨cells, hown, Fs, css, s1, s2, s3⟩ := Ty.Own_cells HO
  have hcz : ∀ j, j < ys.length → (cz j).length = d.sz := fun j hj => d.len (d.ok (hG j hj).1)
  let news : List Value := (List.range (ys.length * d.sz)).map fun m => (cz (m / d.sz)).getD (m % d.sz) (.bool false)
  have hnl : news.length = ys.length * d.sz := by simp [news]
  have hpos := d.pos
  have hnews : ∀ m u, news[m]? = some u → m < ys.length * d.sz ∧ (cz (m / d.sz))[m % d.sz]? = some u ∧ m / d.sz < ys.length := by
    intro m u hu
    have hm : m < ys.length * d.sz := by have := (List.getElem?_eq_some_iff.1 hu).1; omega
    have hdiv : m / d.sz < ys.length := (Nat.div_lt_iff_lt_mul hpos).2 hm
    have hmod := Nat.mod_lt m hpos
    refine ⟨hm, ?_, hdiv⟩
    simp only [news, List.getElem?_map, List.getElem?_range hm, Option.map_some, Option.some.injEq] at hu
    rw [← hu, List.getD_eq_getElem?_getD, List.getElem?_eq_getElem (by rw [hcz _ hdiv]; exact hmod)]
    rfl
  have hlen : xs.length + ys.length ≤ 140737488355328 := Nat.le_trans (Nat.le_mul_of_pos_right _ hb0) hl
  refine wpList_append_own_at _ hgd s x t ho 0 e i0 z d.sz bytes ht hi hz0 hz1 hz2 hz hpos v xs.length cells hs hown ad ys.length c news hx hnl ?_ ?_ (by simp only [maxLen]; omega) hl (Nat.zero_le _) ?_
  · intro m u hu
    obtain ⟨hm, hu', hdiv⟩ := hnews m u hu
    have := (hG _ hdiv).2 _ _ hu'
    rwa [Nat.mul_comm, Nat.div_add_mod] at this
  · intro u hu
    obtain ⟨m, hm, rfl⟩ := List.getElem_of_mem hu
    obtain ⟨_, hu', hdiv⟩ := hnews m _ (List.getElem?_eq_getElem hm)
    exact d.one (d.ok (hG _ hdiv).1) _ (List.mem_of_getElem? hu')
  · intro v1 w1 hown1 hgrow _ hat
    have hF0 := Ty.Own_block HO
    refine h v1 w1 ?_ ⟨hgrow.os, hgrow.tape, hgrow.output, hgrow.size, fun k hk hnF => hgrow.block k hk (fun he => hnF (hF0 k he.symm))⟩
    refine Ty.Own_of_cells (by rw [List.length_append]; exact hown1) ?_ (fun j k => if j < xs.length then Fs j k else Gs (j - xs.length) k ∧ k < W.heap.size) (fun j => if j < xs.length then css j else cz (j - xs.length)) ?_ ?_ ?_
    · intro k hk
      rcases hat with hat | hat
      · exact h1 k (hF0 k (hat ▸ hk))
      · rw [hat] at hk; cases hk; exact h3 _ (Nat.le_refl _)
    · intro j k hk
      have hne : ∀ k, v.ownBlock ≠ some k → k < W.heap.size → v1.ownBlock ≠ some k := by
        intro k hk hlt he
        rcases hat with hat | hat
        · exact hk (hat ▸ he)
        · rw [hat] at he; cases he; omega
      by_cases hj : j < xs.length
      · simp only [hj, if_true] at hk
        exact ⟨h1 k (s1 j k hk).1, hne k (s1 j k hk).2.1 (s1 j k hk).2.2⟩
      · simp only [hj, if_false] at hk
        exact ⟨h2 _ k hk.1, hne k (fun he => hGF _ k hk.1 (hF0 k he)) hk.2⟩
    · intro i j k hij hi hj
      by_cases hi' : i < xs.length <;> by_cases hj' : j < xs.length <;> simp only [hi', hj', if_true, if_false] at hi hj
      · exact s2 i j k hij hi hj
      · exact hGF _ k hj.1 (s1 i k hi).1
      · exact hGF _ k hi.1 (s1 j k hj).1
      · exact hGd _ _ k (by omega) hi.1 hj.1
    · intro j hj
      rw [List.length_append] at hj
      have hcl : cells.length = xs.length * d.sz := hown.1
      by_cases hj' : j < xs.length
      · simp only [hj', if_true, List.getElem_append_left hj']
        refine ⟨d.omove (fun k hk => hgrow.block k (s1 j k hk).2.2 (fun he => (s1 j k hk).2.1 he.symm)) (s3 j hj').1, fun i u hu => ?_⟩
        have := (s3 j hj').2 i u hu
        rw [List.getElem?_append_left (List.getElem?_eq_some_iff.1 this).1]; exact this
      · have hjy : j - xs.length < ys.length := by omega
        simp only [hj', if_false, List.getElem_append_right (Nat.le_of_not_lt hj')]
        refine ⟨d.omove (fun k hk => hgrow.block k hk.2 (fun he => hGF _ k hk.1 (hF0 k he.symm))) (d.obound (hG _ hjy).1), fun i u hu => ?_⟩
        have hil : i < d.sz := by have := (List.getElem?_eq_some_iff.1 hu).1; have := hcz _ hjy; omega
        have hge : xs.length * d.sz ≤ j * d.sz + i := Nat.le_trans (Nat.mul_le_mul_right _ (Nat.le_of_not_lt hj')) (Nat.le_add_right _ _)
        rw [List.getElem?_append_right (by omega), hcl]
        have hm : j * d.sz + i - xs.length * d.sz = (j - xs.length) * d.sz + i := by
          rw [Nat.sub_mul]; have := Nat.mul_le_mul_right d.sz (Nat.le_of_not_lt hj'); omega
        rw [hm]
        have hlt : (j - xs.length) * d.sz + i < ys.length * d.sz := by
          have : (j - xs.length + 1) * d.sz ≤ ys.length * d.sz := Nat.mul_le_mul_right _ hjy
          rw [Nat.add_mul, Nat.one_mul] at this; omega
        simp only [news, List.getElem?_map, List.getElem?_range hlt, Option.map_some, Option.some.injEq]
        have hdv : ((j - xs.length) * d.sz + i) / d.sz = j - xs.length := by rw [Nat.add_comm, Nat.add_mul_div_right _ _ hpos, Nat.div_eq_of_lt hil, Nat.zero_add]
        have hmd : ((j - xs.length) * d.sz + i) % d.sz = i := by rw [Nat.add_comm, Nat.add_mul_mod_self_right, Nat.mod_eq_of_lt hil]
        rw [hdv, hmd, List.getD_eq_getElem?_getD, hu]
        rfl
end
end Go.Proofs.Yticnbpefeoaamaa
