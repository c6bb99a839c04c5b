/- How the arguments' data are read as kinds. -/
import Derived.Test.YticnbpefeoaamaaTrB
import Derived.Test.YticnbpefeoaamaaProg
import Derived.ProofKit
import Derived.OpenShut
import Derived.JoinedCond
namespace Go.Proofs.Yticnbpefeoaamaa
open Go.RowKit
set_option linter.unusedSimpArgs false
set_option linter.unusedVariables false

theorem addr_add_add (a : Addr) (i j : Nat) : (a.add i).add j = a.add (i + j) := by
  unfold Addr.add
  split <;> split <;> (try split) <;> simp_all <;> omega
theorem list_of {α : Type} {p : Nat → α → Prop} : ∀ (n : Nat), (∀ i, i < n → ∃ y, p i y) → ∃ l : List α, l.length = n ∧ ∀ i (h : i < l.length), p i l[i]
  | 0, _ => ⟨[], rfl, fun i h => absurd h (Nat.not_lt_zero i)⟩
  | n + 1, h => by
    obtain ⟨l, hl, hp⟩ := list_of n (fun i hi => h i (by omega))
    obtain ⟨y, hy⟩ := h n (by omega)
    refine ⟨l ++ [y], by simp [hl], fun i hi => ?_⟩
    by_cases e : i < l.length
    · rw [List.getElem_append_left e]; exact hp i e
    · simp only [List.length_append, List.length_singleton] at hi
      obtain rfl : i = n := by omega
      rw [List.getElem_append_right (by omega)]
      simpa using hy

section
variable {H : Type} {enc : TypeId × Value → H} {w : World} {base : Nat} {spare : Nat → Bool} {held : Bool} {α : Type}

theorem reads_slice {T e : TypeId} {d : Ty α} (hT : Try.prog.underlying T = some (.slice e)) (hc : Try.prog.cellsOf e = d.sz) {fuel : Nat} {cs : List Value} {x : DataW H × List MemPlace}
    (hr : ∀ m cs x, m < fuel → DataW.trod enc Try.prog w base spare held m e cs = some x → ∃ y, d.K w (fun _ => True) y cs)
    (h : DataW.trod enc Try.prog w base spare held fuel T cs = some x) :
    ∃ (xs : List α) (A : Option Addr) (c : Nat), cs = [.slice A xs.length c] ∧ xs.length ≤ c ∧ c ≤ maxLen ∧ d.Row w (fun _ => True) A xs ∧ (xs = [] ∨ ∃ el rest, x.1 = .slice el rest ∧ el.length = xs.length) := by
  rcases DataW.trod_slice hT h with ⟨rfl, rfl⟩ | ⟨a, len, cap, elems, rest, n, rfl, rfl, rfl, hb, hl, hm, hel, hi, _⟩
  · exact ⟨[], none, 0, rfl, Nat.le_refl _, Nat.zero_le _, Ty.Row_nil _ _ _ _, .inl rfl⟩
  · have hz : ∀ i, i < len → ∃ z : α × List Value, w.cells? base (a.add (i * d.sz)) d.sz = some z.2 ∧ d.K w (fun _ => True) z.1 z.2 := by
      intro i hlt
      have h1 := hi i hlt
      rw [hc, List.getElem?_eq_getElem (by omega)] at h1
      cases hcz : w.cells? base (a.add (i * d.sz)) d.sz with
      | none => rw [hcz] at h1; cases h1
      | some cz =>
        rw [hcz] at h1
        obtain ⟨y, hy⟩ := hr n cz _ (Nat.lt_succ_self n) h1
        exact ⟨(y, cz), rfl, hy⟩
    obtain ⟨l, hll, hp⟩ := list_of len hz
    refine ⟨l.map (·.1), some a, cap, by rw [List.length_map, hll], by rw [List.length_map, hll]; exact hl, hm, ?_, .inr ⟨_, _, rfl, by simp [hel, hll]⟩⟩
    refine ⟨fun j => if h : j < l.length then l[j].2 else [], fun _ => ⟨a, rfl, trivial, fun j hj i u hu hi' => ?_⟩, fun j hj => ?_⟩
    · rw [List.length_map] at hj
      simp only [hj, dif_pos] at hu
      obtain ⟨_, _, h2⟩ := World.cells?_some (hp j hj).1
      have := h2 i hi'
      rw [addr_add_add] at this
      rw [this]; exact hu
    · rw [List.length_map] at hj
      simp only [hj, dif_pos, List.getElem_map]
      exact (hp j hj).2

theorem piece (cs : List Value) (a b : Nat) (h : cs.length = a + b) : cs = (cs.drop 0).take a ++ (cs.drop a).take b := by
  have e : (cs.drop a).take b = cs.drop a := List.take_of_length_le (by rw [List.length_drop]; omega)
  rw [e, List.drop_zero]
  exact (List.take_append_drop a cs).symm
theorem piece3 (cs : List Value) (a b c : Nat) (h : cs.length = a + b + c) : cs = (cs.drop 0).take a ++ ((cs.drop a).take b ++ (cs.drop (a + b)).take c) := by
  have h2 := piece (cs.drop a) b c (by rw [List.length_drop]; omega)
  rw [List.drop_zero, List.drop_drop] at h2
  rw [← h2, List.drop_zero]
  exact (List.take_append_drop a cs).symm

theorem someOf {β : Type} {o : Option β} {l : List β} {i : Nat} (h : o = l[i]?) (hi : i < l.length) : ∃ y, o = some y := ⟨l[i], by rw [h, List.getElem?_eq_getElem hi]⟩

theorem cells44 : Try.prog.cellsOf 44 = 3 := by kernel_rfl
theorem cells46 : Try.prog.cellsOf 46 = 4 := by kernel_rfl
theorem cells30 : Try.prog.cellsOf 30 = 6 := by kernel_rfl
theorem cells32 : Try.prog.cellsOf 32 = 8 := by kernel_rfl
theorem cells3 : Try.prog.cellsOf 3 = 1 := by kernel_rfl
theorem cells9 : Try.prog.cellsOf 9 = 1 := by kernel_rfl
theorem cells27 : Try.prog.cellsOf 27 = 1 := by kernel_rfl
theorem cells28 : Try.prog.cellsOf 28 = 1 := by kernel_rfl
theorem cells22 : Try.prog.cellsOf 22 = 1 := by kernel_rfl

theorem reads_int {fuel : Nat} {cs : List Value} {x : DataW H × List MemPlace} (h : DataW.trod enc Try.prog w base spare held fuel 3 cs = some x) : ∃ y, Ty.i64.K w (fun _ => True) y cs := by
  obtain ⟨n, rfl, _, _⟩ := DataW.trod_int Try.underlying3 h
  exact ⟨n, rfl⟩
theorem reads_str {fuel : Nat} {cs : List Value} {x : DataW H × List MemPlace} (h : DataW.trod enc Try.prog w base spare held fuel 9 cs = some x) : ∃ y, Ty.str.K w (fun _ => True) y cs := by
  obtain ⟨n, rfl, _, _⟩ := DataW.trod_string Try.underlying9 h
  exact ⟨n, rfl⟩
theorem reads_ints {fuel : Nat} {cs : List Value} {x : DataW H × List MemPlace} (h : DataW.trod enc Try.prog w base spare held fuel 27 cs = some x) : ∃ y, Ty.ints.K w (fun _ => True) y cs := by
  obtain ⟨xs, A, c, e, h1, h2, h3, _⟩ := reads_slice (d := Ty.i64) Try.underlying27 cells3 (fun m cs x _ hm => reads_int hm) h
  exact ⟨xs, A, c, e, h1, h2, h3⟩
theorem reads_words {fuel : Nat} {cs : List Value} {x : DataW H × List MemPlace} (h : DataW.trod enc Try.prog w base spare held fuel 28 cs = some x) : ∃ y, Ty.words.K w (fun _ => True) y cs := by
  obtain ⟨xs, A, c, e, h1, h2, h3, _⟩ := reads_slice (d := Ty.str) Try.underlying28 cells9 (fun m cs x _ hm => reads_str hm) h
  exact ⟨xs, A, c, e, h1, h2, h3⟩
theorem reads_val {fuel : Nat} {cs : List Value} {x : DataW H × List MemPlace} (h : DataW.trod enc Try.prog w base spare held fuel 44 cs = some x) : ∃ y, Ty.val.K w (fun _ => True) y cs := by
  obtain ⟨xs, n, _, _, hl, hlen, hf⟩ := DataW.trod_struct Try.underlying44 h
  replace hlen : xs.length = 3 := hlen
  rw [cells44] at hl
  obtain ⟨y0, h0⟩ := someOf (hf 0 _ rfl) (by omega)
  obtain ⟨y1, h1⟩ := someOf (hf 1 _ rfl) (by omega)
  obtain ⟨y2, h2⟩ := someOf (hf 2 _ rfl) (by omega)
  simp only [List.getElem_toArray, List.getElem_cons_zero, List.getElem_cons_succ] at h0 h1 h2
  simp only [cells3, cells9] at h0 h1 h2
  obtain ⟨a0, k0⟩ := reads_int h0
  obtain ⟨a1, k1⟩ := reads_int h1
  obtain ⟨a2, k2⟩ := reads_str h2
  exact ⟨⟨a0, a1, a2⟩, _, _, piece3 cs 1 1 1 hl, k0, _, _, rfl, k1, k2⟩
theorem reads_pair {fuel : Nat} {cs : List Value} {x : DataW H × List MemPlace} (h : DataW.trod enc Try.prog w base spare held fuel 46 cs = some x) : ∃ y, Ty.pr.K w (fun _ => True) y cs := by
  obtain ⟨xs, n, _, _, hl, hlen, hf⟩ := DataW.trod_struct Try.underlying46 h
  replace hlen : xs.length = 2 := hlen
  rw [cells46] at hl
  obtain ⟨y0, h0⟩ := someOf (hf 0 _ rfl) (by omega)
  obtain ⟨y1, h1⟩ := someOf (hf 1 _ rfl) (by omega)
  simp only [List.getElem_toArray, List.getElem_cons_zero, List.getElem_cons_succ] at h0 h1
  simp only [cells9, cells44] at h0 h1
  obtain ⟨a0, k0⟩ := reads_str h0
  obtain ⟨a1, k1⟩ := reads_val h1
  exact ⟨⟨a0, a1⟩, _, _, piece cs 1 3 hl, k0, k1⟩
theorem pred6 {cs : List Value} (hl : cs.length = 6) {F : Fp} {a0 : Int} {a1 : ByteArray} {a2 : List Int} {a3 : List ByteArray} {a4 a5 : Int}
    (k0 : Ty.i64.K w F a0 ((cs.drop 0).take 1)) (k1 : Ty.str.K w F a1 ((cs.drop 1).take 1)) (k2 : Ty.ints.K w F a2 ((cs.drop 2).take 1)) (k3 : Ty.words.K w F a3 ((cs.drop 3).take 1)) (k4 : Ty.i64.K w F a4 ((cs.drop 4).take 1)) (k5 : Ty.i64.K w F a5 ((cs.drop 5).take 1)) :
    Ty.pred.K w F ⟨a0, a1, a2, a3, a4, a5⟩ cs := by
  match cs, hl with
  | [u0, u1, u2, u3, u4, u5], _ => exact ⟨[u0], _, rfl, k0, [u1], _, rfl, k1, [u2], _, rfl, k2, [u3], _, rfl, k3, [u4], [u5], rfl, k4, k5⟩
theorem reads_pred {fuel : Nat} {cs : List Value} {x : DataW H × List MemPlace} (h : DataW.trod enc Try.prog w base spare held fuel 30 cs = some x) : ∃ y, Ty.pred.K w (fun _ => True) y cs := by
  obtain ⟨xs, n, _, _, hl, hlen, hf⟩ := DataW.trod_struct Try.underlying30 h
  replace hlen : xs.length = 6 := hlen
  rw [cells30] at hl
  obtain ⟨y0, h0⟩ := someOf (hf 0 _ rfl) (by omega)
  obtain ⟨y1, h1⟩ := someOf (hf 1 _ rfl) (by omega)
  obtain ⟨y2, h2⟩ := someOf (hf 2 _ rfl) (by omega)
  obtain ⟨y3, h3⟩ := someOf (hf 3 _ rfl) (by omega)
  obtain ⟨y4, h4⟩ := someOf (hf 4 _ rfl) (by omega)
  obtain ⟨y5, h5⟩ := someOf (hf 5 _ rfl) (by omega)
  simp only [List.getElem_toArray, List.getElem_cons_zero, List.getElem_cons_succ] at h0 h1 h2 h3 h4 h5
  simp only [cells3, cells9, cells27, cells28] at h0 h1 h2 h3 h4 h5
  obtain ⟨a0, k0⟩ := reads_int h0
  obtain ⟨a1, k1⟩ := reads_str h1
  obtain ⟨a2, k2⟩ := reads_ints h2
  obtain ⟨a3, k3⟩ := reads_words h3
  obtain ⟨a4, k4⟩ := reads_int h4
  obtain ⟨a5, k5⟩ := reads_int h5
  exact ⟨⟨a0, a1, a2, a3, a4, a5⟩, pred6 hl k0 k1 k2 k3 k4 k5⟩
theorem reads_node : ∀ (fuel : Nat) (cs : List Value) (x : DataW H × List MemPlace), DataW.trod enc Try.prog w base spare held fuel 32 cs = some x → ∃ y, Ty.node.K w (fun _ => True) y cs := by
  intro fuel
  induction fuel using Nat.strongRecOn with
  | ind fuel ih =>
    intro cs x h
    obtain ⟨xs, n, hn, _, hl, hlen, hf⟩ := DataW.trod_struct Try.underlying32 h
    replace hlen : xs.length = 3 := hlen
    rw [cells32] at hl
    obtain ⟨y0, h0⟩ := someOf (hf 0 _ rfl) (by omega)
    obtain ⟨y1, h1⟩ := someOf (hf 1 _ rfl) (by omega)
    obtain ⟨y2, h2⟩ := someOf (hf 2 _ rfl) (by omega)
    simp only [List.getElem_toArray, List.getElem_cons_zero, List.getElem_cons_succ] at h0 h1 h2
    simp only [cells3, cells30, cells22] at h0 h1 h2
    obtain ⟨a0, k0⟩ := reads_pred h0
    obtain ⟨a1, k1⟩ := reads_int h1
    obtain ⟨xs', A, c, e, g1, g2, ⟨css, g3, g4⟩, _⟩ := reads_slice (d := Ty.node) Try.underlying22 cells32 (fun m cs x hm hx => ih m (by omega) cs x hx) h2
    refine ⟨.mk a0 a1 xs', ?_⟩
    have hcs := piece3 cs 6 1 1 hl
    rw [e, (k1 : _ = [_])] at hcs
    rw [hcs]
    exact NodeK.mk css k0 g1 g2 g3 g4
end
end Go.Proofs.Yticnbpefeoaamaa
