/- The kinds of api.Value, Pair, Pred and Node; an element of a row of them, cell by cell. -/
import Derived.Test.YticnbpefeoaamaaTrA
namespace Go.Proofs.Yticnbpefeoaamaa
open Go.RowKit
set_option linter.unusedSimpArgs false
set_option linter.unusedVariables false

structure ValD where
  kind : Int
  int : Int
  word : ByteArray
structure PairD where
  name : ByteArray
  val : ValD
structure PredD where
  kind : Int
  attr : ByteArray
  ints : List Int
  words : List ByteArray
  lo : Int
  hi : Int
inductive NodeD where
  | mk (p : PredD) (op : Int) (kids : List NodeD)
def NodeD.p : NodeD → PredD | .mk p _ _ => p
def NodeD.op : NodeD → Int | .mk _ op _ => op
def NodeD.kids : NodeD → List NodeD | .mk _ _ k => k
def ValD.zero : ValD := ⟨0, 0, ⟨#[]⟩⟩
def PairD.zero : PairD := ⟨⟨#[]⟩, ValD.zero⟩
def PredD.zero : PredD := ⟨0, ⟨#[]⟩, [], [], 0, 0⟩
def NodeD.zero : NodeD := .mk PredD.zero 0 []

theorem add_field (ad : Addr) (m j : Nat) (hj : 0 < j) : ad.add (m + j) = ⟨(ad.add m).block, (ad.add m).off + j, none⟩ := by
  unfold Addr.add
  rw [if_neg (by omega)]
  split
  · rename_i h; simp [h]
  · simp [Nat.add_assoc]
theorem add_block (ad : Addr) (m : Nat) : (ad.add m).block = ad.block := by unfold Addr.add; split <;> rfl

namespace Ty
abbrev i64 : Ty Int := int .i64
def val : Ty ValD := iso (pair i64 (pair i64 str)) (fun v => (v.kind, v.int, v.word))
def pr : Ty PairD := iso (pair str val) (fun p => (p.name, p.val))
def ints : Ty (List Int) := slice 3 i64
def words : Ty (List ByteArray) := slice 9 str
def pred : Ty PredD := iso (pair i64 (pair str (pair ints (pair words (pair i64 i64))))) (fun p => (p.kind, p.attr, p.ints, p.words, p.lo, p.hi))
def pairs : Ty (List PairD) := slice 46 pr

theorem val_open {w F v cs} (h : val.K w F v cs) : cs = [.int .i64 v.kind, .int .i64 v.int, .string v.word] := by
  obtain ⟨c1, c2, rfl, h1, c3, c4, rfl, h2, h3⟩ := h
  cases h1; cases h2; cases h3; rfl
theorem pr_open {w F p cs} (h : pr.K w F p cs) : cs = [.string p.name, .int .i64 p.val.kind, .int .i64 p.val.int, .string p.val.word] := by
  obtain ⟨c1, c2, rfl, h1, h2⟩ := h
  obtain rfl := val_open h2
  cases h1; rfl
theorem pr_mk (w F) (p : PairD) : pr.K w F p [.string p.name, .int .i64 p.val.kind, .int .i64 p.val.int, .string p.val.word] :=
  ⟨[_], _, rfl, rfl, [_], _, rfl, rfl, [_], [_], rfl, rfl, rfl⟩
theorem val_mk (w F) (v : ValD) : val.K w F v [.int .i64 v.kind, .int .i64 v.int, .string v.word] := ⟨[_], _, rfl, rfl, [_], [_], rfl, rfl, rfl⟩
/-- A predicate's cells. -/
theorem pred_open {w F p cs} (h : pred.K w F p cs) : ∃ A1 c1 A2 c2, cs = [.int .i64 p.kind, .string p.attr, .slice A1 p.ints.length c1, .slice A2 p.words.length c2, .int .i64 p.lo, .int .i64 p.hi] ∧
    ints.K w F p.ints [.slice A1 p.ints.length c1] ∧ words.K w F p.words [.slice A2 p.words.length c2] := by
  obtain ⟨e1, e2, rfl, h1, e3, e4, rfl, h2, e5, e6, rfl, h3, e7, e8, rfl, h4, e9, e10, rfl, h5, h6⟩ := h
  cases h1; cases h2; cases h5; cases h6
  obtain ⟨A1, c1, rfl, h3'⟩ := h3
  obtain ⟨A2, c2, rfl, h4'⟩ := h4
  exact ⟨A1, c1, A2, c2, rfl, ⟨A1, c1, rfl, h3'⟩, ⟨A2, c2, rfl, h4'⟩⟩
theorem pred_mk {w F} {p : PredD} {v1 v2 : Value} (h1 : ints.K w F p.ints [v1]) (h2 : words.K w F p.words [v2]) :
    pred.K w F p [.int .i64 p.kind, .string p.attr, v1, v2, .int .i64 p.lo, .int .i64 p.hi] :=
  ⟨[_], _, rfl, rfl, [_], _, rfl, rfl, [_], _, rfl, h1, [_], _, rfl, h2, [_], [_], rfl, rfl, rfl⟩
theorem predO_open {w F p cs} (h : pred.O w F p cs) : ∃ v1 v2 F1 F2, cs = [.int .i64 p.kind, .string p.attr, v1, v2, .int .i64 p.lo, .int .i64 p.hi] ∧
    i64.Own 3 w F1 v1 p.ints ∧ str.Own 9 w F2 v2 p.words ∧ (∀ k, F1 k → F k) ∧ (∀ k, F2 k → F k) ∧ ∀ k, F1 k → F2 k → False := by
  obtain ⟨e1, e2, G1, G1', rfl, h1, ⟨e3, e4, G2, G2', rfl, h2, ⟨e5, e6, G3, G3', rfl, h3, ⟨e7, e8, G4, G4', rfl, h4, ⟨e9, e10, G5, G5', rfl, h5, h6, _⟩, s4, s4', s4''⟩, s3, s3', s3''⟩, s2, s2', s2''⟩, s1, s1', s1''⟩ := h
  cases h1; cases h2; cases h5; cases h6
  obtain ⟨v1, rfl, h3⟩ := h3
  obtain ⟨v2, rfl, h4⟩ := h4
  exact ⟨v1, v2, G3, G4, rfl, h3, h4, fun k hk => s1' k (s2' k (s3 k hk)), fun k hk => s1' k (s2' k (s3' k (s4 k hk))), fun k h h' => s3'' k h (s4 k h')⟩
theorem predO_mk {w F F1 F2} {p : PredD} {v1 v2 : Value} (h1 : i64.Own 3 w F1 v1 p.ints) (h2 : str.Own 9 w F2 v2 p.words) (s1 : ∀ k, F1 k → F k) (s2 : ∀ k, F2 k → F k) (s3 : ∀ k, F1 k → F2 k → False) :
    pred.O w F p [.int .i64 p.kind, .string p.attr, v1, v2, .int .i64 p.lo, .int .i64 p.hi] :=
  ⟨[_], _, fun _ => False, F, rfl, rfl, ⟨[_], _, fun _ => False, F, rfl, rfl, ⟨[_], _, F1, F2, rfl, ⟨v1, rfl, h1⟩, ⟨[_], _, F2, fun _ => False, rfl, ⟨v2, rfl, h2⟩, ⟨[_], [_], fun _ => False, fun _ => False, rfl, rfl, rfl, nofun, nofun, nofun⟩, fun _ h => h, nofun, nofun⟩, s1, s2, s3⟩, nofun, fun _ h => h, nofun⟩, nofun, fun _ h => h, nofun⟩
end Ty

/-- A node's cells: what they lead to lies in F. -/
inductive NodeK (w : World) (F : Fp) : NodeD → List Value → Prop where
  | mk {p op kids c1 A c} (css : Nat → List Value) (hp : Ty.pred.K w F p c1) (hc : kids.length ≤ c) (hm : c ≤ maxLen) (ha : Ty.cellsAt w A F 8 kids.length css)
      (hk : ∀ j (h : j < kids.length), NodeK w F kids[j] (css j)) : NodeK w F (.mk p op kids) (c1 ++ [.int .i64 op, .slice A kids.length c])

/-- .. of the call's own, no two of its lists sharing memory. -/
inductive NodeO (w : World) : Fp → NodeD → List Value → Prop where
  | leaf {F F1 p op c1} (hp : Ty.pred.O w F1 p c1) (h1 : ∀ k, F1 k → F k) : NodeO w F (.mk p op []) (c1 ++ [.int .i64 op, .slice none 0 0])
  | mk {F F1 p op kids c1 g cap cur} (Fs : Nat → Fp) (css : Nat → List Value) (hp : Ty.pred.O w F1 p c1) (h1 : ∀ k, F1 k → F k) (h2 : ¬ F1 g) (h3 : ∀ j k, Fs j k → ¬ F1 k)
      (hg : F g) (hb : w.heap[g]? = some (.cells cur 32 (0, 0))) (hc : kids.length ≤ cap) (hm : cap ≤ maxLen) (hs : cur.size = cap * 8)
      (s1 : ∀ j k, Fs j k → F k ∧ k ≠ g) (s2 : ∀ i j k, i ≠ j → Fs i k → Fs j k → False)
      (hk : ∀ j (h : j < kids.length), NodeO w (Fs j) kids[j] (css j)) (hcs : ∀ j, j < kids.length → ∀ i u, (css j)[i]? = some u → cur[j * 8 + i]? = some u) :
      NodeO w F (.mk p op kids) (c1 ++ [.int .i64 op, .slice (some ⟨g, 0, none⟩) kids.length cap])

theorem pred_len {w F p c1} (h : Ty.pred.K w F p c1) : c1.length = 6 := Ty.pred.len h
theorem NodeK.len {w F x cs} (h : NodeK w F x cs) : cs.length = 8 := by
  cases h with | mk css hp hc hm ha hk => rw [List.length_append, pred_len hp]; rfl
theorem NodeK.one {w F x cs} (h : NodeK w F x cs) : ∀ u ∈ cs, u.oneCell' = true := by
  cases h with
  | mk css hp hc hm ha hk =>
    intro u hu
    rcases List.mem_append.1 hu with h | h
    · exact Ty.pred.one hp u h
    · simp only [List.mem_cons, List.not_mem_nil, or_false] at h
      rcases h with rfl | rfl <;> rfl
theorem NodeK.mono {w F F' x cs} (hm : ∀ k, F k → F' k) (h : NodeK w F x cs) : NodeK w F' x cs := by
  induction h with
  | mk css hp hc hm' ha hk ih => exact .mk css (Ty.pred.kmono hm hp) hc hm' (Ty.cellsAt_mono hm ha) ih
theorem NodeK.move {w w' : World} {F x cs} (hm : ∀ k, F k → w'.heap[k]? = w.heap[k]?) (h : NodeK w F x cs) : NodeK w' F x cs := by
  induction h with
  | mk css hp hc hm' ha hk ih => exact .mk css (Ty.pred.kmove hm hp) hc hm' (Ty.cellsAt_move hm ha) ih
theorem NodeK.bound {w F x cs} (h : NodeK w F x cs) : NodeK w (fun k => F k ∧ k < w.heap.size) x cs := by
  induction h with
  | mk css hp hc hm' ha hk ih => exact .mk css (Ty.pred.kbound hp) hc hm' (Ty.cellsAt_bound (by decide) (fun j hj => (hk j hj).len) ha) ih
theorem NodeO.mono {w F F' x cs} (hm : ∀ k, F k → F' k) (h : NodeO w F x cs) : NodeO w F' x cs := by
  cases h with
  | leaf hp h1 => exact .leaf hp (fun k hk => hm k (h1 k hk))
  | mk Fs css hp h1 h2 h3 hg hb hc hm' hs s1 s2 hk hcs => exact .mk Fs css hp (fun k hk => hm k (h1 k hk)) h2 h3 (hm _ hg) hb hc hm' hs (fun j k hk => ⟨hm k (s1 j k hk).1, (s1 j k hk).2⟩) s2 hk hcs
theorem NodeO.move {w w' : World} {F x cs} (h : NodeO w F x cs) : (∀ k, F k → w'.heap[k]? = w.heap[k]?) → NodeO w' F x cs := by
  induction h with
  | leaf hp h1 => exact fun hm => .leaf (Ty.pred.omove (fun k hk => hm k (h1 k hk)) hp) h1
  | mk Fs css hp h1 h2 h3 hg hb hc hm' hs s1 s2 hk hcs ih =>
    exact fun hm => .mk Fs css (Ty.pred.omove (fun k hk => hm k (h1 k hk)) hp) h1 h2 h3 hg ((hm _ hg).trans hb) hc hm' hs s1 s2 (fun j hj => ih j hj (fun k hk' => hm k (s1 j k hk').1)) hcs
theorem NodeO.bound {w F x cs} (h : NodeO w F x cs) : NodeO w (fun k => F k ∧ k < w.heap.size) x cs := by
  induction h with
  | leaf hp h1 => exact .leaf (Ty.pred.obound hp) (fun k hk => ⟨h1 k hk.1, hk.2⟩)
  | @mk F F1 p op kids c1 g cap cur Fs css hp h1 h2 h3 hg hb hc hm' hs s1 s2 hk hcs ih =>
    exact .mk (fun j k => Fs j k ∧ k < w.heap.size) css (Ty.pred.obound hp) (fun k hk => ⟨h1 k hk.1, hk.2⟩) (fun h => h2 h.1) (fun j k hk h => h3 j k hk.1 h.1) ⟨hg, (Array.getElem?_eq_some_iff.1 hb).1⟩ hb hc hm' hs
      (fun j k hk => ⟨⟨(s1 j k hk.1).1, hk.2⟩, (s1 j k hk.1).2⟩) (fun i j k hij a b => s2 i j k hij a.1 b.1) (fun j hj => ih j hj) hcs
theorem NodeO.ok {w F x cs} (h : NodeO w F x cs) : NodeK w F x cs := by
  induction h with
  | leaf hp h1 => exact .mk (kids := []) (c := 0) (fun _ => []) (Ty.pred.kmono h1 (Ty.pred.ok hp)) (Nat.le_refl _) (Nat.zero_le _) (fun h => absurd h (Nat.lt_irrefl 0)) (fun j h => absurd h (Nat.not_lt_zero j))
  | @mk F F1 p op kids c1 g cap cur Fs css hp h1 h2 h3 hg hb hc hm' hs s1 s2 hk hcs ih =>
    refine .mk css (Ty.pred.kmono h1 (Ty.pred.ok hp)) hc hm' (fun _ => ⟨_, rfl, hg, fun j hj i u hu _ => ?_⟩) (fun j hj => (ih j hj).mono (fun k hk => (s1 j k hk).1))
    have : (⟨g, 0, none⟩ : Addr).add (j * 8 + i) = ⟨g, j * 8 + i, none⟩ := by unfold Addr.add; split <;> simp_all
    rw [this, cell_of_row w g _ cur _ (0, 0) hb]; exact hcs j hj i u hu

namespace Ty
def node : Ty NodeD where
  sz := 8
  pos := by decide
  K := NodeK
  O := NodeO
  len := NodeK.len
  one := NodeK.one
  kmono := NodeK.mono
  kmove := NodeK.move
  kbound := NodeK.bound
  omono := NodeO.mono
  omove := fun hm h => h.move hm
  obound := NodeO.bound
  ok := NodeO.ok
def nodes : Ty (List NodeD) := slice 32 node

/-- A node's cells. -/
theorem node_open {w F n cs} (h : node.K w F n cs) : ∃ A1 c1 A2 c2 A3 c3, cs = [.int .i64 n.p.kind, .string n.p.attr, .slice A1 n.p.ints.length c1, .slice A2 n.p.words.length c2, .int .i64 n.p.lo, .int .i64 n.p.hi, .int .i64 n.op, .slice A3 n.kids.length c3] ∧
    ints.K w F n.p.ints [.slice A1 n.p.ints.length c1] ∧ words.K w F n.p.words [.slice A2 n.p.words.length c2] ∧ nodes.K w F n.kids [.slice A3 n.kids.length c3] := by
  obtain ⟨css, hp, hc, hm, ha, hk⟩ := (h : NodeK w F n cs)
  obtain ⟨A1, c1, A2, c2, rfl, h1, h2⟩ := pred_open hp
  exact ⟨A1, c1, A2, c2, _, _, rfl, h1, h2, _, _, rfl, hc, hm, css, ha, hk⟩
theorem node_mk {w F} {n : NodeD} {v1 v2 v3 : Value} (h1 : ints.K w F n.p.ints [v1]) (h2 : words.K w F n.p.words [v2]) (h3 : nodes.K w F n.kids [v3]) :
    node.K w F n [.int .i64 n.p.kind, .string n.p.attr, v1, v2, .int .i64 n.p.lo, .int .i64 n.p.hi, .int .i64 n.op, v3] := by
  obtain ⟨p, op, kids⟩ := n
  obtain ⟨A3, c3, e, hc, hm, css, ha, hk⟩ := h3
  cases e
  exact NodeK.mk css (pred_mk h1 h2) hc hm ha hk

/-- Element j of a row of pairs. -/
theorem pr_at {w F A xs} (h : pr.Row w F A xs) (j : Nat) (hj : j < xs.length) : ∃ ad, A = some ad ∧
    w.cell? (ad.add (j * 4)) = some (.string xs[j].name) ∧ w.cell? ⟨(ad.add (j * 4)).block, (ad.add (j * 4)).off + 1, none⟩ = some (.int .i64 xs[j].val.kind) ∧
    w.cell? ⟨(ad.add (j * 4)).block, (ad.add (j * 4)).off + 2, none⟩ = some (.int .i64 xs[j].val.int) ∧ w.cell? ⟨(ad.add (j * 4)).block, (ad.add (j * 4)).off + 3, none⟩ = some (.string xs[j].val.word) := by
  obtain ⟨ad, cs, e, hk, hc⟩ := Row_at h j hj
  obtain rfl := pr_open hk
  exact ⟨ad, e, hc 0 _ rfl, by rw [← add_field _ _ 1 (by omega)]; exact hc 1 _ rfl, by rw [← add_field _ _ 2 (by omega)]; exact hc 2 _ rfl, by rw [← add_field _ _ 3 (by omega)]; exact hc 3 _ rfl⟩
theorem int_at {w F A xs} (h : i64.Row w F A xs) (j : Nat) (hj : j < xs.length) : ∃ ad, A = some ad ∧ w.cell? (ad.add j) = some (.int .i64 xs[j]) := by
  obtain ⟨ad, cs, e, hk, hc⟩ := Row_at h j hj
  cases (hk : cs = [_])
  refine ⟨ad, e, ?_⟩
  have := hc 0 _ rfl
  rwa [show j * i64.sz + 0 = j by simp [i64, int, scalar]] at this
theorem str_at {w F A xs} (h : str.Row w F A xs) (j : Nat) (hj : j < xs.length) : ∃ ad, A = some ad ∧ w.cell? (ad.add j) = some (.string xs[j]) := by
  obtain ⟨ad, cs, e, hk, hc⟩ := Row_at h j hj
  cases (hk : cs = [_])
  refine ⟨ad, e, ?_⟩
  have := hc 0 _ rfl
  rwa [show j * str.sz + 0 = j by simp [str, scalar]] at this
/-- Element j of a row of nodes: the eight cells, the value that a load gives. -/
theorem node_at {w F A xs} (h : node.Row w F A xs) (j : Nat) (hj : j < xs.length) : ∃ ad A1 c1 A2 c2 A3 c3, A = some ad ∧
    w.cell? (ad.add (j * 8)) = some (.int .i64 xs[j].p.kind) ∧ w.cell? ⟨(ad.add (j * 8)).block, (ad.add (j * 8)).off + 1, none⟩ = some (.string xs[j].p.attr) ∧
    w.cell? ⟨(ad.add (j * 8)).block, (ad.add (j * 8)).off + 2, none⟩ = some (.slice A1 xs[j].p.ints.length c1) ∧ w.cell? ⟨(ad.add (j * 8)).block, (ad.add (j * 8)).off + 3, none⟩ = some (.slice A2 xs[j].p.words.length c2) ∧
    w.cell? ⟨(ad.add (j * 8)).block, (ad.add (j * 8)).off + 4, none⟩ = some (.int .i64 xs[j].p.lo) ∧ w.cell? ⟨(ad.add (j * 8)).block, (ad.add (j * 8)).off + 5, none⟩ = some (.int .i64 xs[j].p.hi) ∧
    w.cell? ⟨(ad.add (j * 8)).block, (ad.add (j * 8)).off + 6, none⟩ = some (.int .i64 xs[j].op) ∧ w.cell? ⟨(ad.add (j * 8)).block, (ad.add (j * 8)).off + 7, none⟩ = some (.slice A3 xs[j].kids.length c3) ∧
    node.K w F xs[j] [.int .i64 xs[j].p.kind, .string xs[j].p.attr, .slice A1 xs[j].p.ints.length c1, .slice A2 xs[j].p.words.length c2, .int .i64 xs[j].p.lo, .int .i64 xs[j].p.hi, .int .i64 xs[j].op, .slice A3 xs[j].kids.length c3] := by
  obtain ⟨ad, cs, e, hk, hc⟩ := Row_at h j hj
  obtain ⟨A1, c1, A2, c2, A3, c3, rfl, h1, h2, h3⟩ := node_open hk
  exact ⟨ad, A1, c1, A2, c2, A3, c3, e, hc 0 _ rfl, by rw [← add_field _ _ 1 (by omega)]; exact hc 1 _ rfl, by rw [← add_field _ _ 2 (by omega)]; exact hc 2 _ rfl, by rw [← add_field _ _ 3 (by omega)]; exact hc 3 _ rfl,
    by rw [← add_field _ _ 4 (by omega)]; exact hc 4 _ rfl, by rw [← add_field _ _ 5 (by omega)]; exact hc 5 _ rfl, by rw [← add_field _ _ 6 (by omega)]; exact hc 6 _ rfl, by rw [← add_field _ _ 7 (by omega)]; exact hc 7 _ rfl, hk⟩
end Ty
end Go.Proofs.Yticnbpefeoaamaa
