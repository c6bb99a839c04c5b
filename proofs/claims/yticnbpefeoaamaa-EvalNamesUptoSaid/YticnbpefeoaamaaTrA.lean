/- How Go's data lie in memory: a kind ('Ty') says when cells of a world read as a Lean value (K: what they lead to lies in the blocks F), and when they are moreover new memory of the call's own, no two lists sharing any (O). -/
import Derived.WalkKit
import Derived.KernelRfl
import Derived.Lib.Hide
import Derived.Deep.LoopGhost
import Derived.Deep.QuietTactic
import Derived.BigQuiet
import Derived.Deep.AppendLies
import Derived.Laws.MakeOwn
import Derived.Laws.OwnMore
import Derived.Deep.OwnRows
namespace Go.Proofs.Yticnbpefeoaamaa
open Go.RowKit
set_option linter.unusedSimpArgs false
set_option linter.unusedVariables false

abbrev Fp := Nat → Prop

theorem quiet_same {P : Program} {f : FuncId} {args : Array Value} {w : World} {n : Nat} {v : Value} (h : Calls P f args (w.drewN n) fun e w' => e = .returned v ∧ w.drewN n = w') :
    Calls P f args (w.drewN n) fun e w'' => e = .returned v ∧ ∃ m, w'' = w.drewN m := Calls.quiet_of_same (h.mono fun _ _ ⟨a, b⟩ => ⟨a, b.symm⟩)

theorem bl_alloc {w W : World} (h : Below w.heap.size w W) (o : Obj) : Below w.heap.size w (W.alloc o) := h.alloc h.size o
theorem bl_set {w W : World} (h : Below w.heap.size w W) {p : Addr} (hp : w.heap.size ≤ p.block) (u : Value) : Below w.heap.size w (W.setCell p u) := h.setCell hp u
theorem bl_drew {w W : World} (h : Below w.heap.size w W) : Below w.heap.size w W.drew := h.drew
theorem bl_drewN {w W : World} (h : Below w.heap.size w W) (n : Nat) : Below w.heap.size w (W.drewN n) := ⟨h.os, h.tape, h.output, h.size, h.block⟩
theorem bcell {W w1 : World} (hb : Below W.heap.size W w1) : (∀ b o, b < W.heap.size → w1.cell? ⟨b, o, none⟩ = W.cell? ⟨b, o, none⟩) ∧ (∀ b o, b < W.heap.size → w1.frozen? ⟨b, o, none⟩ = W.frozen? ⟨b, o, none⟩) :=
  ⟨fun b o h => hb.cell (p := ⟨b, o, none⟩) h, fun b o h => hb.frozen (p := ⟨b, o, none⟩) h⟩
theorem bl_trans {w W W' : World} (h : Below w.heap.size w W) (h' : Below W.heap.size W W') : Below w.heap.size w W' := h.trans (h'.mono h.size)
theorem blk_facts {w : World} {g : Nat} {cs : Array Value} {t : TypeId} (h : w.heap[g]? = some (.cells cs t (0, 0))) : g < w.heap.size ∧ (∀ o, w.frozen? ⟨g, o, none⟩ = false) ∧ (∀ o, w.cell? ⟨g, o, none⟩ = cs[o]?) :=
  ⟨(Array.getElem?_eq_some_iff.1 h).1, fun o => by simp [World.frozen?, h], fun o => cell_of_row w g o cs t (0, 0) h⟩
theorem blk_below {w w' : World} {g : Nat} {o : Obj} (hb : Below w.heap.size w w') (h : w.heap[g]? = some o) : w'.heap[g]? = some o := (hb.block g (Array.getElem?_eq_some_iff.1 h).1).trans h
theorem blk_alloc {w : World} {g : Nat} {o : Obj} (h : w.heap[g]? = some o) (o' : Obj) : (w.alloc o').heap[g]? = some o := (Below.heap_alloc _ _ _ (Array.getElem?_eq_some_iff.1 h).1).trans h
theorem blk_set {w : World} {g : Nat} {cs : Array Value} {t : TypeId} (h : w.heap[g]? = some (.cells cs t (0, 0))) (o : Nat) (u : Value) : (w.setCell ⟨g, o, none⟩ u).heap[g]? = some (.cells (cs.setIfInBounds o u) t (0, 0)) := by
  simp [World.setCell, Array.getElem?_modify, h]
theorem blk_far {w : World} {g : Nat} {o : Obj} (h : w.heap[g]? = some o) {p : Addr} (hp : g ≠ p.block) (u : Value) : (w.setCell p u).heap[g]? = some o := (Below.heap_setCell _ _ _ _ hp).trans h

structure Ty (α : Type) where
  sz : Nat
  pos : 0 < sz
  K : World → Fp → α → List Value → Prop
  O : World → Fp → α → List Value → Prop
  len : ∀ {w F x cs}, K w F x cs → cs.length = sz
  one : ∀ {w F x cs}, K w F x cs → ∀ u ∈ cs, u.oneCell' = true
  kmono : ∀ {w F F' x cs}, (∀ k, F k → F' k) → K w F x cs → K w F' x cs
  kmove : ∀ {w w' : World} {F x cs}, (∀ k, F k → w'.heap[k]? = w.heap[k]?) → K w F x cs → K w' F x cs
  kbound : ∀ {w F x cs}, K w F x cs → K w (fun k => F k ∧ k < w.heap.size) x cs
  omono : ∀ {w F F' x cs}, (∀ k, F k → F' k) → O w F x cs → O w F' x cs
  omove : ∀ {w w' : World} {F x cs}, (∀ k, F k → w'.heap[k]? = w.heap[k]?) → O w F x cs → O w' F x cs
  obound : ∀ {w F x cs}, O w F x cs → O w (fun k => F k ∧ k < w.heap.size) x cs
  ok : ∀ {w F x cs}, O w F x cs → K w F x cs

namespace Ty
variable {α β : Type}

theorem kbelow (d : Ty α) {w w' : World} {F x cs} (hb : Below w.heap.size w w') (h : d.K w F x cs) : d.K w' F x cs :=
  d.kmono (fun _ hk => hk.1) (d.kmove (fun k hk => hb.block k hk.2) (d.kbound h))
theorem obelow (d : Ty α) {w w' : World} {F x cs} (hb : Below w.heap.size w w') (h : d.O w F x cs) : d.O w' F x cs :=
  d.omono (fun _ hk => hk.1) (d.omove (fun k hk => hb.block k hk.2) (d.obound h))
/-- What is held while other blocks are written. -/
theorem kstep (d : Ty α) {w w' : World} {F x cs} (hm : ∀ k, F k → k < w.heap.size → w'.heap[k]? = w.heap[k]?) (h : d.K w F x cs) : d.K w' F x cs :=
  d.kmono (fun _ hk => hk.1) (d.kmove (fun k hk => hm k hk.1 hk.2) (d.kbound h))
theorem ostep (d : Ty α) {w w' : World} {F x cs} (hm : ∀ k, F k → k < w.heap.size → w'.heap[k]? = w.heap[k]?) (h : d.O w F x cs) : d.O w' F x cs :=
  d.omono (fun _ hk => hk.1) (d.omove (fun k hk => hm k hk.1 hk.2) (d.obound h))

/-- One cell. -/
def scalar (enc : α → Value) (h1 : ∀ x, (enc x).oneCell' = true) : Ty α where
  sz := 1
  pos := by decide
  K := fun _ _ x cs => cs = [enc x]
  O := fun _ _ x cs => cs = [enc x]
  len := by rintro w F x cs rfl; rfl
  one := by
    rintro w F x cs rfl u hu
    rw [List.mem_singleton] at hu
    rw [hu]; exact h1 x
  kmono := fun _ h => h
  kmove := fun _ h => h
  kbound := fun h => h
  omono := fun _ h => h
  omove := fun _ h => h
  obound := fun h => h
  ok := fun h => h

def int (k : IntKind) : Ty Int := scalar (Value.int k) (fun _ => rfl)
def bool : Ty Bool := scalar Value.bool (fun _ => rfl)
def str : Ty ByteArray := scalar Value.string (fun _ => rfl)

/-- Two, one behind the other. -/
def pair (a : Ty α) (b : Ty β) : Ty (α × β) where
  sz := a.sz + b.sz
  pos := by have := a.pos; omega
  K := fun w F x cs => ∃ c1 c2, cs = c1 ++ c2 ∧ a.K w F x.1 c1 ∧ b.K w F x.2 c2
  O := fun w F x cs => ∃ c1 c2 F1 F2, cs = c1 ++ c2 ∧ a.O w F1 x.1 c1 ∧ b.O w F2 x.2 c2 ∧ (∀ k, F1 k → F k) ∧ (∀ k, F2 k → F k) ∧ (∀ k, F1 k → F2 k → False)
  len := by
    rintro w F x cs ⟨c1, c2, rfl, h1, h2⟩
    rw [List.length_append, a.len h1, b.len h2]
  one := by
    rintro w F x cs ⟨c1, c2, rfl, h1, h2⟩ u hu
    rcases List.mem_append.1 hu with h | h
    · exact a.one h1 u h
    · exact b.one h2 u h
  kmono := fun hm ⟨c1, c2, e, h1, h2⟩ => ⟨c1, c2, e, a.kmono hm h1, b.kmono hm h2⟩
  kmove := fun hm ⟨c1, c2, e, h1, h2⟩ => ⟨c1, c2, e, a.kmove hm h1, b.kmove hm h2⟩
  kbound := fun ⟨c1, c2, e, h1, h2⟩ => ⟨c1, c2, e, a.kbound h1, b.kbound h2⟩
  omono := fun hm ⟨c1, c2, F1, F2, e, h1, h2, s1, s2, s3⟩ => ⟨c1, c2, F1, F2, e, h1, h2, fun k hk => hm k (s1 k hk), fun k hk => hm k (s2 k hk), s3⟩
  omove := fun hm ⟨c1, c2, F1, F2, e, h1, h2, s1, s2, s3⟩ => ⟨c1, c2, F1, F2, e, a.omove (fun k hk => hm k (s1 k hk)) h1, b.omove (fun k hk => hm k (s2 k hk)) h2, s1, s2, s3⟩
  obound := fun ⟨c1, c2, F1, F2, e, h1, h2, s1, s2, s3⟩ => ⟨c1, c2, _, _, e, a.obound h1, b.obound h2, fun k hk => ⟨s1 k hk.1, hk.2⟩, fun k hk => ⟨s2 k hk.1, hk.2⟩, fun k h k' => s3 k h.1 k'.1⟩
  ok := fun ⟨c1, c2, F1, F2, e, h1, h2, s1, s2, s3⟩ => ⟨c1, c2, e, a.kmono s1 (a.ok h1), b.kmono s2 (b.ok h2)⟩

/-- A Lean structure by its fields. -/
def iso (d : Ty α) (f : β → α) : Ty β where
  sz := d.sz
  pos := d.pos
  K := fun w F x cs => d.K w F (f x) cs
  O := fun w F x cs => d.O w F (f x) cs
  len := d.len
  one := d.one
  kmono := d.kmono
  kmove := d.kmove
  kbound := d.kbound
  omono := d.omono
  omove := d.omove
  obound := d.obound
  ok := d.ok

/-- Elements that are read: element j's cells are css[j]; one cell apart from another in the row that begins at A. -/
def cellsAt (w : World) (A : Option Addr) (F : Fp) (sz n : Nat) (css : Nat → List Value) : Prop :=
  0 < n → ∃ ad, A = some ad ∧ F ad.block ∧ ∀ j, j < n → ∀ i u, (css j)[i]? = some u → i < sz → w.cell? (ad.add (j * sz + i)) = some u

/-- A row of elements that is read. -/
def Row (d : Ty α) (w : World) (F : Fp) (A : Option Addr) (xs : List α) : Prop :=
  ∃ css : Nat → List Value, cellsAt w A F d.sz xs.length css ∧ ∀ j (h : j < xs.length), d.K w F xs[j] (css j)

/-- The row v of the call's own, of elements of type e: the block g, whole. -/
def Own (d : Ty α) (e : TypeId) (w : World) (F : Fp) (v : Value) (xs : List α) : Prop :=
  (v = .slice none 0 0 ∧ xs = []) ∨
  ∃ g cap cur, v = .slice (some ⟨g, 0, none⟩) xs.length cap ∧ F g ∧ w.heap[g]? = some (.cells cur e (0, 0)) ∧ xs.length ≤ cap ∧ cap ≤ maxLen ∧ cur.size = cap * d.sz ∧
    ∃ (Fs : Nat → Fp) (css : Nat → List Value), (∀ j k, Fs j k → F k ∧ k ≠ g) ∧ (∀ i j k, i ≠ j → Fs i k → Fs j k → False) ∧
      ∀ j (h : j < xs.length), d.O w (Fs j) xs[j] (css j) ∧ ∀ i u, (css j)[i]? = some u → cur[j * d.sz + i]? = some u

theorem cellsAt_mono {w : World} {A : Option Addr} {F F' : Fp} {sz n : Nat} {css : Nat → List Value} (hm : ∀ k, F k → F' k) (h : cellsAt w A F sz n css) : cellsAt w A F' sz n css := fun hn =>
  let ⟨ad, e, hf, hc⟩ := h hn
  ⟨ad, e, hm _ hf, hc⟩
theorem cellsAt_move {w w' : World} {A : Option Addr} {F : Fp} {sz n : Nat} {css : Nat → List Value} (hm : ∀ k, F k → w'.heap[k]? = w.heap[k]?) (h : cellsAt w A F sz n css) : cellsAt w' A F sz n css := fun hn =>
  let ⟨ad, e, hf, hc⟩ := h hn
  ⟨ad, e, hf, fun j hj i u hu hi => (World.cell?_of_block (w := w) (by rw [show (ad.add (j * sz + i)).block = ad.block by unfold Addr.add; split <;> rfl]; exact hm _ hf)).trans (hc j hj i u hu hi)⟩
theorem cellsAt_bound {w : World} {A : Option Addr} {F : Fp} {sz n : Nat} {css : Nat → List Value} (h0 : 0 < sz) (hl : ∀ j, j < n → (css j).length = sz) (h : cellsAt w A F sz n css) : cellsAt w A (fun k => F k ∧ k < w.heap.size) sz n css := fun hn => by
  obtain ⟨ad, e, hf, hc⟩ := h hn
  refine ⟨ad, e, ⟨hf, ?_⟩, hc⟩
  have hlen := hl 0 hn
  have hc0 := hc 0 hn 0 (css 0)[0] (by rw [List.getElem?_eq_getElem (by omega)]) h0
  have := World.block_lt_of_cell? w _ hc0
  simpa [Addr.add] using this

theorem Row_mono {d : Ty α} {w : World} {F F' : Fp} {A : Option Addr} {xs : List α} (hm : ∀ k, F k → F' k) (h : d.Row w F A xs) : d.Row w F' A xs :=
  let ⟨css, h1, h2⟩ := h
  ⟨css, cellsAt_mono hm h1, fun j hj => d.kmono hm (h2 j hj)⟩
theorem Row_move {d : Ty α} {w w' : World} {F : Fp} {A : Option Addr} {xs : List α} (hm : ∀ k, F k → w'.heap[k]? = w.heap[k]?) (h : d.Row w F A xs) : d.Row w' F A xs :=
  let ⟨css, h1, h2⟩ := h
  ⟨css, cellsAt_move hm h1, fun j hj => d.kmove hm (h2 j hj)⟩
theorem Row_bound {d : Ty α} {w : World} {F : Fp} {A : Option Addr} {xs : List α} (h : d.Row w F A xs) : d.Row w (fun k => F k ∧ k < w.heap.size) A xs :=
  let ⟨css, h1, h2⟩ := h
  ⟨css, cellsAt_bound d.pos (fun j hj => d.len (h2 j hj)) h1, fun j hj => d.kbound (h2 j hj)⟩
theorem Row_below {d : Ty α} {w w' : World} {F : Fp} {A : Option Addr} {xs : List α} (hb : Below w.heap.size w w') (h : d.Row w F A xs) : d.Row w' F A xs :=
  Row_mono (fun _ hk => hk.1) (Row_move (fun k hk => hb.block k hk.2) (Row_bound h))
theorem Row_step {d : Ty α} {w w' : World} {F : Fp} {A : Option Addr} {xs : List α} (hm : ∀ k, F k → k < w.heap.size → w'.heap[k]? = w.heap[k]?) (h : d.Row w F A xs) : d.Row w' F A xs :=
  Row_mono (fun _ hk => hk.1) (Row_move (fun k hk => hm k hk.1 hk.2) (Row_bound h))
theorem Row_nil (d : Ty α) (w : World) (F : Fp) (A : Option Addr) : d.Row w F A [] := ⟨fun _ => [], fun h => absurd h (Nat.lt_irrefl 0), fun j h => absurd h (Nat.not_lt_zero j)⟩

theorem Own_mono {d : Ty α} {e : TypeId} {w : World} {F F' : Fp} {v : Value} {xs : List α} (hm : ∀ k, F k → F' k) (h : d.Own e w F v xs) : d.Own e w F' v xs := by
  rcases h with h | ⟨g, cap, cur, e1, hF, hb, h1, h2, h3, Fs, css, s1, s2, s3⟩
  · exact .inl h
  · exact .inr ⟨g, cap, cur, e1, hm g hF, hb, h1, h2, h3, Fs, css, fun j k hk => ⟨hm k (s1 j k hk).1, (s1 j k hk).2⟩, s2, s3⟩
theorem Own_move {d : Ty α} {e : TypeId} {w w' : World} {F : Fp} {v : Value} {xs : List α} (hm : ∀ k, F k → w'.heap[k]? = w.heap[k]?) (h : d.Own e w F v xs) : d.Own e w' F v xs := by
  rcases h with h | ⟨g, cap, cur, e1, hF, hb, h1, h2, h3, Fs, css, s1, s2, s3⟩
  · exact .inl h
  · exact .inr ⟨g, cap, cur, e1, hF, (hm g hF).trans hb, h1, h2, h3, Fs, css, s1, s2, fun j hj => ⟨d.omove (fun k hk => hm k (s1 j k hk).1) (s3 j hj).1, (s3 j hj).2⟩⟩
theorem Own_bound {d : Ty α} {e : TypeId} {w : World} {F : Fp} {v : Value} {xs : List α} (h : d.Own e w F v xs) : d.Own e w (fun k => F k ∧ k < w.heap.size) v xs := by
  rcases h with h | ⟨g, cap, cur, e1, hF, hb, h1, h2, h3, Fs, css, s1, s2, s3⟩
  · exact .inl h
  · exact .inr ⟨g, cap, cur, e1, ⟨hF, (Array.getElem?_eq_some_iff.1 hb).1⟩, hb, h1, h2, h3, fun j k => Fs j k ∧ k < w.heap.size, css, fun j k hk => ⟨⟨(s1 j k hk.1).1, hk.2⟩, (s1 j k hk.1).2⟩, fun i j k hij a b => s2 i j k hij a.1 b.1, fun j hj => ⟨d.obound (s3 j hj).1, (s3 j hj).2⟩⟩
theorem Own_step {d : Ty α} {e : TypeId} {w w' : World} {F : Fp} {v : Value} {xs : List α} (hm : ∀ k, F k → k < w.heap.size → w'.heap[k]? = w.heap[k]?) (h : d.Own e w F v xs) : d.Own e w' F v xs :=
  Own_mono (fun _ hk => hk.1) (Own_move (fun k hk => hm k hk.1 hk.2) (Own_bound h))
theorem Own_below {d : Ty α} {e : TypeId} {w w' : World} {F : Fp} {v : Value} {xs : List α} (hb : Below w.heap.size w w') (h : d.Own e w F v xs) : d.Own e w' F v xs :=
  Own_step (fun k _ hk => hb.block k hk) h
theorem Own_nil (d : Ty α) (e : TypeId) (w : World) (F : Fp) : d.Own e w F (.slice none 0 0) [] := .inl ⟨rfl, rfl⟩

/-- What is owned is read. -/
theorem Own_row {d : Ty α} {e : TypeId} {w : World} {F : Fp} {v : Value} {xs : List α} (h : d.Own e w F v xs) : ∃ A c, v = .slice A xs.length c ∧ xs.length ≤ c ∧ c ≤ maxLen ∧ d.Row w F A xs := by
  rcases h with ⟨rfl, rfl⟩ | ⟨g, cap, cur, rfl, hF, hb, h1, h2, h3, Fs, css, s1, s2, s3⟩
  · exact ⟨none, 0, rfl, Nat.le_refl _, Nat.zero_le _, Row_nil _ _ _ _⟩
  · refine ⟨_, cap, rfl, h1, h2, css, fun _ => ⟨_, rfl, hF, fun j hj i u hu _ => ?_⟩, fun j hj => d.kmono (fun k hk => (s1 j k hk).1) (d.ok (s3 j hj).1)⟩
    have hc := (s3 j hj).2 i u hu
    have : (⟨g, 0, none⟩ : Addr).add (j * d.sz + i) = ⟨g, j * d.sz + i, none⟩ := by unfold Addr.add; split <;> simp_all
    rw [this, cell_of_row w g _ cur e (0, 0) hb]; exact hc

/-- A slice of elements of type e. -/
def slice (e : TypeId) (d : Ty α) : Ty (List α) where
  sz := 1
  pos := by decide
  K := fun w F xs cs => ∃ A c, cs = [.slice A xs.length c] ∧ xs.length ≤ c ∧ c ≤ maxLen ∧ d.Row w F A xs
  O := fun w F xs cs => ∃ v, cs = [v] ∧ d.Own e w F v xs
  len := by rintro w F x cs ⟨A, c, rfl, _⟩; rfl
  one := by
    rintro w F x cs ⟨A, c, rfl, _⟩ u hu
    rw [List.mem_singleton] at hu
    rw [hu]; rfl
  kmono := fun hm ⟨A, c, e, h1, h2, h⟩ => ⟨A, c, e, h1, h2, Row_mono hm h⟩
  kmove := fun hm ⟨A, c, e, h1, h2, h⟩ => ⟨A, c, e, h1, h2, Row_move hm h⟩
  kbound := fun ⟨A, c, e, h1, h2, h⟩ => ⟨A, c, e, h1, h2, Row_bound h⟩
  omono := fun hm ⟨v, e, h⟩ => ⟨v, e, Own_mono hm h⟩
  omove := fun hm ⟨v, e, h⟩ => ⟨v, e, Own_move hm h⟩
  obound := fun ⟨v, e, h⟩ => ⟨v, e, Own_bound h⟩
  ok := fun ⟨v, e1, h⟩ => by
    obtain ⟨A, c, rfl, h1, h2, h3⟩ := Own_row h
    exact ⟨A, c, e1, h1, h2, h3⟩

/-- Element j of a row that is read: its cells, where they lie. -/
theorem Row_at {d : Ty α} {w : World} {F : Fp} {A : Option Addr} {xs : List α} (h : d.Row w F A xs) (j : Nat) (hj : j < xs.length) :
    ∃ ad cs, A = some ad ∧ d.K w F xs[j] cs ∧ (∀ i u, cs[i]? = some u → w.cell? (ad.add (j * d.sz + i)) = some u) := by
  obtain ⟨css, h1, h2⟩ := h
  obtain ⟨ad, e, hf, hc⟩ := h1 (by omega)
  have hl := d.len (h2 j hj)
  exact ⟨ad, css j, e, h2 j hj, fun i u hu => hc j hj i u hu (by have := (List.getElem?_eq_some_iff.1 hu).1; omega)⟩

end Ty

/-- A value of a kind, as one operand. -/
def asVal (cs : List Value) : Value := match cs with | [v] => v | cs => .agg cs.toArray

end Go.Proofs.Yticnbpefeoaamaa
