/- Contracts: sets asked for a member; whether all of a list is so; beginnings. -/
import Derived.Test.YticnbpefeoaamaaTrE
namespace Go.Proofs.Yticnbpefeoaamaa
open Go.RowKit
set_option linter.unusedSimpArgs false
set_option linter.unusedVariables false

theorem Ty.bool_at {w F A xs} (h : Ty.bool.Row w F A xs) (j : Nat) (hj : j < xs.length) : ∃ ad, A = some ad ∧ w.cell? (ad.add j) = some (.bool xs[j]) := by
  obtain ⟨ad, cs, e, hk, hc⟩ := Ty.Row_at h j hj
  cases (hk : cs = [_])
  refine ⟨ad, e, ?_⟩
  have := hc 0 _ rfl
  rwa [show j * Ty.bool.sz + 0 = j by simp [Ty.bool, Ty.scalar]] at this
/-- A row of one's own that was written out. -/
theorem Ty.Row_lit {α : Type} {enc : α → Value} {h1 : ∀ x, (enc x).oneCell' = true} {w : World} {F : Fp} {g : Nat} {t : TypeId} {fr : Nat × Nat} (xs : List α) (h : w.heap[g]? = some (.cells (xs.map enc).toArray t fr)) (hF : F g) : (Ty.scalar enc h1).Row w F (some ⟨g, 0, none⟩) xs := by
  refine ⟨fun j => if hj : j < xs.length then [enc xs[j]] else [], fun _ => ⟨_, rfl, hF, fun j hj i u hu hi => ?_⟩, fun j hj => by simp only [hj, dif_pos]; rfl⟩
  simp only [hj, dif_pos] at hu
  have h0 : i = 0 := by have := (List.getElem?_eq_some_iff.1 hu).1; simpa using this
  subst h0
  have e : (⟨g, 0, none⟩ : Addr).add (j * (Ty.scalar enc h1).sz + 0) = ⟨g, j, none⟩ := by
    unfold Addr.add
    split
    · rename_i hz; simp [Ty.scalar] at hz; subst hz; rfl
    · simp [Ty.scalar]
  rw [e, cell_of_row w g _ _ t fr h]
  simp only [List.getElem?_cons_zero] at hu
  rw [← hu]
  simp [hj]

def numOk (n : Int) : Bool := decide (-2147483648 ≤ n) && decide (n ≤ 2147483647)
def wordOk (w : ByteArray) : Bool := decide ((w.size : Int) ≤ 64)
theorem number_calls (n : Int) (w : World) : Calls Try.prog 97 #[.int .i64 n] w fun e w' => e = .returned (.bool (numOk n)) ∧ w = w' := by
  go_enter Try.func97, Try.ntmps97
  go_wp2
  all_goals
    go_ret
    refine ⟨?_, rfl⟩
    simp_all [numOk] <;> omega
theorem refNumber_calls (n : Int) (w : World) : Calls Try.prog 104 #[.int .i64 n] w fun e w' => e = .returned (.bool (numOk n)) ∧ w = w' := by
  go_enter Try.func104, Try.ntmps104
  go_wp2
  all_goals
    go_ret
    refine ⟨?_, rfl⟩
    simp_all [numOk] <;> omega
theorem word_calls (s : ByteArray) (w : World) : Calls Try.prog 99 #[.string s] w fun e w' => e = .returned (.bool (wordOk s)) ∧ w = w' := by
  go_enter Try.func99, Try.ntmps99
  go_wp2
  go_ret
  exact ⟨rfl, rfl⟩

set_option maxHeartbeats 800000 in
set_option maxRecDepth 100000 in
theorem indexInt (w : World) (F : Fp) (A : Option Addr) (c : Nat) (xs : List Int) (x : Int) (hl : xs.length ≤ 9223372036854775807) (h : Ty.i64.Row w F A xs) :
    Calls Try.prog 121 #[.slice A xs.length c, .int .i64 x] w fun e w' => e = .returned (.int .i64 (idxOf (fun y => x == y) xs)) ∧ w = w' := by
  have HR := Lib.hid h
  clear h
  go_enter Try.func121, Try.ntmps121
  go_wp2
  go_loop [8] (fun i => ∃ k : Nat, k ≤ xs.length ∧ i = .int .i64 k ∧ Hid (∀ j, (h : j < xs.length) → j < k → (fun y => x == y) xs[j] = false)) (fun i => xs.length - (intOf i).toNat)
  case atStart => exact ⟨0, Nat.zero_le _, rfl, fun j hj => by omega⟩
  case round =>
    obtain ⟨k, hk, rfl, HA⟩ := hrel
    by_cases hlt : k < xs.length
    · obtain ⟨ad, rfl, c0⟩ := Ty.int_at HR.out k hlt
      cases hp : (fun y => x == y) xs[k] with
      | true =>
        have HP := Lib.hid hp
        simp only at hp
        go_wp2
        go_ret
        exact ⟨by rw [idxOf_hit hlt (fun j h hj => HA.out j h hj) HP.out]; rfl, rfl⟩
      | false =>
        have HP := Lib.hid hp
        simp only at hp
        go_wp2
        go_round
        case rel => exact ⟨k + 1, by omega, by go_num, fun j h hj => by
          by_cases e : j = k
          · subst e; exact HP.out
          · exact HA.out j h (by omega)⟩
        case measure => simp [intOf]; omega
    · go_wp2
      go_ret
      exact ⟨by rw [idxOf_miss (fun j h => HA.out j h (by omega))]; rfl, rfl⟩

set_option maxHeartbeats 800000 in
set_option maxRecDepth 100000 in
theorem indexStr (w : World) (F : Fp) (A : Option Addr) (c : Nat) (xs : List ByteArray) (x : ByteArray) (hl : xs.length ≤ 9223372036854775807) (h : Ty.str.Row w F A xs) :
    Calls Try.prog 122 #[.slice A xs.length c, .string x] w fun e w' => e = .returned (.int .i64 (idxOf (fun y => x.toList == y.toList) xs)) ∧ w = w' := by
  have HR := Lib.hid h
  clear h
  go_enter Try.func122, Try.ntmps122
  go_wp2
  go_loop [8] (fun i => ∃ k : Nat, k ≤ xs.length ∧ i = .int .i64 k ∧ Hid (∀ j, (h : j < xs.length) → j < k → (fun y => x.toList == y.toList) xs[j] = false)) (fun i => xs.length - (intOf i).toNat)
  case atStart => exact ⟨0, Nat.zero_le _, rfl, fun j hj => by omega⟩
  case round =>
    obtain ⟨k, hk, rfl, HA⟩ := hrel
    by_cases hlt : k < xs.length
    · obtain ⟨ad, rfl, c0⟩ := Ty.str_at HR.out k hlt
      cases hp : (fun y => x.toList == y.toList) xs[k] with
      | true =>
        have HP := Lib.hid hp
        simp only at hp
        go_wp2
        go_ret
        exact ⟨by rw [idxOf_hit hlt (fun j h hj => HA.out j h hj) HP.out]; rfl, rfl⟩
      | false =>
        have HP := Lib.hid hp
        simp only at hp
        go_wp2
        go_round
        case rel => exact ⟨k + 1, by omega, by go_num, fun j h hj => by
          by_cases e : j = k
          · subst e; exact HP.out
          · exact HA.out j h (by omega)⟩
        case measure => simp [intOf]; omega
    · go_wp2
      go_ret
      exact ⟨by rw [idxOf_miss (fun j h => HA.out j h (by omega))]; rfl, rfl⟩

set_option maxHeartbeats 800000 in
set_option maxRecDepth 100000 in
theorem indexBool (w : World) (F : Fp) (A : Option Addr) (c : Nat) (xs : List Bool) (x : Bool) (hl : xs.length ≤ 9223372036854775807) (h : Ty.bool.Row w F A xs) :
    Calls Try.prog 126 #[.slice A xs.length c, .bool x] w fun e w' => e = .returned (.int .i64 (idxOf (fun y => x == y) xs)) ∧ w = w' := by
  have HR := Lib.hid h
  clear h
  go_enter Try.func126, Try.ntmps126
  go_wp2
  go_loop [8] (fun i => ∃ k : Nat, k ≤ xs.length ∧ i = .int .i64 k ∧ Hid (∀ j, (h : j < xs.length) → j < k → (fun y => x == y) xs[j] = false)) (fun i => xs.length - (intOf i).toNat)
  case atStart => exact ⟨0, Nat.zero_le _, rfl, fun j hj => by omega⟩
  case round =>
    obtain ⟨k, hk, rfl, HA⟩ := hrel
    by_cases hlt : k < xs.length
    · obtain ⟨ad, rfl, c0⟩ := Ty.bool_at HR.out k hlt
      cases hp : (fun y => x == y) xs[k] with
      | true =>
        have HP := Lib.hid hp
        simp only at hp
        go_wp2
        go_ret
        exact ⟨by rw [idxOf_hit hlt (fun j h hj => HA.out j h hj) HP.out]; rfl, rfl⟩
      | false =>
        have HP := Lib.hid hp
        simp only at hp
        go_wp2
        go_round
        case rel => exact ⟨k + 1, by omega, by go_num, fun j h hj => by
          by_cases e : j = k
          · subst e; exact HP.out
          · exact HA.out j h (by omega)⟩
        case measure => simp [intOf]; omega
    · go_wp2
      go_ret
      exact ⟨by rw [idxOf_miss (fun j h => HA.out j h (by omega))]; rfl, rfl⟩

set_option maxHeartbeats 400000 in
theorem containsInt (w : World) (F : Fp) (A : Option Addr) (c : Nat) (xs : List Int) (x : Int) (hl : xs.length ≤ 9223372036854775807) (h : Ty.i64.Row w F A xs) :
    Calls Try.prog 100 #[.slice A xs.length c, .int .i64 x] w fun e w' => e = .returned (.bool (xs.any (fun y => x == y))) ∧ w = w' := by
  have H := Lib.hid (indexInt w F A c xs x hl h)
  clear h
  go_enter Try.func100, Try.ntmps100
  go_wp2_with fail
  refine H.out.mono ?_
  rintro e w1 ⟨rfl, rfl⟩
  go_wp2
  go_ret
  exact ⟨by rw [← idxOf_any]; rfl, rfl⟩

set_option maxHeartbeats 400000 in
theorem containsStr (w : World) (F : Fp) (A : Option Addr) (c : Nat) (xs : List ByteArray) (x : ByteArray) (hl : xs.length ≤ 9223372036854775807) (h : Ty.str.Row w F A xs) :
    Calls Try.prog 101 #[.slice A xs.length c, .string x] w fun e w' => e = .returned (.bool (xs.any (fun y => x.toList == y.toList))) ∧ w = w' := by
  have H := Lib.hid (indexStr w F A c xs x hl h)
  clear h
  go_enter Try.func101, Try.ntmps101
  go_wp2_with fail
  refine H.out.mono ?_
  rintro e w1 ⟨rfl, rfl⟩
  go_wp2
  go_ret
  exact ⟨by rw [← idxOf_any]; rfl, rfl⟩

set_option maxHeartbeats 400000 in
theorem containsBool (w : World) (F : Fp) (A : Option Addr) (c : Nat) (xs : List Bool) (x : Bool) (hl : xs.length ≤ 9223372036854775807) (h : Ty.bool.Row w F A xs) :
    Calls Try.prog 110 #[.slice A xs.length c, .bool x] w fun e w' => e = .returned (.bool (xs.any (fun y => x == y))) ∧ w = w' := by
  have H := Lib.hid (indexBool w F A c xs x hl h)
  clear h
  go_enter Try.func110, Try.ntmps110
  go_wp2_with fail
  refine H.out.mono ?_
  rintro e w1 ⟨rfl, rfl⟩
  go_wp2
  go_ret
  exact ⟨by rw [← idxOf_any]; rfl, rfl⟩

set_option maxHeartbeats 400000 in
set_option maxRecDepth 100000 in
theorem everyInInt (W : World) (F : Fp) (x : Int) (b g : Nat) (cap : Array Value) (q : Int → Bool) (hc : W.cell? ⟨b, 0, none⟩ = some (.func (.func g) #[] cap)) (hgf : IsFn g)
    (hg : ∀ W1, Below W.heap.size W W1 → Calls Try.prog g (#[.int .i64 x] ++ cap) W1 (fun e W' => e = .returned (.bool (q x)) ∧ Below W1.heap.size W1 W')) :
    Calls Try.prog 118 #[.int .i64 x, .pointer (some ⟨b, 0, none⟩)] W fun e W' => e = .returned (.bool (!q x)) ∧ Below W.heap.size W W' := by
  have H := Lib.hid hg
  have HC := Lib.hid hgf
  have hb := World.block_lt_of_cell? W _ hc
  simp only at hb
  clear hg hgf
  go_enter Try.func118, Try.ntmps118
  go_wp2_with fail
  rw [HC.out]
  go_wp2_with fail
  refine (H.out _ (by first | exact Below.refl _ _ | exact bl_alloc (Below.refl _ _) _)).mono ?_
  rintro e w1 ⟨rfl, hb1⟩
  have HB1 : Hid (Below W.heap.size W w1) := bl_trans (by first | exact Below.refl _ _ | exact bl_alloc (Below.refl _ _) _) hb1
  clear hb1
  go_wp2
  go_ret
  exact ⟨rfl, HB1.out⟩

set_option maxHeartbeats 400000 in
set_option maxRecDepth 100000 in
theorem everyInt (w : World) (F : Fp) (A : Option Addr) (c : Nat) (xs : List Int) (hl : xs.length ≤ 9223372036854775807) (h : Ty.i64.Row w F A xs) (g : Nat) (cap : Array Value) (q : Int → Bool) (hgf : IsFn g)
    (hg : ∀ W, Below w.heap.size w W → ∀ j (hj : j < xs.length), Calls Try.prog g (#[.int .i64 xs[j]] ++ cap) W (fun e W' => e = .returned (.bool (q xs[j])) ∧ Below W.heap.size W W')) :
    Calls Try.prog 96 #[.slice A xs.length c, .func (.func g) #[] cap] w fun e w' => e = .returned (.bool (xs.all q)) ∧ Below w.heap.size w w' := by
  have hmf : ∀ (fn : Fn) (first cap : Array Value) (w : World), (Instr.makeFunc fn first cap).run Try.prog w = .ok (.func fn first cap) w := fun _ _ _ _ => rfl
  have H := Lib.hid hg
  have HR := Lib.hid h
  clear hg h
  go_enter Try.func96, Try.ntmps96
  go_wp2_with fail
  refine (containsFuncInt _ F A c xs hl (Ty.Row_below (below1 _ _) HR.out) 118 #[.pointer (some ⟨w.heap.size, 0, none⟩)] (fun x => !q x) (isFn_of Try.func118 (by kernel_rfl) (by kernel_rfl)) ?_).mono ?_
  · intro W hW j hj
    have hb := bl_trans (below1 _ _) hW
    refine everyInInt W F xs[j] w.heap.size g cap q ?_ hgf (fun W1 h1 => H.out W1 (bl_trans hb h1) j hj)
    rw [hW.cell (by simp)]; simp [World.cell?_alloc_at]
  rintro e w1 ⟨rfl, hb⟩
  have HB := Lib.hid (bl_trans (below1 _ _) hb)
  clear hb
  go_wp2
  go_ret
  exact ⟨by rw [List.all_eq_not_any_not]; rfl, HB.out⟩

set_option maxHeartbeats 400000 in
set_option maxRecDepth 100000 in
theorem everyInStr (W : World) (F : Fp) (x : ByteArray) (b g : Nat) (cap : Array Value) (q : ByteArray → Bool) (hc : W.cell? ⟨b, 0, none⟩ = some (.func (.func g) #[] cap)) (hgf : IsFn g)
    (hg : ∀ W1, Below W.heap.size W W1 → Calls Try.prog g (#[.string x] ++ cap) W1 (fun e W' => e = .returned (.bool (q x)) ∧ Below W1.heap.size W1 W')) :
    Calls Try.prog 120 #[.string x, .pointer (some ⟨b, 0, none⟩)] W fun e W' => e = .returned (.bool (!q x)) ∧ Below W.heap.size W W' := by
  have H := Lib.hid hg
  have HC := Lib.hid hgf
  have hb := World.block_lt_of_cell? W _ hc
  simp only at hb
  clear hg hgf
  go_enter Try.func120, Try.ntmps120
  go_wp2_with fail
  rw [HC.out]
  go_wp2_with fail
  refine (H.out _ (by first | exact Below.refl _ _ | exact bl_alloc (Below.refl _ _) _)).mono ?_
  rintro e w1 ⟨rfl, hb1⟩
  have HB1 : Hid (Below W.heap.size W w1) := bl_trans (by first | exact Below.refl _ _ | exact bl_alloc (Below.refl _ _) _) hb1
  clear hb1
  go_wp2
  go_ret
  exact ⟨rfl, HB1.out⟩

set_option maxHeartbeats 400000 in
set_option maxRecDepth 100000 in
theorem everyStr (w : World) (F : Fp) (A : Option Addr) (c : Nat) (xs : List ByteArray) (hl : xs.length ≤ 9223372036854775807) (h : Ty.str.Row w F A xs) (g : Nat) (cap : Array Value) (q : ByteArray → Bool) (hgf : IsFn g)
    (hg : ∀ W, Below w.heap.size w W → ∀ j (hj : j < xs.length), Calls Try.prog g (#[.string xs[j]] ++ cap) W (fun e W' => e = .returned (.bool (q xs[j])) ∧ Below W.heap.size W W')) :
    Calls Try.prog 98 #[.slice A xs.length c, .func (.func g) #[] cap] w fun e w' => e = .returned (.bool (xs.all q)) ∧ Below w.heap.size w w' := by
  have hmf : ∀ (fn : Fn) (first cap : Array Value) (w : World), (Instr.makeFunc fn first cap).run Try.prog w = .ok (.func fn first cap) w := fun _ _ _ _ => rfl
  have H := Lib.hid hg
  have HR := Lib.hid h
  clear hg h
  go_enter Try.func98, Try.ntmps98
  go_wp2_with fail
  refine (containsFuncStr _ F A c xs hl (Ty.Row_below (below1 _ _) HR.out) 120 #[.pointer (some ⟨w.heap.size, 0, none⟩)] (fun x => !q x) (isFn_of Try.func120 (by kernel_rfl) (by kernel_rfl)) ?_).mono ?_
  · intro W hW j hj
    have hb := bl_trans (below1 _ _) hW
    refine everyInStr W F xs[j] w.heap.size g cap q ?_ hgf (fun W1 h1 => H.out W1 (bl_trans hb h1) j hj)
    rw [hW.cell (by simp)]; simp [World.cell?_alloc_at]
  rintro e w1 ⟨rfl, hb⟩
  have HB := Lib.hid (bl_trans (below1 _ _) hb)
  clear hb
  go_wp2
  go_ret
  exact ⟨by rw [List.all_eq_not_any_not]; rfl, HB.out⟩

set_option maxHeartbeats 400000 in
set_option maxRecDepth 100000 in
theorem everyInNode (W : World) (F : Fp) (x : NodeD) (cs : List Value) (hn : Ty.node.K W F x cs) (b g : Nat) (cap : Array Value) (q : NodeD → Bool) (hc : W.cell? ⟨b, 0, none⟩ = some (.func (.func g) #[] cap)) (hgf : IsFn g)
    (hg : ∀ W1, Below W.heap.size W W1 → Calls Try.prog g (#[.agg cs.toArray] ++ cap) W1 (fun e W' => e = .returned (.bool (q x)) ∧ Below W1.heap.size W1 W')) :
    Calls Try.prog 111 #[.agg cs.toArray, .pointer (some ⟨b, 0, none⟩)] W fun e W' => e = .returned (.bool (!q x)) ∧ Below W.heap.size W W' := by
  have H := Lib.hid hg
  have HC := Lib.hid hgf
  have hb := World.block_lt_of_cell? W _ hc
  simp only at hb
  clear hg hgf
  obtain ⟨A1, c1, A2, c2, A3, c3, rfl, h1, h2, h3⟩ := Ty.node_open hn
  clear hn h1 h2 h3
  go_enter Try.func111, Try.ntmps111
  go_wp2_with fail
  rw [HC.out]
  go_wp2_with fail
  refine (H.out _ (by first | exact Below.refl _ _ | exact bl_alloc (Below.refl _ _) _)).mono ?_
  rintro e w1 ⟨rfl, hb1⟩
  have HB1 : Hid (Below W.heap.size W w1) := bl_trans (by first | exact Below.refl _ _ | exact bl_alloc (Below.refl _ _) _) hb1
  clear hb1
  go_wp2
  go_ret
  exact ⟨rfl, HB1.out⟩

set_option maxHeartbeats 400000 in
set_option maxRecDepth 100000 in
theorem everyNode (w : World) (F : Fp) (A : Option Addr) (c : Nat) (xs : List NodeD) (hl : xs.length ≤ 9223372036854775807) (h : Ty.node.Row w F A xs) (g : Nat) (cap : Array Value) (q : NodeD → Bool) (hgf : IsFn g)
    (hg : ∀ W, Below w.heap.size w W → ∀ j (hj : j < xs.length) (cs : List Value), Ty.node.K W F xs[j] cs → Calls Try.prog g (#[.agg cs.toArray] ++ cap) W (fun e W' => e = .returned (.bool (q xs[j])) ∧ Below W.heap.size W W')) :
    Calls Try.prog 78 #[.slice A xs.length c, .func (.func g) #[] cap] w fun e w' => e = .returned (.bool (xs.all q)) ∧ Below w.heap.size w w' := by
  have hmf : ∀ (fn : Fn) (first cap : Array Value) (w : World), (Instr.makeFunc fn first cap).run Try.prog w = .ok (.func fn first cap) w := fun _ _ _ _ => rfl
  have H := Lib.hid hg
  have HR := Lib.hid h
  clear hg h
  go_enter Try.func78, Try.ntmps78
  go_wp2_with fail
  refine (containsFuncNode _ F A c xs hl (Ty.Row_below (below1 _ _) HR.out) 111 #[.pointer (some ⟨w.heap.size, 0, none⟩)] (fun x => !q x) (isFn_of Try.func111 (by kernel_rfl) (by kernel_rfl)) ?_).mono ?_
  · intro W hW j hj cs hn
    have hb := bl_trans (below1 _ _) hW
    refine everyInNode W F xs[j] cs hn w.heap.size g cap q ?_ hgf (fun W1 h1 => H.out W1 (bl_trans hb h1) j hj cs (Ty.node.kbelow h1 hn))
    rw [hW.cell (by simp)]; simp [World.cell?_alloc_at]
  rintro e w1 ⟨rfl, hb⟩
  have HB := Lib.hid (bl_trans (below1 _ _) hb)
  clear hb
  go_wp2
  go_ret
  exact ⟨by rw [List.all_eq_not_any_not]; rfl, HB.out⟩

set_option maxHeartbeats 400000 in
theorem form_calls (w : World) (F : Fp) (A : Option Addr) (c : Nat) (xs : List Bool) (hl : xs.length ≤ 9223372036854775807) (h : Ty.bool.Row w F A xs) :
    Calls Try.prog 77 #[.slice A xs.length c] w fun e w' => e = .returned (.int .i64 (errno (xs.all id))) ∧ w = w' := by
  have H := Lib.hid (containsBool w F A c xs false hl h)
  have he : xs.any (fun y => false == y) = !xs.all id := by
    rw [List.all_eq_not_any_not, Bool.not_not]; congr 1; funext y; cases y <;> rfl
  rw [he] at H
  clear h he
  generalize xs.all id = b at H ⊢
  go_enter Try.func77, Try.ntmps77
  go_wp2_with fail
  refine H.out.mono ?_
  rintro e w1 ⟨rfl, rfl⟩
  cases b <;> (go_wp2; go_ret; exact ⟨rfl, rfl⟩)

/-- Does the word s begin so? -/
def begins (s p : ByteArray) : Bool := decide ((p.size : Int) ≤ s.size) && ((s.extract 0 p.size).toList == p.toList)
set_option maxHeartbeats 400000 in
theorem begins_calls (s p : ByteArray) (w : World) : Calls Try.prog 105 #[.string s, .string p] w fun e w' => e = .returned (.bool (begins s p)) ∧ w = w' := by
  by_cases h : p.size ≤ s.size
  · have h1 : decide ((p.size : Int) ≤ s.size) = true := by simpa using h
    have hb : begins s p = ((s.extract 0 p.size).toList == p.toList) := by simp [begins, h]
    rw [hb]; clear hb
    go_enter Try.func105, Try.ntmps105
    go_wp2
    go_ret
    exact ⟨by simp, rfl⟩
  · have h1 : decide ((p.size : Int) ≤ s.size) = false := by simpa using h
    have hb : begins s p = false := by simp [begins, h]
    rw [hb]; clear hb
    go_enter Try.func105, Try.ntmps105
    go_wp2
    go_ret
    exact ⟨rfl, rfl⟩
set_option maxHeartbeats 400000 in
theorem hasPrefix0 (s p : ByteArray) (w : World) : Calls Try.prog 123 #[.string s, .string p] w fun e w' => e = .returned (.bool (begins s p)) ∧ w = w' := by
  by_cases h : p.size ≤ s.size
  · have h1 : decide ((p.size : Int) ≤ s.size) = true := by simpa using h
    have hb : begins s p = ((s.extract 0 p.size).toList == p.toList) := by simp [begins, h]
    rw [hb]; clear hb
    go_enter Try.func123, Try.ntmps123
    go_wp2
    go_ret
    exact ⟨by simp, rfl⟩
  · have h1 : decide ((p.size : Int) ≤ s.size) = false := by simpa using h
    have hb : begins s p = false := by simp [begins, h]
    rw [hb]; clear hb
    go_enter Try.func123, Try.ntmps123
    go_wp2
    go_ret
    exact ⟨rfl, rfl⟩
theorem hasPrefix_calls (s p : ByteArray) (w : World) : Calls Try.prog 102 #[.string s, .string p] w fun e w' => e = .returned (.bool (begins s p)) ∧ w = w' := by
  go_enter Try.func102, Try.ntmps102
  go_wp2_with fail
  refine (hasPrefix0 s p w).mono ?_
  rintro e w1 ⟨rfl, rfl⟩
  go_wp2
  go_ret
  exact ⟨rfl, rfl⟩
end Go.Proofs.Yticnbpefeoaamaa
