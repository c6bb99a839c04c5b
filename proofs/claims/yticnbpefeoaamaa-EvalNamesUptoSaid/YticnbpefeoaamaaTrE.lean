/- Contracts: the library's searches over a slice, with a function handed in. -/
import Derived.Test.YticnbpefeoaamaaTrD
namespace Go.Proofs.Yticnbpefeoaamaa
open Go.RowKit
set_option linter.unusedSimpArgs false
set_option linter.unusedVariables false

def idxOf {α : Type} (p : α → Bool) (xs : List α) : Int := match xs.findIdx? p with | some k => (k : Int) | none => -1
theorem idxOf_hit {α : Type} {p : α → Bool} {xs : List α} {k : Nat} (hk : k < xs.length) (hA : ∀ j, (h : j < xs.length) → j < k → p xs[j] = false) (he : p xs[k] = true) : idxOf p xs = (k : Int) := by
  have : xs.findIdx? p = some k := by
    rw [List.findIdx?_eq_some_iff_getElem]
    exact ⟨hk, he, fun j hj => by simp [hA j (by omega) hj]⟩
  rw [idxOf, this]
theorem idxOf_miss {α : Type} {p : α → Bool} {xs : List α} (hA : ∀ j, (h : j < xs.length) → p xs[j] = false) : idxOf p xs = -1 := by
  have : xs.findIdx? p = none := by
    rw [List.findIdx?_eq_none_iff]
    intro x hx
    obtain ⟨j, hj, rfl⟩ := List.getElem_of_mem hx
    exact hA j hj
  rw [idxOf, this]
theorem idxOf_any {α : Type} (p : α → Bool) (xs : List α) : decide (0 ≤ idxOf p xs) = xs.any p := by
  unfold idxOf
  rw [Bool.eq_iff_iff, decide_eq_true_eq]
  cases e : xs.findIdx? p with
  | none =>
    rw [List.findIdx?_eq_none_iff] at e
    simp only [Int.reduceNeg, List.any_eq_true]
    constructor
    · intro h; omega
    · rintro ⟨x, hx, hp⟩; rw [e x hx] at hp; cases hp
  | some k =>
    obtain ⟨hk, he, _⟩ := List.findIdx?_eq_some_iff_getElem.1 e
    simp only [List.any_eq_true]
    exact ⟨fun _ => ⟨_, List.getElem_mem hk, he⟩, fun _ => by omega⟩

/-- A function with a body: a call of it enters it. -/
def IsFn (fn : Nat) : Prop := ∀ args W, (callFunc fn args).run Try.prog W = .ok (.enter fn args) W
theorem isFn_of {f : Nat} {fn : Func} (hf : Try.prog.funcs[f]? = some fn) (hn : (fn.name == "runtime.NumGoroutine") = false) (hb : fn.body.isNone = false) : IsFn f := fun args W => by
  have hn' : ¬ fn.name = "runtime.NumGoroutine" := by simpa using hn
  have hb' : ¬ fn.body = none := by
    intro e; rw [e] at hb; cases hb
  simp [callFunc, go_sem, hf]
  rw [if_neg hn', if_neg hb']

set_option maxHeartbeats 800000 in
set_option maxRecDepth 100000 in
theorem indexFuncInt (w : World) (F : Fp) (A : Option Addr) (c : Nat) (xs : List Int) (hl : xs.length ≤ 9223372036854775807) (h : Ty.i64.Row w F A xs) (fn : Nat) (cap : Array Value) (p : Int → Bool) (hfn : IsFn fn)
    (hf : ∀ W, Below w.heap.size w W → ∀ j (hj : j < xs.length), Calls Try.prog fn (#[.int .i64 xs[j]] ++ cap) W (fun e W' => e = .returned (.bool (p xs[j])) ∧ Below W.heap.size W W')) :
    Calls Try.prog 127 #[.slice A xs.length c, .func (.func fn) #[] cap] w fun e w' => e = .returned (.int .i64 (idxOf p xs)) ∧ Below w.heap.size w w' := by
  have HF := Lib.hid hf
  have HR := Lib.hid h
  have HC := Lib.hid hfn
  clear hf h hfn
  go_enter Try.func127, Try.ntmps127
  go_wp2
  go_loopw [8] (fun i wr => ∃ k : Nat, k ≤ xs.length ∧ i = .int .i64 k ∧ Hid (∀ j, (h : j < xs.length) → j < k → p xs[j] = false) ∧ Hid (Below w.heap.size w wr)) (fun i _ => xs.length - (intOf i).toNat)
  case atStart => exact ⟨0, Nat.zero_le _, rfl, fun j hj => by omega, Below.refl _ _⟩
  case round =>
    obtain ⟨k, hk, rfl, HA, HB⟩ := hrel
    by_cases hlt : k < xs.length
    · obtain ⟨ad, rfl, c0⟩ := Ty.int_at (Ty.Row_below HB.out HR.out) k hlt
      go_wp2_with fail
      rw [HC.out]
      go_wp2_with fail
      refine (HF.out _ HB.out k hlt).mono ?_
      rintro e w1 ⟨rfl, hb⟩
      have HB1 := Lib.hid (bl_trans HB.out hb)
      clear hb HB
      cases hp : p xs[k] with
      | true =>
        have HP := Lib.hid hp
        clear hp
        go_wp2
        go_ret
        exact ⟨by rw [idxOf_hit hlt (fun j h hj => HA.out j h hj) HP.out]; rfl, HB1.out⟩
      | false =>
        have HP := Lib.hid hp
        clear hp
        go_wp2
        go_roundw
        case rel => exact ⟨k + 1, by omega, by go_num, fun j h hj => by
          by_cases e : j = k
          · subst e; exact HP.out
          · exact HA.out j h (by omega), HB1.out⟩
        case measure => simp [intOf]; omega
    · go_wp2
      go_ret
      exact ⟨by rw [idxOf_miss (fun j h => HA.out j h (by omega))]; rfl, HB.out⟩

set_option maxHeartbeats 800000 in
set_option maxRecDepth 100000 in
theorem indexFuncStr (w : World) (F : Fp) (A : Option Addr) (c : Nat) (xs : List ByteArray) (hl : xs.length ≤ 9223372036854775807) (h : Ty.str.Row w F A xs) (fn : Nat) (cap : Array Value) (p : ByteArray → Bool) (hfn : IsFn fn)
    (hf : ∀ W, Below w.heap.size w W → ∀ j (hj : j < xs.length), Calls Try.prog fn (#[.string xs[j]] ++ cap) W (fun e W' => e = .returned (.bool (p xs[j])) ∧ Below W.heap.size W W')) :
    Calls Try.prog 128 #[.slice A xs.length c, .func (.func fn) #[] cap] w fun e w' => e = .returned (.int .i64 (idxOf p xs)) ∧ Below w.heap.size w w' := by
  have HF := Lib.hid hf
  have HR := Lib.hid h
  have HC := Lib.hid hfn
  clear hf h hfn
  go_enter Try.func128, Try.ntmps128
  go_wp2
  go_loopw [8] (fun i wr => ∃ k : Nat, k ≤ xs.length ∧ i = .int .i64 k ∧ Hid (∀ j, (h : j < xs.length) → j < k → p xs[j] = false) ∧ Hid (Below w.heap.size w wr)) (fun i _ => xs.length - (intOf i).toNat)
  case atStart => exact ⟨0, Nat.zero_le _, rfl, fun j hj => by omega, Below.refl _ _⟩
  case round =>
    obtain ⟨k, hk, rfl, HA, HB⟩ := hrel
    by_cases hlt : k < xs.length
    · obtain ⟨ad, rfl, c0⟩ := Ty.str_at (Ty.Row_below HB.out HR.out) k hlt
      go_wp2_with fail
      rw [HC.out]
      go_wp2_with fail
      refine (HF.out _ HB.out k hlt).mono ?_
      rintro e w1 ⟨rfl, hb⟩
      have HB1 := Lib.hid (bl_trans HB.out hb)
      clear hb HB
      cases hp : p xs[k] with
      | true =>
        have HP := Lib.hid hp
        clear hp
        go_wp2
        go_ret
        exact ⟨by rw [idxOf_hit hlt (fun j h hj => HA.out j h hj) HP.out]; rfl, HB1.out⟩
      | false =>
        have HP := Lib.hid hp
        clear hp
        go_wp2
        go_roundw
        case rel => exact ⟨k + 1, by omega, by go_num, fun j h hj => by
          by_cases e : j = k
          · subst e; exact HP.out
          · exact HA.out j h (by omega), HB1.out⟩
        case measure => simp [intOf]; omega
    · go_wp2
      go_ret
      exact ⟨by rw [idxOf_miss (fun j h => HA.out j h (by omega))]; rfl, HB.out⟩

set_option maxHeartbeats 800000 in
set_option maxRecDepth 100000 in
theorem indexFuncNode (w : World) (F : Fp) (A : Option Addr) (c : Nat) (xs : List NodeD) (hl : xs.length ≤ 9223372036854775807) (h : Ty.node.Row w F A xs) (fn : Nat) (cap : Array Value) (p : NodeD → Bool) (hfn : IsFn fn)
    (hf : ∀ W, Below w.heap.size w W → ∀ j (hj : j < xs.length) (cs : List Value), Ty.node.K W F xs[j] cs → Calls Try.prog fn (#[.agg cs.toArray] ++ cap) W (fun e W' => e = .returned (.bool (p xs[j])) ∧ Below W.heap.size W W')) :
    Calls Try.prog 115 #[.slice A xs.length c, .func (.func fn) #[] cap] w fun e w' => e = .returned (.int .i64 (idxOf p xs)) ∧ Below w.heap.size w w' := by
  have HF := Lib.hid hf
  have HR := Lib.hid h
  have HC := Lib.hid hfn
  clear hf h hfn
  go_enter Try.func115, Try.ntmps115
  go_wp2
  go_loopw [8] (fun i wr => ∃ k : Nat, k ≤ xs.length ∧ i = .int .i64 k ∧ Hid (∀ j, (h : j < xs.length) → j < k → p xs[j] = false) ∧ Hid (Below w.heap.size w wr)) (fun i _ => xs.length - (intOf i).toNat)
  case atStart => exact ⟨0, Nat.zero_le _, rfl, fun j hj => by omega, Below.refl _ _⟩
  case round =>
    obtain ⟨k, hk, rfl, HA, HB⟩ := hrel
    by_cases hlt : k < xs.length
    · obtain ⟨ad, A1, c1, A2, c2, A3, c3, rfl, d0, d1, d2, d3, d4, d5, d6, d7, hn⟩ := Ty.node_at (Ty.Row_below HB.out HR.out) k hlt
      go_wp2_with fail
      rw [HC.out]
      go_wp2_with fail
      refine (HF.out _ HB.out k hlt _ hn).mono ?_
      rintro e w1 ⟨rfl, hb⟩
      have HB1 := Lib.hid (bl_trans HB.out hb)
      clear hb HB
      cases hp : p xs[k] with
      | true =>
        have HP := Lib.hid hp
        clear hp
        go_wp2
        go_ret
        exact ⟨by rw [idxOf_hit hlt (fun j h hj => HA.out j h hj) HP.out]; rfl, HB1.out⟩
      | false =>
        have HP := Lib.hid hp
        clear hp
        go_wp2
        go_roundw
        case rel => exact ⟨k + 1, by omega, by go_num, fun j h hj => by
          by_cases e : j = k
          · subst e; exact HP.out
          · exact HA.out j h (by omega), HB1.out⟩
        case measure => simp [intOf]; omega
    · go_wp2
      go_ret
      exact ⟨by rw [idxOf_miss (fun j h => HA.out j h (by omega))]; rfl, HB.out⟩

set_option maxHeartbeats 400000 in
theorem containsFuncInt (w : World) (F : Fp) (A : Option Addr) (c : Nat) (xs : List Int) (hl : xs.length ≤ 9223372036854775807) (h : Ty.i64.Row w F A xs) (fn : Nat) (cap : Array Value) (p : Int → Bool) (hfn : IsFn fn)
    (hf : ∀ W, Below w.heap.size w W → ∀ j (hj : j < xs.length), Calls Try.prog fn (#[.int .i64 xs[j]] ++ cap) W (fun e W' => e = .returned (.bool (p xs[j])) ∧ Below W.heap.size W W')) :
    Calls Try.prog 117 #[.slice A xs.length c, .func (.func fn) #[] cap] w fun e w' => e = .returned (.bool (xs.any p)) ∧ Below w.heap.size w w' := by
  have H := Lib.hid (indexFuncInt w F A c xs hl h fn cap p hfn hf)
  clear hf h hfn
  go_enter Try.func117, Try.ntmps117
  go_wp2_with fail
  refine H.out.mono ?_
  rintro e w1 ⟨rfl, hb⟩
  have HB := Lib.hid hb
  clear hb
  go_wp2
  go_ret
  exact ⟨by rw [← idxOf_any]; rfl, HB.out⟩

set_option maxHeartbeats 400000 in
theorem containsFuncStr (w : World) (F : Fp) (A : Option Addr) (c : Nat) (xs : List ByteArray) (hl : xs.length ≤ 9223372036854775807) (h : Ty.str.Row w F A xs) (fn : Nat) (cap : Array Value) (p : ByteArray → Bool) (hfn : IsFn fn)
    (hf : ∀ W, Below w.heap.size w W → ∀ j (hj : j < xs.length), Calls Try.prog fn (#[.string xs[j]] ++ cap) W (fun e W' => e = .returned (.bool (p xs[j])) ∧ Below W.heap.size W W')) :
    Calls Try.prog 119 #[.slice A xs.length c, .func (.func fn) #[] cap] w fun e w' => e = .returned (.bool (xs.any p)) ∧ Below w.heap.size w w' := by
  have H := Lib.hid (indexFuncStr w F A c xs hl h fn cap p hfn hf)
  clear hf h hfn
  go_enter Try.func119, Try.ntmps119
  go_wp2_with fail
  refine H.out.mono ?_
  rintro e w1 ⟨rfl, hb⟩
  have HB := Lib.hid hb
  clear hb
  go_wp2
  go_ret
  exact ⟨by rw [← idxOf_any]; rfl, HB.out⟩

set_option maxHeartbeats 400000 in
theorem containsFuncNode (w : World) (F : Fp) (A : Option Addr) (c : Nat) (xs : List NodeD) (hl : xs.length ≤ 9223372036854775807) (h : Ty.node.Row w F A xs) (fn : Nat) (cap : Array Value) (p : NodeD → Bool) (hfn : IsFn fn)
    (hf : ∀ W, Below w.heap.size w W → ∀ j (hj : j < xs.length) (cs : List Value), Ty.node.K W F xs[j] cs → Calls Try.prog fn (#[.agg cs.toArray] ++ cap) W (fun e W' => e = .returned (.bool (p xs[j])) ∧ Below W.heap.size W W')) :
    Calls Try.prog 93 #[.slice A xs.length c, .func (.func fn) #[] cap] w fun e w' => e = .returned (.bool (xs.any p)) ∧ Below w.heap.size w w' := by
  have H := Lib.hid (indexFuncNode w F A c xs hl h fn cap p hfn hf)
  clear hf h hfn
  go_enter Try.func93, Try.ntmps93
  go_wp2_with fail
  refine H.out.mono ?_
  rintro e w1 ⟨rfl, hb⟩
  have HB := Lib.hid hb
  clear hb
  go_wp2
  go_ret
  exact ⟨by rw [← idxOf_any]; rfl, HB.out⟩

end Go.Proofs.Yticnbpefeoaamaa
