/- Contracts of the leaves: values, names, events. -/
import Derived.Test.YticnbpefeoaamaaTrB
import Derived.Test.YticnbpefeoaamaaProg
namespace Go.Proofs.Yticnbpefeoaamaa
open Go.RowKit
set_option linter.unusedSimpArgs false
set_option linter.unusedVariables false

def errno (b : Bool) : Int := if b then 0 else 1
def valOk (v : ValD) : Bool := (v.kind == 1 && decide (-2147483648 ≤ v.int) && decide (v.int ≤ 2147483647) && v.word.toList.isEmpty) || (v.kind == 2 && v.int == 0 && decide ((v.word.size : Int) ≤ 64))

theorem below1 (w : World) (o : Obj) : Below w.heap.size w (w.alloc o) := (Below.refl _ _).alloc (Nat.le_refl _) o

set_option maxHeartbeats 400000 in
theorem valueCheck (v : ValD) (w : World) : Calls Try.prog 64 #[.agg #[.int .i64 v.kind, .int .i64 v.int, .string v.word]] w fun e w' => e = .returned (.int .i64 (errno (valOk v))) ∧ Below w.heap.size w w' := by
  go_enter Try.func64, Try.ntmps64
  go_wp2
  all_goals
    go_ret
    refine ⟨?_, below1 _ _⟩
    simp_all [errno, valOk] <;> omega
set_option maxHeartbeats 400000 in
theorem refValueCheck (v : ValD) (w : World) : Calls Try.prog 68 #[.agg #[.int .i64 v.kind, .int .i64 v.int, .string v.word]] w fun e w' => e = .returned (.int .i64 (errno (valOk v))) ∧ Below w.heap.size w w' := by
  go_enter Try.func68, Try.ntmps68
  go_wp2
  all_goals
    go_ret
    refine ⟨?_, below1 _ _⟩
    simp_all [errno, valOk] <;> omega

def lower (c : Int) : Bool := decide (97 ≤ c) && decide (c ≤ 122)
theorem letter_calls (c : Int) (w : World) : Calls Try.prog 116 #[.int .u8 c] w fun e w' => e = .returned (.bool (lower c)) ∧ w = w' := by
  go_enter Try.func116, Try.ntmps116
  go_wp2
  all_goals
    go_ret
    refine ⟨?_, rfl⟩
    simp_all [lower] <;> omega

/-- Byte j of a text. -/
def bt (s : ByteArray) (j : Nat) : Int := if h : j < s.size then (s[j].toNat : Int) else 0
theorem bt_eq (s : ByteArray) (j : Nat) (h : j < s.size) : (s[j].toNat : Int) = bt s j := by simp [bt, h]
def nameChar (c : Int) : Bool := lower c || (decide (48 ≤ c) && decide (c ≤ 57)) || c == 95
def nameOk (s : ByteArray) : Bool := decide (0 < s.size ∧ s.size ≤ 32 ∧ lower (bt s 0) = true ∧ ∀ j, j < s.size → nameChar (bt s j) = true)

theorem ba_empty {s : ByteArray} (h : s.size = 0) : s = ⟨#[]⟩ := by
  obtain ⟨a⟩ := s
  have : a.size = 0 := h
  rw [Array.size_eq_zero_iff] at this
  rw [this]
theorem ba_isEmpty {s : ByteArray} (h : 0 < s.size) : s.toList.isEmpty = false := by
  rw [ByteArray.toList_eq, List.isEmpty_eq_false_iff]
  intro e
  have : s.data.size = 0 := by rw [← Array.length_toList, e]; rfl
  have h' : 0 < s.data.size := h
  omega

theorem names_snoc {s : ByteArray} {k : Nat} (h : Hid (∀ j, j < k → nameChar (bt s j) = true)) (hk : nameChar (bt s k) = true) : Hid (∀ j, j < k + 1 → nameChar (bt s j) = true) := fun j hj => by
  by_cases e : j = k
  · rw [e]; exact hk
  · exact h.out j (by omega)
theorem nameOk_no {s : ByteArray} {k : Nat} (h : k < s.size) (hk : nameChar (bt s k) = false) : nameOk s = false := by
  simp only [nameOk, decide_eq_false_iff_not]
  intro ⟨_, _, _, h'⟩
  rw [h' k h] at hk; cases hk
theorem nameOk_yes {s : ByteArray} {k : Nat} (h0 : 0 < s.size) (h32 : ¬ 32 < s.size) (hl : lower (bt s 0) = true) (hk : ¬ k < s.size) (h : Hid (∀ j, j < k → nameChar (bt s j) = true)) : nameOk s = true := by
  simp only [nameOk, decide_eq_true_eq]
  exact ⟨h0, by omega, hl, fun j hj => h.out j (by omega)⟩

set_option maxHeartbeats 800000 in
theorem name_calls (s : ByteArray) (w : World) : Calls Try.prog 95 #[.string s] w fun e w' => e = .returned (.bool (nameOk s)) ∧ w = w' := by
  by_cases h0 : s.size = 0
  · obtain rfl := ba_empty h0
    go_enter Try.func95, Try.ntmps95
    go_wp2
    go_ret
    exact ⟨rfl, rfl⟩
  have hp : 0 < s.size := by omega
  have hs0 := ba_isEmpty hp
  by_cases h32 : 32 < s.size
  · have hf : nameOk s = false := by simp [nameOk]; omega
    rw [hf]
    go_enter Try.func95, Try.ntmps95
    go_wp2_with fail
    go_ret
    exact ⟨rfl, rfl⟩
  cases hl : lower (bt s 0) with
  | false =>
    have hf : nameOk s = false := by simp [nameOk, hl]
    rw [hf]
    have H := Lib.hid hl
    clear hl hf
    go_enter Try.func95, Try.ntmps95
    go_wp2_with fail
    refine (letter_calls _ _).mono ?_
    rintro e w' ⟨rfl, rfl⟩
    rw [bt_eq s 0 hp, H.out]
    go_wp2
    go_ret
    exact ⟨rfl, rfl⟩
  | true =>
    have H := Lib.hid hl
    clear hl
    go_enter Try.func95, Try.ntmps95
    go_wp2_with fail
    refine (letter_calls _ _).mono ?_
    rintro e w' ⟨rfl, rfl⟩
    rw [bt_eq s 0 hp, H.out]
    go_wp2
    go_loop [20] (fun i => ∃ k : Nat, k ≤ s.size ∧ i = .int .i64 k ∧ Hid (∀ j, j < k → nameChar (bt s j) = true)) (fun i => s.size - (intOf i).toNat)
    case atStart => exact ⟨0, Nat.zero_le _, rfl, fun j hj => by omega⟩
    case round =>
      obtain ⟨k, hk, rfl, HA⟩ := hrel
      by_cases hlt : k < s.size
      · go_wp2_with fail
        refine (letter_calls _ _).mono ?_
        rintro e w' ⟨rfl, rfl⟩
        rw [bt_eq s k hlt]
        go_wp2
        all_goals first
          | (refine ⟨⟨k + 1, by omega, by go_num, names_snoc HA ?_⟩, by simp [intOf]; omega⟩
             clear HA H
             simp_all [nameChar] <;> omega)
          | (go_ret
             refine ⟨?_, rfl⟩
             have hz := nameOk_no hlt (by clear HA H; simp_all [nameChar] <;> omega)
             rw [hz]; rfl)
      · go_wp2
        go_ret
        refine ⟨?_, rfl⟩
        have hz := nameOk_yes hp h32 H.out hlt HA
        rw [hz]; rfl

theorem names0 {s : ByteArray} (h : lower (bt s 0) = true) : Hid (∀ j, j < 1 → nameChar (bt s j) = true ∧ (j = 0 → lower (bt s 0) = true)) := fun j hj => by
  obtain rfl : j = 0 := by omega
  exact ⟨by simp [nameChar, h], fun _ => h⟩
theorem nameOk_no0 {s : ByteArray} (h : lower (bt s 0) = false) : nameOk s = false := by
  simp only [nameOk, decide_eq_false_iff_not]
  intro ⟨_, _, h', _⟩
  rw [h'] at h; cases h
theorem names_snoc2 {s : ByteArray} {k : Nat} (h : Hid (∀ j, j < k → nameChar (bt s j) = true ∧ (j = 0 → lower (bt s 0) = true))) (h0 : 0 < k) (hk : nameChar (bt s k) = true) : Hid (∀ j, j < k + 1 → nameChar (bt s j) = true ∧ (j = 0 → lower (bt s 0) = true)) := fun j hj => by
  by_cases e : j = k
  · rw [e]; exact ⟨hk, fun h => by omega⟩
  · exact h.out j (by omega)
set_option maxHeartbeats 800000 in
theorem refName_calls (s : ByteArray) (w : World) : Calls Try.prog 103 #[.string s] w fun e w' => e = .returned (.bool (nameOk s)) ∧ w = w' := by
  by_cases h0 : s.size = 0
  · obtain rfl := ba_empty h0
    go_enter Try.func103, Try.ntmps103
    go_wp2
    go_ret
    exact ⟨rfl, rfl⟩
  have hp : 0 < s.size := by omega
  have hs0 := ba_isEmpty hp
  by_cases h32 : 32 < s.size
  · have hf : nameOk s = false := by simp [nameOk]; omega
    rw [hf]
    go_enter Try.func103, Try.ntmps103
    go_wp2_with fail
    go_ret
    exact ⟨rfl, rfl⟩
  go_enter Try.func103, Try.ntmps103
  go_wp2_with fail
  go_loop [3] (fun i => ∃ k : Nat, k ≤ s.size ∧ i = .int .i64 k ∧ Hid (∀ j, j < k → nameChar (bt s j) = true ∧ (j = 0 → lower (bt s 0) = true))) (fun i => s.size - (intOf i).toNat)
  case atStart => exact ⟨0, Nat.zero_le _, rfl, fun j hj => by omega⟩
  case round =>
    obtain ⟨k, hk, rfl, HA⟩ := hrel
    by_cases hlt : k < s.size
    · have hb := bt_eq s k hlt
      by_cases hk0 : k = 0
      · subst hk0
        go_wp2
        all_goals first
          | (refine ⟨⟨1, by omega, by go_num, names0 (by clear HA; simp_all [lower] <;> omega)⟩, by simp [intOf]; omega⟩)
          | (go_ret
             refine ⟨?_, rfl⟩
             have hz := nameOk_no0 (s := s) (by clear HA; simp_all [lower] <;> omega)
             rw [hz]; rfl)
      · have hk1 : ((k : Int) == 0) = false := by simpa using hk0
        go_wp2
        all_goals first
          | (refine ⟨⟨k + 1, by omega, by go_num, names_snoc2 HA (by omega) (by clear HA; simp_all [nameChar, lower] <;> omega)⟩, by simp [intOf]; omega⟩)
          | (go_ret
             refine ⟨?_, rfl⟩
             have hz := nameOk_no hlt (by clear HA; simp_all [nameChar, lower] <;> omega)
             rw [hz]; rfl)
    · go_wp2
      go_ret
      refine ⟨?_, rfl⟩
      have : nameOk s = true := by
        simp only [nameOk, decide_eq_true_eq]
        exact ⟨hp, by omega, (HA.out 0 (by omega)).2 rfl, fun j hj => (HA.out j (by omega)).1⟩
      rw [this]; rfl
end Go.Proofs.Yticnbpefeoaamaa
