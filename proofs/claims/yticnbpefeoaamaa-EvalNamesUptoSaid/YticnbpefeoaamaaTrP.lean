/- Trees, plainly: in form, their truth. No program in sight. -/
import Derived.Test.YticnbpefeoaamaaTrL
namespace Go.Proofs.Yticnbpefeoaamaa

theorem NodeD.ind {P : NodeD → Prop} (h : ∀ p op kids, (∀ j, (hj : j < kids.length) → P kids[j]) → P (.mk p op kids)) : ∀ n, P n
  | .mk p op kids => h p op kids (fun j hj => NodeD.ind h kids[j])
termination_by n => SizeOf.sizeOf n
decreasing_by
  have := List.sizeOf_lt_of_mem (List.getElem_mem hj)
  simp only [NodeD.mk.sizeOf_spec]
  omega

mutual
def check : NodeD → Bool
  | .mk p op kids => if op = 1 then predOk p && kids.isEmpty
    else if op = 2 then zeroPred p && kids.length == 1 && (checks kids).all id
    else if op = 3 ∨ op = 4 then zeroPred p && decide (1 < kids.length) && (checks kids).all id
    else false
def checks : List NodeD → List Bool
  | [] => []
  | n :: ns => check n :: checks ns
end
theorem checks_map : ∀ l, checks l = l.map check
  | [] => by simp [checks]
  | n :: ns => by simp [checks, checks_map ns]
theorem check_eq (p : PredD) (op : Int) (kids : List NodeD) : check (.mk p op kids) = if op = 1 then predOk p && kids.isEmpty
    else if op = 2 then zeroPred p && kids.length == 1 && kids.all check
    else if op = 3 ∨ op = 4 then zeroPred p && decide (1 < kids.length) && kids.all check
    else false := by
  rw [check, checks_map, List.all_map]; rfl

mutual
def truth (ev : List PairD) : NodeD → Bool
  | .mk p op kids => if op = 2 then !((truths ev kids).headD false)
    else if op = 3 then (truths ev kids).all id
    else if op = 4 then (truths ev kids).any id
    else holds p ev
def truths (ev : List PairD) : List NodeD → List Bool
  | [] => []
  | n :: ns => truth ev n :: truths ev ns
end
theorem truths_map (ev : List PairD) : ∀ l, truths ev l = l.map (truth ev)
  | [] => by simp [truths]
  | n :: ns => by simp [truths, truths_map ev ns]
theorem truth_pred (ev : List PairD) (p : PredD) (op : Int) (kids : List NodeD) (h2 : op ≠ 2) (h3 : op ≠ 3) (h4 : op ≠ 4) : truth ev (.mk p op kids) = holds p ev := by
  rw [truth, if_neg h2, if_neg h3, if_neg h4]
theorem truth_not (ev : List PairD) (p : PredD) (k : NodeD) (ks : List NodeD) : truth ev (.mk p 2 (k :: ks)) = !truth ev k := by
  rw [truth, if_pos rfl, truths_map]; rfl
theorem truth_and (ev : List PairD) (p : PredD) (kids : List NodeD) : truth ev (.mk p 3 kids) = kids.all (truth ev) := by
  rw [truth, if_neg (by decide), if_pos rfl, truths_map, List.all_map]; rfl
theorem truth_or (ev : List PairD) (p : PredD) (kids : List NodeD) : truth ev (.mk p 4 kids) = kids.any (truth ev) := by
  rw [truth, if_neg (by decide), if_neg (by decide), if_pos rfl, truths_map, List.any_map]; rfl
/-- What an event makes of a tree. -/
def eval (n : NodeD) (ev : List PairD) : Bool := check n && truth ev n

theorem check_op {p : PredD} {op : Int} {kids : List NodeD} (h : check (.mk p op kids) = true) :
    (op = 1 ∧ predOk p = true ∧ kids = []) ∨ (op = 2 ∧ zeroPred p = true ∧ ∃ k, kids = [k] ∧ check k = true) ∨ ((op = 3 ∨ op = 4) ∧ zeroPred p = true ∧ 1 < kids.length ∧ ∀ j, (hj : j < kids.length) → check kids[j] = true) := by
  rw [check_eq] at h
  split at h
  · simp only [Bool.and_eq_true, List.isEmpty_iff] at h
    exact .inl ⟨by assumption, h.1, h.2⟩
  · split at h
    · simp only [Bool.and_eq_true, beq_iff_eq] at h
      obtain ⟨⟨h1, h2⟩, h3⟩ := h
      obtain ⟨k, rfl⟩ := List.length_eq_one_iff.1 h2
      exact .inr (.inl ⟨by assumption, h1, k, rfl, by simpa using h3⟩)
    · split at h
      · simp only [Bool.and_eq_true, decide_eq_true_eq, List.all_eq_true] at h
        exact .inr (.inr ⟨by assumption, h.1.1, h.1.2, fun j hj => h.2 _ (List.getElem_mem hj)⟩)
      · cases h
end Go.Proofs.Yticnbpefeoaamaa
