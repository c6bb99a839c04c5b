/- EvalNames (the second form): for every tree and every two lists of pairs, of bulk at most 1048576 together, the statement's function returns true and leaves what is handed in as it was: what the tree doesn't name plays no part. -/
import Derived.Test.YticnbpefeoaamaaTrU
import Derived.Test.YticnbpefeoaamaaTrT
import Derived.Test.YticnbpefeoaamaaRows
import Derived.ChangeOld
namespace Go.Proofs.Yticnbpefeoaamaa.evalNames
open Go.ChangeShapes Go.WideShapes Go.ChangeAt Go.RowKit
set_option linter.unusedVariables false

theorem own : ownKnob Try.prog.godebug = none := by kernel_rfl
theorem laidOut : laidOutB Try.prog = true := by kernel_rfl

theorem one_le {H : Type} (d : DataW H) : 1 ≤ Rows.uptoBulk d := by
  cases d with
  | lit l => cases l <;> simp [Rows.uptoBulk]
  | nil => simp [Rows.uptoBulk]
  | ptr d => simp [Rows.uptoBulk]
  | slice elems spare => simp [Rows.uptoBulk]
  | agg parts => simp [Rows.uptoBulk]
  | iface t d => simp [Rows.uptoBulk]
  | map entries => simp [Rows.uptoBulk]
  | held h => simp [Rows.uptoBulk]
theorem length_le {H : Type} (l : List (DataW H)) : l.length ≤ Rows.uptoBulkAll l := by
  induction l with
  | nil => simp [Rows.uptoBulkAll]
  | cons x r ih => have := one_le x; simp only [Rows.uptoBulkAll, List.length_cons]; omega
theorem elems_le {H : Type} {α : Type} {d : DataW H} {xs : List α} (h : xs = [] ∨ ∃ el rest, d = .slice el rest ∧ el.length = xs.length) : xs.length ≤ Rows.uptoBulk d := by
  rcases h with rfl | ⟨el, rest, rfl, hl⟩
  · exact Nat.zero_le _
  · have := length_le el
    simp only [Rows.uptoBulk]; omega

theorem agg_of {v : Value} {cs : List Value} (h : v.cells.toList = cs) (hl : cs.length ≠ 1) : v = .agg cs.toArray := by
  cases v with
  | agg c => rw [← h]; simp [Value.cells]
  | _ => rw [← h] at hl; exact absurd rfl hl

set_option maxRecDepth 100000 in
theorem contract (H : Type) (enc : TypeId × Value → H) (W : World) (base : Nat) (args : Array Value) (ds gs : List (DataW H)) (before : List MemPlace)
    (hval : ∀ (j : Nat) t v, Try.f4.params[j]? = some t → args[j]? = some v → Value.okWide Try.prog W .any base t v)
    (hW : DataW.Whole enc Try.prog Try.f4.params.toList Rows.evalNamesSpec.vars false W args.toList ds gs before) (hk : Rows.uptoSmall H (ds ++ gs) = true) :
    Calls Try.prog 4 args W fun e W' => ∃ v, e = .returned v ∧ Rows.evalNamesSpec.post enc Try.prog Try.f4 false true false false W args v W' := by
  have hW' := hW
  obtain ⟨p, q, hA0, hV, rfl, hfz, hnd⟩ := hW
  have hA : DataW.TrodAll enc Try.prog W 0 (fun _ => true) true Try.f4.params.toList args.toList ds p := hA0
  rw [Try.params4] at hA hval
  obtain ⟨v0, vs0, d0, ds0, p0, q0, hargs, rfl, rfl, h0, r0⟩ := trodAll_cons hA
  obtain ⟨v1, vs1, d1, ds1, p1, q1, rfl, rfl, rfl, h1, r1⟩ := trodAll_cons r0
  obtain ⟨v2, vs2, d2, ds2, p2, q2, rfl, rfl, rfl, h2, r2⟩ := trodAll_cons r1
  obtain ⟨rfl, rfl, rfl⟩ := trodAll_nil r2
  obtain rfl : args = #[v0, v1, v2] := by cases args; simp_all
  obtain ⟨rfl, rfl⟩ := trodVars_none hV
  have lt0 : ∀ x ∈ p0, x.block < W.heap.size := by obtain ⟨m, hm⟩ := h0; exact DataW.trod_lt m _ _ _ hm
  have lt1 : ∀ x ∈ p1, x.block < W.heap.size := by obtain ⟨m, hm⟩ := h1; exact DataW.trod_lt m _ _ _ hm
  have lt2 : ∀ x ∈ p2, x.block < W.heap.size := by obtain ⟨m, hm⟩ := h2; exact DataW.trod_lt m _ _ _ hm
  obtain ⟨a1, l1, c1, rfl⟩ := okWide_slice Try.underlying23 (hval 1 23 v1 rfl rfl)
  obtain ⟨a2, l2, c2, rfl⟩ := okWide_slice Try.underlying23 (hval 2 23 v2 rfl rfl)
  obtain ⟨n, k0⟩ : ∃ n, Ty.node.K W (fun _ => True) n v0.cells.toList := by obtain ⟨m, hm⟩ := h0; exact reads_node m _ _ hm
  have h8 : v0.cells.toList.length = 8 := Ty.node.len k0
  obtain ⟨cs0, hcs0, hv0⟩ : ∃ cs : List Value, v0.cells.toList = cs ∧ v0 = .agg cs.toArray := ⟨_, rfl, agg_of rfl (fun e => by rw [e] at h8; cases h8)⟩
  rw [hcs0] at k0
  subst hv0
  obtain ⟨ev, k1, e1, b1⟩ : ∃ ev, Ty.pr.Row W (fun _ => True) a1 ev ∧ l1 = ev.length ∧ ev.length ≤ Rows.uptoBulk d1 := by
    obtain ⟨m, hm⟩ := h1
    obtain ⟨xs, A, c, e, _, _, hr, hs⟩ := reads_slice (d := Ty.pr) Try.underlying23 cells46 (fun m cs x _ hm => reads_pair hm) hm
    simp only [Value.cells, List.cons.injEq, Value.slice.injEq, and_true] at e
    obtain ⟨rfl, rfl, rfl⟩ := e
    exact ⟨xs, hr, rfl, elems_le hs⟩
  obtain ⟨more, k2, e2, b2⟩ : ∃ ev, Ty.pr.Row W (fun _ => True) a2 ev ∧ l2 = ev.length ∧ ev.length ≤ Rows.uptoBulk d2 := by
    obtain ⟨m, hm⟩ := h2
    obtain ⟨xs, A, c, e, _, _, hr, hs⟩ := reads_slice (d := Ty.pr) Try.underlying23 cells46 (fun m cs x _ hm => reads_pair hm) hm
    simp only [Value.cells, List.cons.injEq, Value.slice.injEq, and_true] at e
    obtain ⟨rfl, rfl, rfl⟩ := e
    exact ⟨xs, hr, rfl, elems_le hs⟩
  subst e1 e2
  have hb : Rows.uptoBulkAll ([d0, d1, d2] ++ []) ≤ 1048576 := of_decide_eq_true hk
  simp only [List.append_nil, Rows.uptoBulkAll] at hb
  clear hA0 hval
  simp only [List.append_nil] at hW'
  refine (names_walk W n _ a1 a2 c1 c2 ev more k0 k1 k2 (by omega) (by omega)).mono fun e W' ⟨he, bel⟩ => ?_
  subst he
  exact ⟨_, rfl, _, _, _, [], _, [], hW', trodAll_mk1 (shut_bool Try.underlying4 _), trodAll_cons_mk (Below.trod laidOut (by kernel_rfl) (of_decide_eq_true (by kernel_rfl)) h0 bel lt0) (trodAll_cons_mk (Below.trod laidOut (by kernel_rfl) (of_decide_eq_true (by kernel_rfl)) h1 bel lt1)
    (trodAll_cons_mk (Below.trod laidOut (by kernel_rfl) (of_decide_eq_true (by kernel_rfl)) h2 bel lt2) trodAll_mk0)), rfl, bel.frame _, fun h => by cases h⟩

set_option maxRecDepth 100000 in
theorem lifted (os : Os) (started : os.Started) (H : Type) (enc : TypeId × Value → H) (F : Stop.Interp) :
    ReturnsInHanded {} Try.checked os 4 .any ((Rows.OpenSpec.upto Rows.evalNamesSpec).pre6 enc Try.prog Try.f4 Rows.evalNamesUptoRow.domain false) (((Rows.OpenSpec.upto Rows.evalNamesSpec).at F).post enc Try.prog Try.f4 false true false false) := by
  refine returnsInHanded_of_cond (C := Try.checked) (s := Rows.OpenSpec.upto Rows.evalNamesSpec) (k := Rows.uptoSmall) rfl own started (by kernel_rfl) Try.func4
    (OpenSpec.witness (enc := enc) (C := Try.checked) (s := Rows.OpenSpec.upto Rows.evalNamesSpec) (k := Rows.uptoSmall) rfl false ⟨#[], #[.agg #[.int .i64 0, .string .empty, .slice none 0 0, .slice none 0 0, .int .i64 0, .int .i64 0, .int .i64 0, .slice none 0 0], .slice none 0 0, .slice none 0 0], []⟩ 8 (by kernel_rfl) (by kernel_rfl) (by kernel_rfl)
      (x := ([.agg [.agg [.lit (.int .i64 0), .lit (.string []), .nil, .nil, .lit (.int .i64 0), .lit (.int .i64 0)], .lit (.int .i64 0), .nil], .nil, .nil], [], [])) (by kernel_rfl) rfl (by kernel_rfl)) ?_
  intro W base args ds gs before hval hW _ hk _
  exact contract H enc W base args ds gs before hval hW hk

theorem proved : Rows.EvalNamesUptoSaid :=
  OpenClaim.holds_of_cond 4 Try.f4 rfl rfl rfl rfl rfl rfl rfl ⟨rfl, rfl, rfl, rfl, rfl⟩ rfl rfl rfl rfl rfl (by kernel_rfl) Try.func4 (by kernel_rfl)
    (of_decide_eq_true (by kernel_rfl)) (by unfold Func.isWrapper; first | (rw [if_pos (by decide +kernel)]; kernel_rfl) | (rw [if_neg (by decide +kernel)]; exact ⟨rfl, rfl⟩))
    (fun os started H enc _ F => lifted os started H enc F)
#print axioms proved
end Go.Proofs.Yticnbpefeoaamaa.evalNames
namespace Go.Proofs.Yticnbpefeoaamaa
theorem evalNames_upto : Rows.EvalNamesUptoSaid := evalNames.proved
end Go.Proofs.Yticnbpefeoaamaa
