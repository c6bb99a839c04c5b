/-
  NARROWER THAN 'FOR EVERY INPUT', by the rows' own cells (each row's printed sentence says how): EvalPlays: loops · EvalNames: loops · EvalRules: loops · PushPlays: loops · PushWidths: loops · PushOwns: loops · PushLeaves: loops · PushMeans: loops.
  DERIVED. THE GIVEN ROWS OF THIS SEAT. 10 by the template 'for every input the law returns true; each argument reads behind the call as it read before'; 0 by the template 'total and deterministic' (their statements: YticnbpefeoaamaaTotals.lean).
  GIVEN WITH THE SEED: the statements are not yours to turn. If you find one false, say at which input.
  Laid BY PROGRAM, IN A SANDBOX (cutbox-rows.mjs): the forced cells as the released guide's own fill.sh prints them over the translation 4e7b59a646465854… (all of the seat's roots in one cut). By AI agents, Wed Nov 11 2026. No macro, syntax, notation, axiom, sorry.
-/
import Derived.Test.YticnbpefeoaamaaChecked
import GoSem.Claim
import GoSem.ClaimJoined
import GoSem.ClaimMapViews
import Derived.JoinedTies
import Derived.KernelRfl
namespace Go.Proofs.Yticnbpefeoaamaa
/- THE CELL 'sum', in the pinned program and in every row, IS THE sha256 OF THE DUMP (.gsa) THAT YticnbpefeoaamaaProg.lean LOADS. Nothing in Lean hashes anything: it is a label: what it is worth is what the hold of that sum in a sandbox is worth. -/
noncomputable def Try.pinned : Pinned := { name := "yticnbpefeoaamaa", sum := "4e7b59a646465854a5893eaa6c1bbc7cdc78fe9bcf8b254ea2c6cb5404d91fc4", checked := Try.checked }
namespace Rows
def none {H : Type} : Left H := { results := [], args := [] }

/-- 'trommellaw06.EvalPlays': WHATEVER THE INPUT: true; the input reads as it did. -/
def evalPlaysSpec : ChangeSpec := { name := "evalPlays", fn := fun _ => fun
  | [d1, d2] => { results := [.lit (.bool true)], args := [d1, d2] }
  | _ => none }
def evalPlaysRow : OpenClaim := { program := "yticnbpefeoaamaa", sum := "4e7b59a646465854a5893eaa6c1bbc7cdc78fe9bcf8b254ea2c6cb5404d91fc4", func := "trommel/trommellaw06.EvalPlays", spec := "evalPlays", unfollowed := true, recurses := true, loops := true, apart := false }
def EvalPlaysSaid : Prop := evalPlaysRow.holds Try.pinned (OpenSpec.ofChange evalPlaysSpec)

/-- ITS FALSE NEIGHBOUR: 'it returns false'. Refute it at one input. -/
def evalPlaysWrong : ChangeSpec := { name := "evalPlays", fn := fun _ => fun
  | [d1, d2] => { results := [.lit (.bool false)], args := [d1, d2] }
  | _ => none }
def EvalPlaysWrongFalsely : Prop := evalPlaysRow.holds Try.pinned (OpenSpec.ofChange evalPlaysWrong)

/-- 'trommellaw06.EvalNames': WHATEVER THE INPUT: true; the input reads as it did. -/
def evalNamesSpec : ChangeSpec := { name := "evalNames", fn := fun _ => fun
  | [d1, d2, d3] => { results := [.lit (.bool true)], args := [d1, d2, d3] }
  | _ => none }
def evalNamesRow : OpenClaim := { program := "yticnbpefeoaamaa", sum := "4e7b59a646465854a5893eaa6c1bbc7cdc78fe9bcf8b254ea2c6cb5404d91fc4", func := "trommel/trommellaw06.EvalNames", spec := "evalNames", unfollowed := true, recurses := true, loops := true, apart := false }
def EvalNamesSaid : Prop := evalNamesRow.holds Try.pinned (OpenSpec.ofChange evalNamesSpec)

/-- ITS FALSE NEIGHBOUR: 'it returns false'. Refute it at one input. -/
def evalNamesWrong : ChangeSpec := { name := "evalNames", fn := fun _ => fun
  | [d1, d2, d3] => { results := [.lit (.bool false)], args := [d1, d2, d3] }
  | _ => none }
def EvalNamesWrongFalsely : Prop := evalNamesRow.holds Try.pinned (OpenSpec.ofChange evalNamesWrong)

/-- 'trommellaw06.EvalRules': WHATEVER THE INPUT: true; the input reads as it did. -/
def evalRulesSpec : ChangeSpec := { name := "evalRules", fn := fun _ => fun
  | [d1, d2, d3, d4] => { results := [.lit (.bool true)], args := [d1, d2, d3, d4] }
  | _ => none }
def evalRulesRow : OpenClaim := { program := "yticnbpefeoaamaa", sum := "4e7b59a646465854a5893eaa6c1bbc7cdc78fe9bcf8b254ea2c6cb5404d91fc4", func := "trommel/trommellaw06.EvalRules", spec := "evalRules", unfollowed := true, recurses := true, loops := true, apart := false }
def EvalRulesSaid : Prop := evalRulesRow.holds Try.pinned (OpenSpec.ofChange evalRulesSpec)

/-- ITS FALSE NEIGHBOUR: 'it returns false'. Refute it at one input. -/
def evalRulesWrong : ChangeSpec := { name := "evalRules", fn := fun _ => fun
  | [d1, d2, d3, d4] => { results := [.lit (.bool false)], args := [d1, d2, d3, d4] }
  | _ => none }
def EvalRulesWrongFalsely : Prop := evalRulesRow.holds Try.pinned (OpenSpec.ofChange evalRulesWrong)

/-- 'trommellaw06.EvalMembers': WHATEVER THE INPUT: true; the input reads as it did. -/
def evalMembersSpec : ChangeSpec := { name := "evalMembers", fn := fun _ => fun
  | [d1, d2, d3, d4] => { results := [.lit (.bool true)], args := [d1, d2, d3, d4] }
  | _ => none }
def evalMembersRow : OpenClaim := { program := "yticnbpefeoaamaa", sum := "4e7b59a646465854a5893eaa6c1bbc7cdc78fe9bcf8b254ea2c6cb5404d91fc4", func := "trommel/trommellaw06.EvalMembers", spec := "evalMembers", unfollowed := true, recurses := true, apart := false }
def EvalMembersSaid : Prop := evalMembersRow.holds Try.pinned (OpenSpec.ofChange evalMembersSpec)

/-- ITS FALSE NEIGHBOUR: 'it returns false'. Refute it at one input. -/
def evalMembersWrong : ChangeSpec := { name := "evalMembers", fn := fun _ => fun
  | [d1, d2, d3, d4] => { results := [.lit (.bool false)], args := [d1, d2, d3, d4] }
  | _ => none }
def EvalMembersWrongFalsely : Prop := evalMembersRow.holds Try.pinned (OpenSpec.ofChange evalMembersWrong)

/-- 'trommellaw07.PushPlays': WHATEVER THE INPUT: true; the input reads as it did. -/
def pushPlaysSpec : ChangeSpec := { name := "pushPlays", fn := fun _ => fun
  | [d1, d2] => { results := [.lit (.bool true)], args := [d1, d2] }
  | _ => none }
def pushPlaysRow : OpenClaim := { program := "yticnbpefeoaamaa", sum := "4e7b59a646465854a5893eaa6c1bbc7cdc78fe9bcf8b254ea2c6cb5404d91fc4", func := "trommel/trommellaw07.PushPlays", spec := "pushPlays", unfollowed := true, recurses := true, loops := true, apart := false }
def PushPlaysSaid : Prop := pushPlaysRow.holds Try.pinned (OpenSpec.ofChange pushPlaysSpec)

/-- ITS FALSE NEIGHBOUR: 'it returns false'. Refute it at one input. -/
def pushPlaysWrong : ChangeSpec := { name := "pushPlays", fn := fun _ => fun
  | [d1, d2] => { results := [.lit (.bool false)], args := [d1, d2] }
  | _ => none }
def PushPlaysWrongFalsely : Prop := pushPlaysRow.holds Try.pinned (OpenSpec.ofChange pushPlaysWrong)

/-- 'trommellaw07.PushSums': WHATEVER THE INPUT: true; the input reads as it did. -/
def pushSumsSpec : ChangeSpec := { name := "pushSums", fn := fun _ => fun
  | [d1, d2] => { results := [.lit (.bool true)], args := [d1, d2] }
  | _ => none }
def pushSumsRow : OpenClaim := { program := "yticnbpefeoaamaa", sum := "4e7b59a646465854a5893eaa6c1bbc7cdc78fe9bcf8b254ea2c6cb5404d91fc4", func := "trommel/trommellaw07.PushSums", spec := "pushSums", unfollowed := true, recurses := true, apart := false }
def PushSumsSaid : Prop := pushSumsRow.holds Try.pinned (OpenSpec.ofChange pushSumsSpec)

/-- ITS FALSE NEIGHBOUR: 'it returns false'. Refute it at one input. -/
def pushSumsWrong : ChangeSpec := { name := "pushSums", fn := fun _ => fun
  | [d1, d2] => { results := [.lit (.bool false)], args := [d1, d2] }
  | _ => none }
def PushSumsWrongFalsely : Prop := pushSumsRow.holds Try.pinned (OpenSpec.ofChange pushSumsWrong)

/-- 'trommellaw07.PushWidths': WHATEVER THE INPUT: true; the input reads as it did. -/
def pushWidthsSpec : ChangeSpec := { name := "pushWidths", fn := fun _ => fun
  | [d1, d2, d3] => { results := [.lit (.bool true)], args := [d1, d2, d3] }
  | _ => none }
def pushWidthsRow : OpenClaim := { program := "yticnbpefeoaamaa", sum := "4e7b59a646465854a5893eaa6c1bbc7cdc78fe9bcf8b254ea2c6cb5404d91fc4", func := "trommel/trommellaw07.PushWidths", spec := "pushWidths", unfollowed := true, recurses := true, loops := true, apart := false }
def PushWidthsSaid : Prop := pushWidthsRow.holds Try.pinned (OpenSpec.ofChange pushWidthsSpec)

/-- ITS FALSE NEIGHBOUR: 'it returns false'. Refute it at one input. -/
def pushWidthsWrong : ChangeSpec := { name := "pushWidths", fn := fun _ => fun
  | [d1, d2, d3] => { results := [.lit (.bool false)], args := [d1, d2, d3] }
  | _ => none }
def PushWidthsWrongFalsely : Prop := pushWidthsRow.holds Try.pinned (OpenSpec.ofChange pushWidthsWrong)

/-- 'trommellaw07.PushOwns': WHATEVER THE INPUT: true; the input reads as it did. -/
def pushOwnsSpec : ChangeSpec := { name := "pushOwns", fn := fun _ => fun
  | [d] => { results := [.lit (.bool true)], args := [d] }
  | _ => none }
def pushOwnsRow : OpenClaim := { program := "yticnbpefeoaamaa", sum := "4e7b59a646465854a5893eaa6c1bbc7cdc78fe9bcf8b254ea2c6cb5404d91fc4", func := "trommel/trommellaw07.PushOwns", spec := "pushOwns", unfollowed := true, recurses := true, loops := true, apart := false }
def PushOwnsSaid : Prop := pushOwnsRow.holds Try.pinned (OpenSpec.ofChange pushOwnsSpec)

/-- ITS FALSE NEIGHBOUR: 'it returns false'. Refute it at one input. -/
def pushOwnsWrong : ChangeSpec := { name := "pushOwns", fn := fun _ => fun
  | [d] => { results := [.lit (.bool false)], args := [d] }
  | _ => none }
def PushOwnsWrongFalsely : Prop := pushOwnsRow.holds Try.pinned (OpenSpec.ofChange pushOwnsWrong)

/-- 'trommellaw07.PushLeaves': WHATEVER THE INPUT: true; the input reads as it did. -/
def pushLeavesSpec : ChangeSpec := { name := "pushLeaves", fn := fun _ => fun
  | [d] => { results := [.lit (.bool true)], args := [d] }
  | _ => none }
def pushLeavesRow : OpenClaim := { program := "yticnbpefeoaamaa", sum := "4e7b59a646465854a5893eaa6c1bbc7cdc78fe9bcf8b254ea2c6cb5404d91fc4", func := "trommel/trommellaw07.PushLeaves", spec := "pushLeaves", unfollowed := true, recurses := true, loops := true, apart := false }
def PushLeavesSaid : Prop := pushLeavesRow.holds Try.pinned (OpenSpec.ofChange pushLeavesSpec)

/-- ITS FALSE NEIGHBOUR: 'it returns false'. Refute it at one input. -/
def pushLeavesWrong : ChangeSpec := { name := "pushLeaves", fn := fun _ => fun
  | [d] => { results := [.lit (.bool false)], args := [d] }
  | _ => none }
def PushLeavesWrongFalsely : Prop := pushLeavesRow.holds Try.pinned (OpenSpec.ofChange pushLeavesWrong)

/-- 'trommellaw07.PushMeans': WHATEVER THE INPUT: true; the input reads as it did. -/
def pushMeansSpec : ChangeSpec := { name := "pushMeans", fn := fun _ => fun
  | [d1, d2] => { results := [.lit (.bool true)], args := [d1, d2] }
  | _ => none }
def pushMeansRow : OpenClaim := { program := "yticnbpefeoaamaa", sum := "4e7b59a646465854a5893eaa6c1bbc7cdc78fe9bcf8b254ea2c6cb5404d91fc4", func := "trommel/trommellaw07.PushMeans", spec := "pushMeans", unfollowed := true, recurses := true, loops := true, apart := false }
def PushMeansSaid : Prop := pushMeansRow.holds Try.pinned (OpenSpec.ofChange pushMeansSpec)

/-- ITS FALSE NEIGHBOUR: 'it returns false'. Refute it at one input. -/
def pushMeansWrong : ChangeSpec := { name := "pushMeans", fn := fun _ => fun
  | [d1, d2] => { results := [.lit (.bool false)], args := [d1, d2] }
  | _ => none }
def PushMeansWrongFalsely : Prop := pushMeansRow.holds Try.pinned (OpenSpec.ofChange pushMeansWrong)

/- THE SECOND FORM. 'bulk': how many values and letters a reading holds, each counted each time it is reached (what is shared counts as often as it is met; a slice's spare places count too). A statement '..UptoSaid' is the law's where the arguments, and the package variables that the reading takes, are together of bulk at most 1048576: NARROWER than '..Said'. Prove '..Said' where nothing that the law and all that it calls make is longer than what came in: it says more and counts as full. Else prove '..UptoSaid'. A law counts once. -/
mutual
def uptoBulk {H : Type} : DataW H → Nat
  | .lit (.string bytes) => bytes.length + 1
  | .lit _ => 1
  | .nil => 1
  | .ptr d => uptoBulk d + 1
  | .slice elems spare => uptoBulkAll elems + uptoBulkAll spare + 1
  | .agg parts => uptoBulkAll parts + 1
  | .iface _ d => uptoBulk d + 1
  | .map entries => uptoBulkEntries entries + 1
  | .held _ => 1
def uptoBulkAll {H : Type} : List (DataW H) → Nat
  | [] => 0
  | d :: r => uptoBulk d + uptoBulkAll r
def uptoBulkEntries {H : Type} : List (Lit × DataW H) → Nat
  | [] => 0
  | x :: r => uptoBulkEntry x + uptoBulkEntries r
def uptoBulkEntry {H : Type} : Lit × DataW H → Nat
  | (.string bytes, d) => bytes.length + uptoBulk d + 1
  | (_, d) => uptoBulk d + 1
 end
def uptoSmall : (H : Type) → List (DataW H) → Bool := fun _ ds => decide (uptoBulkAll ds ≤ 1048576)
def OpenSpec.upto (s : _root_.Go.ChangeSpec) : _root_.Go.OpenSpec := { _root_.Go.OpenSpec.ofChange s with cond := some uptoSmall }

/-- 'trommellaw06.EvalPlays', WHERE WHAT IT READS IS OF BULK AT MOST 1048576: true; the input reads as it did. -/
def evalPlaysUptoRow : OpenClaim := { program := "yticnbpefeoaamaa", sum := "4e7b59a646465854a5893eaa6c1bbc7cdc78fe9bcf8b254ea2c6cb5404d91fc4", func := "trommel/trommellaw06.EvalPlays", spec := "evalPlays", unfollowed := true, recurses := true, loops := true, apart := false, narrowed := true }
def EvalPlaysUptoSaid : Prop := evalPlaysUptoRow.holds Try.pinned (OpenSpec.upto evalPlaysSpec)

/-- 'trommellaw06.EvalNames', WHERE WHAT IT READS IS OF BULK AT MOST 1048576: true; the input reads as it did. -/
def evalNamesUptoRow : OpenClaim := { program := "yticnbpefeoaamaa", sum := "4e7b59a646465854a5893eaa6c1bbc7cdc78fe9bcf8b254ea2c6cb5404d91fc4", func := "trommel/trommellaw06.EvalNames", spec := "evalNames", unfollowed := true, recurses := true, loops := true, apart := false, narrowed := true }
def EvalNamesUptoSaid : Prop := evalNamesUptoRow.holds Try.pinned (OpenSpec.upto evalNamesSpec)

/-- 'trommellaw06.EvalRules', WHERE WHAT IT READS IS OF BULK AT MOST 1048576: true; the input reads as it did. -/
def evalRulesUptoRow : OpenClaim := { program := "yticnbpefeoaamaa", sum := "4e7b59a646465854a5893eaa6c1bbc7cdc78fe9bcf8b254ea2c6cb5404d91fc4", func := "trommel/trommellaw06.EvalRules", spec := "evalRules", unfollowed := true, recurses := true, loops := true, apart := false, narrowed := true }
def EvalRulesUptoSaid : Prop := evalRulesUptoRow.holds Try.pinned (OpenSpec.upto evalRulesSpec)

/-- 'trommellaw06.EvalMembers', WHERE WHAT IT READS IS OF BULK AT MOST 1048576: true; the input reads as it did. -/
def evalMembersUptoRow : OpenClaim := { program := "yticnbpefeoaamaa", sum := "4e7b59a646465854a5893eaa6c1bbc7cdc78fe9bcf8b254ea2c6cb5404d91fc4", func := "trommel/trommellaw06.EvalMembers", spec := "evalMembers", unfollowed := true, recurses := true, apart := false, narrowed := true }
def EvalMembersUptoSaid : Prop := evalMembersUptoRow.holds Try.pinned (OpenSpec.upto evalMembersSpec)

/-- 'trommellaw07.PushPlays', WHERE WHAT IT READS IS OF BULK AT MOST 1048576: true; the input reads as it did. -/
def pushPlaysUptoRow : OpenClaim := { program := "yticnbpefeoaamaa", sum := "4e7b59a646465854a5893eaa6c1bbc7cdc78fe9bcf8b254ea2c6cb5404d91fc4", func := "trommel/trommellaw07.PushPlays", spec := "pushPlays", unfollowed := true, recurses := true, loops := true, apart := false, narrowed := true }
def PushPlaysUptoSaid : Prop := pushPlaysUptoRow.holds Try.pinned (OpenSpec.upto pushPlaysSpec)

/-- 'trommellaw07.PushSums', WHERE WHAT IT READS IS OF BULK AT MOST 1048576: true; the input reads as it did. -/
def pushSumsUptoRow : OpenClaim := { program := "yticnbpefeoaamaa", sum := "4e7b59a646465854a5893eaa6c1bbc7cdc78fe9bcf8b254ea2c6cb5404d91fc4", func := "trommel/trommellaw07.PushSums", spec := "pushSums", unfollowed := true, recurses := true, apart := false, narrowed := true }
def PushSumsUptoSaid : Prop := pushSumsUptoRow.holds Try.pinned (OpenSpec.upto pushSumsSpec)

/-- 'trommellaw07.PushWidths', WHERE WHAT IT READS IS OF BULK AT MOST 1048576: true; the input reads as it did. -/
def pushWidthsUptoRow : OpenClaim := { program := "yticnbpefeoaamaa", sum := "4e7b59a646465854a5893eaa6c1bbc7cdc78fe9bcf8b254ea2c6cb5404d91fc4", func := "trommel/trommellaw07.PushWidths", spec := "pushWidths", unfollowed := true, recurses := true, loops := true, apart := false, narrowed := true }
def PushWidthsUptoSaid : Prop := pushWidthsUptoRow.holds Try.pinned (OpenSpec.upto pushWidthsSpec)

/-- 'trommellaw07.PushOwns', WHERE WHAT IT READS IS OF BULK AT MOST 1048576: true; the input reads as it did. -/
def pushOwnsUptoRow : OpenClaim := { program := "yticnbpefeoaamaa", sum := "4e7b59a646465854a5893eaa6c1bbc7cdc78fe9bcf8b254ea2c6cb5404d91fc4", func := "trommel/trommellaw07.PushOwns", spec := "pushOwns", unfollowed := true, recurses := true, loops := true, apart := false, narrowed := true }
def PushOwnsUptoSaid : Prop := pushOwnsUptoRow.holds Try.pinned (OpenSpec.upto pushOwnsSpec)

/-- 'trommellaw07.PushLeaves', WHERE WHAT IT READS IS OF BULK AT MOST 1048576: true; the input reads as it did. -/
def pushLeavesUptoRow : OpenClaim := { program := "yticnbpefeoaamaa", sum := "4e7b59a646465854a5893eaa6c1bbc7cdc78fe9bcf8b254ea2c6cb5404d91fc4", func := "trommel/trommellaw07.PushLeaves", spec := "pushLeaves", unfollowed := true, recurses := true, loops := true, apart := false, narrowed := true }
def PushLeavesUptoSaid : Prop := pushLeavesUptoRow.holds Try.pinned (OpenSpec.upto pushLeavesSpec)

/-- 'trommellaw07.PushMeans', WHERE WHAT IT READS IS OF BULK AT MOST 1048576: true; the input reads as it did. -/
def pushMeansUptoRow : OpenClaim := { program := "yticnbpefeoaamaa", sum := "4e7b59a646465854a5893eaa6c1bbc7cdc78fe9bcf8b254ea2c6cb5404d91fc4", func := "trommel/trommellaw07.PushMeans", spec := "pushMeans", unfollowed := true, recurses := true, loops := true, apart := false, narrowed := true }
def PushMeansUptoSaid : Prop := pushMeansUptoRow.holds Try.pinned (OpenSpec.upto pushMeansSpec)

end Rows
end Go.Proofs.Yticnbpefeoaamaa
