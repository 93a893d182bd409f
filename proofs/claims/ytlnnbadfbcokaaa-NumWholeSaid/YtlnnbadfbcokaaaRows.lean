/-
  No cell of these rows narrows 'for every input' (looked for: loops, veiled, ifaces, maps, wideKeys, modest, calm, conditions, laid).
  DERIVED. THE GIVEN ROWS OF THIS SEAT. 9 by the template 'for every input the law returns true; each argument reads behind the call as it read before'; 0 by the template 'total and deterministic' (their statements: YtlnnbadfbcokaaaTotals.lean).
  GIVEN WITH THE SEED: the statements are not yours to turn. If you find one false, say at which input.
  Laid BY PROGRAM, IN A SANDBOX (cutbox-rows.mjs): the forced cells as the released guide's own fill.sh prints them over the translation db864407ca0d220e… (all of the seat's roots in one cut). By AI agents, Wed Nov 11 2026. No macro, syntax, notation, axiom, sorry.
-/
import Derived.Test.YtlnnbadfbcokaaaChecked
import GoSem.Claim
import GoSem.ClaimJoined
import GoSem.ClaimMapViews
import Derived.JoinedTies
import Derived.KernelRfl
namespace Go.Proofs.Ytlnnbadfbcokaaa
/- THE CELL 'sum', in the pinned program and in every row, IS THE sha256 OF THE DUMP (.gsa) THAT YtlnnbadfbcokaaaProg.lean LOADS. Nothing in Lean hashes anything: it is a label: what it is worth is what the hold of that sum in a sandbox is worth. -/
noncomputable def Try.pinned : Pinned := { name := "ytlnnbadfbcokaaa", sum := "db864407ca0d220e082e6545839d7e5ebe8eac00c09dc7fac267a66b7d47dae4", checked := Try.checked }
namespace Rows
def none {H : Type} : Left H := { results := [], args := [] }

/-- 'tallagelaw18.AccrueSimple': WHATEVER THE INPUT: true; the input reads as it did. -/
def accrueSimpleSpec : ChangeSpec := { name := "accrueSimple", fn := fun _ => fun
  | [d1, d2, d3] => { results := [.lit (.bool true)], args := [d1, d2, d3] }
  | _ => none }
def accrueSimpleRow : OpenClaim := { program := "ytlnnbadfbcokaaa", sum := "db864407ca0d220e082e6545839d7e5ebe8eac00c09dc7fac267a66b7d47dae4", func := "tallage/tallagelaw18.AccrueSimple", spec := "accrueSimple", named := ["math/bits.divideError", "math/bits.overflowError"], apart := false }
def AccrueSimpleSaid : Prop := accrueSimpleRow.holds Try.pinned (OpenSpec.ofChange accrueSimpleSpec)

/-- ITS FALSE NEIGHBOUR: 'it returns false'. Refute it at one input. -/
def accrueSimpleWrong : ChangeSpec := { name := "accrueSimple", fn := fun _ => fun
  | [d1, d2, d3] => { results := [.lit (.bool false)], args := [d1, d2, d3] }
  | _ => none }
def AccrueSimpleWrongFalsely : Prop := accrueSimpleRow.holds Try.pinned (OpenSpec.ofChange accrueSimpleWrong)

/-- 'tallagelaw18.AccrueRises': WHATEVER THE INPUT: true; the input reads as it did. -/
def accrueRisesSpec : ChangeSpec := { name := "accrueRises", fn := fun _ => fun
  | [d1, d2] => { results := [.lit (.bool true)], args := [d1, d2] }
  | _ => none }
def accrueRisesRow : OpenClaim := { program := "ytlnnbadfbcokaaa", sum := "db864407ca0d220e082e6545839d7e5ebe8eac00c09dc7fac267a66b7d47dae4", func := "tallage/tallagelaw18.AccrueRises", spec := "accrueRises", named := ["math/bits.divideError", "math/bits.overflowError"], apart := false }
def AccrueRisesSaid : Prop := accrueRisesRow.holds Try.pinned (OpenSpec.ofChange accrueRisesSpec)

/-- ITS FALSE NEIGHBOUR: 'it returns false'. Refute it at one input. -/
def accrueRisesWrong : ChangeSpec := { name := "accrueRises", fn := fun _ => fun
  | [d1, d2] => { results := [.lit (.bool false)], args := [d1, d2] }
  | _ => none }
def AccrueRisesWrongFalsely : Prop := accrueRisesRow.holds Try.pinned (OpenSpec.ofChange accrueRisesWrong)

/-- 'tallagelaw18.AccrueYears': WHATEVER THE INPUT: true; the input reads as it did. -/
def accrueYearsSpec : ChangeSpec := { name := "accrueYears", fn := fun _ => fun
  | [d1, d2, d3] => { results := [.lit (.bool true)], args := [d1, d2, d3] }
  | _ => none }
def accrueYearsRow : OpenClaim := { program := "ytlnnbadfbcokaaa", sum := "db864407ca0d220e082e6545839d7e5ebe8eac00c09dc7fac267a66b7d47dae4", func := "tallage/tallagelaw18.AccrueYears", spec := "accrueYears", named := ["math/bits.divideError", "math/bits.overflowError"], apart := false }
def AccrueYearsSaid : Prop := accrueYearsRow.holds Try.pinned (OpenSpec.ofChange accrueYearsSpec)

/-- ITS FALSE NEIGHBOUR: 'it returns false'. Refute it at one input. -/
def accrueYearsWrong : ChangeSpec := { name := "accrueYears", fn := fun _ => fun
  | [d1, d2, d3] => { results := [.lit (.bool false)], args := [d1, d2, d3] }
  | _ => none }
def AccrueYearsWrongFalsely : Prop := accrueYearsRow.holds Try.pinned (OpenSpec.ofChange accrueYearsWrong)

/-- 'tallagelaw01.NumBack': WHATEVER THE INPUT: true; the input reads as it did. -/
def numBackSpec : ChangeSpec := { name := "numBack", fn := fun _ => fun
  | [d1, d2] => { results := [.lit (.bool true)], args := [d1, d2] }
  | _ => none }
def numBackRow : OpenClaim := { program := "ytlnnbadfbcokaaa", sum := "db864407ca0d220e082e6545839d7e5ebe8eac00c09dc7fac267a66b7d47dae4", func := "tallage/tallagelaw01.NumBack", spec := "numBack", named := ["math/bits.divideError", "math/bits.overflowError"], apart := false }
def NumBackSaid : Prop := numBackRow.holds Try.pinned (OpenSpec.ofChange numBackSpec)

/-- ITS FALSE NEIGHBOUR: 'it returns false'. Refute it at one input. -/
def numBackWrong : ChangeSpec := { name := "numBack", fn := fun _ => fun
  | [d1, d2] => { results := [.lit (.bool false)], args := [d1, d2] }
  | _ => none }
def NumBackWrongFalsely : Prop := numBackRow.holds Try.pinned (OpenSpec.ofChange numBackWrong)

/-- 'tallagelaw01.NumSums': WHATEVER THE INPUT: true; the input reads as it did. -/
def numSumsSpec : ChangeSpec := { name := "numSums", fn := fun _ => fun
  | [d1, d2] => { results := [.lit (.bool true)], args := [d1, d2] }
  | _ => none }
def numSumsRow : OpenClaim := { program := "ytlnnbadfbcokaaa", sum := "db864407ca0d220e082e6545839d7e5ebe8eac00c09dc7fac267a66b7d47dae4", func := "tallage/tallagelaw01.NumSums", spec := "numSums", named := ["math/bits.divideError", "math/bits.overflowError"], apart := false }
def NumSumsSaid : Prop := numSumsRow.holds Try.pinned (OpenSpec.ofChange numSumsSpec)

/-- ITS FALSE NEIGHBOUR: 'it returns false'. Refute it at one input. -/
def numSumsWrong : ChangeSpec := { name := "numSums", fn := fun _ => fun
  | [d1, d2] => { results := [.lit (.bool false)], args := [d1, d2] }
  | _ => none }
def NumSumsWrongFalsely : Prop := numSumsRow.holds Try.pinned (OpenSpec.ofChange numSumsWrong)

/-- 'tallagelaw18.AccrueSplit': WHATEVER THE INPUT: true; the input reads as it did. -/
def accrueSplitSpec : ChangeSpec := { name := "accrueSplit", fn := fun _ => fun
  | [d1, d2] => { results := [.lit (.bool true)], args := [d1, d2] }
  | _ => none }
def accrueSplitRow : OpenClaim := { program := "ytlnnbadfbcokaaa", sum := "db864407ca0d220e082e6545839d7e5ebe8eac00c09dc7fac267a66b7d47dae4", func := "tallage/tallagelaw18.AccrueSplit", spec := "accrueSplit", unfollowed := true, recurses := true, named := ["math/bits.divideError", "math/bits.overflowError"], apart := false }
def AccrueSplitSaid : Prop := accrueSplitRow.holds Try.pinned (OpenSpec.ofChange accrueSplitSpec)

/-- ITS FALSE NEIGHBOUR: 'it returns false'. Refute it at one input. -/
def accrueSplitWrong : ChangeSpec := { name := "accrueSplit", fn := fun _ => fun
  | [d1, d2] => { results := [.lit (.bool false)], args := [d1, d2] }
  | _ => none }
def AccrueSplitWrongFalsely : Prop := accrueSplitRow.holds Try.pinned (OpenSpec.ofChange accrueSplitWrong)

/-- 'tallagelaw18.AccrueRuns': WHATEVER THE INPUT: true; the input reads as it did. -/
def accrueRunsSpec : ChangeSpec := { name := "accrueRuns", fn := fun _ => fun
  | [d1, d2] => { results := [.lit (.bool true)], args := [d1, d2] }
  | _ => none }
def accrueRunsRow : OpenClaim := { program := "ytlnnbadfbcokaaa", sum := "db864407ca0d220e082e6545839d7e5ebe8eac00c09dc7fac267a66b7d47dae4", func := "tallage/tallagelaw18.AccrueRuns", spec := "accrueRuns", unfollowed := true, recurses := true, named := ["math/bits.divideError", "math/bits.overflowError"], apart := false }
def AccrueRunsSaid : Prop := accrueRunsRow.holds Try.pinned (OpenSpec.ofChange accrueRunsSpec)

/-- ITS FALSE NEIGHBOUR: 'it returns false'. Refute it at one input. -/
def accrueRunsWrong : ChangeSpec := { name := "accrueRuns", fn := fun _ => fun
  | [d1, d2] => { results := [.lit (.bool false)], args := [d1, d2] }
  | _ => none }
def AccrueRunsWrongFalsely : Prop := accrueRunsRow.holds Try.pinned (OpenSpec.ofChange accrueRunsWrong)

/-- 'tallagelaw01.NumSplits': WHATEVER THE INPUT: true; the input reads as it did. -/
def numSplitsSpec : ChangeSpec := { name := "numSplits", fn := fun _ => fun
  | [d1, d2] => { results := [.lit (.bool true)], args := [d1, d2] }
  | _ => none }
def numSplitsRow : OpenClaim := { program := "ytlnnbadfbcokaaa", sum := "db864407ca0d220e082e6545839d7e5ebe8eac00c09dc7fac267a66b7d47dae4", func := "tallage/tallagelaw01.NumSplits", spec := "numSplits", inPlace := ["math/bits.Add64"], unfollowed := true, recurses := true, named := ["math/bits.divideError", "math/bits.overflowError"], apart := false }
def NumSplitsSaid : Prop := numSplitsRow.holds Try.pinned (OpenSpec.ofChange numSplitsSpec)

/-- ITS FALSE NEIGHBOUR: 'it returns false'. Refute it at one input. -/
def numSplitsWrong : ChangeSpec := { name := "numSplits", fn := fun _ => fun
  | [d1, d2] => { results := [.lit (.bool false)], args := [d1, d2] }
  | _ => none }
def NumSplitsWrongFalsely : Prop := numSplitsRow.holds Try.pinned (OpenSpec.ofChange numSplitsWrong)

/-- 'tallagelaw01.NumWhole': WHATEVER THE INPUT: true; the input reads as it did. -/
def numWholeSpec : ChangeSpec := { name := "numWhole", fn := fun _ => fun
  | [d1, d2] => { results := [.lit (.bool true)], args := [d1, d2] }
  | _ => none }
def numWholeRow : OpenClaim := { program := "ytlnnbadfbcokaaa", sum := "db864407ca0d220e082e6545839d7e5ebe8eac00c09dc7fac267a66b7d47dae4", func := "tallage/tallagelaw01.NumWhole", spec := "numWhole", inPlace := ["math/bits.Add64"], unfollowed := true, recurses := true, named := ["math/bits.divideError", "math/bits.overflowError"], apart := false }
def NumWholeSaid : Prop := numWholeRow.holds Try.pinned (OpenSpec.ofChange numWholeSpec)

/-- ITS FALSE NEIGHBOUR: 'it returns false'. Refute it at one input. -/
def numWholeWrong : ChangeSpec := { name := "numWhole", fn := fun _ => fun
  | [d1, d2] => { results := [.lit (.bool false)], args := [d1, d2] }
  | _ => none }
def NumWholeWrongFalsely : Prop := numWholeRow.holds Try.pinned (OpenSpec.ofChange numWholeWrong)

/- THE SECOND FORM. 'bulk': how many values and letters a reading holds, each counted each time it is reached (what is shared counts as often as it is met; a slice's spare places count too). A statement '..UptoSaid' is the law's where the arguments, and the package variables that the reading takes, are together of bulk at most 1048576: NARROWER than '..Said'. Prove '..Said' where nothing that the law and all that it calls make is longer than what came in: it says more and counts as full. Else prove '..UptoSaid'. A law counts once. -/
mutual
def uptoBulk {H : Type} : DataW H → Nat
  | .lit (.string bytes) => bytes.length + 1
  | .lit _ => 1
  | .nil => 1
  | .ptr d => uptoBulk d + 1
  | .slice elems spare => uptoBulkAll elems + uptoBulkAll spare + 1
  | .agg parts => uptoBulkAll parts + 1
  | .iface _ d => uptoBulk d + 1
  | .map entries => uptoBulkEntries entries + 1
  | .held _ => 1
def uptoBulkAll {H : Type} : List (DataW H) → Nat
  | [] => 0
  | d :: r => uptoBulk d + uptoBulkAll r
def uptoBulkEntries {H : Type} : List (Lit × DataW H) → Nat
  | [] => 0
  | x :: r => uptoBulkEntry x + uptoBulkEntries r
def uptoBulkEntry {H : Type} : Lit × DataW H → Nat
  | (.string bytes, d) => bytes.length + uptoBulk d + 1
  | (_, d) => uptoBulk d + 1
 end
def uptoSmall : (H : Type) → List (DataW H) → Bool := fun _ ds => decide (uptoBulkAll ds ≤ 1048576)
def OpenSpec.upto (s : _root_.Go.ChangeSpec) : _root_.Go.OpenSpec := { _root_.Go.OpenSpec.ofChange s with cond := some uptoSmall }

/-- 'tallagelaw18.AccrueSimple', WHERE WHAT IT READS IS OF BULK AT MOST 1048576: true; the input reads as it did. -/
def accrueSimpleUptoRow : OpenClaim := { program := "ytlnnbadfbcokaaa", sum := "db864407ca0d220e082e6545839d7e5ebe8eac00c09dc7fac267a66b7d47dae4", func := "tallage/tallagelaw18.AccrueSimple", spec := "accrueSimple", named := ["math/bits.divideError", "math/bits.overflowError"], apart := false, narrowed := true }
def AccrueSimpleUptoSaid : Prop := accrueSimpleUptoRow.holds Try.pinned (OpenSpec.upto accrueSimpleSpec)

/-- 'tallagelaw18.AccrueRises', WHERE WHAT IT READS IS OF BULK AT MOST 1048576: true; the input reads as it did. -/
def accrueRisesUptoRow : OpenClaim := { program := "ytlnnbadfbcokaaa", sum := "db864407ca0d220e082e6545839d7e5ebe8eac00c09dc7fac267a66b7d47dae4", func := "tallage/tallagelaw18.AccrueRises", spec := "accrueRises", named := ["math/bits.divideError", "math/bits.overflowError"], apart := false, narrowed := true }
def AccrueRisesUptoSaid : Prop := accrueRisesUptoRow.holds Try.pinned (OpenSpec.upto accrueRisesSpec)

/-- 'tallagelaw18.AccrueYears', WHERE WHAT IT READS IS OF BULK AT MOST 1048576: true; the input reads as it did. -/
def accrueYearsUptoRow : OpenClaim := { program := "ytlnnbadfbcokaaa", sum := "db864407ca0d220e082e6545839d7e5ebe8eac00c09dc7fac267a66b7d47dae4", func := "tallage/tallagelaw18.AccrueYears", spec := "accrueYears", named := ["math/bits.divideError", "math/bits.overflowError"], apart := false, narrowed := true }
def AccrueYearsUptoSaid : Prop := accrueYearsUptoRow.holds Try.pinned (OpenSpec.upto accrueYearsSpec)

/-- 'tallagelaw01.NumBack', WHERE WHAT IT READS IS OF BULK AT MOST 1048576: true; the input reads as it did. -/
def numBackUptoRow : OpenClaim := { program := "ytlnnbadfbcokaaa", sum := "db864407ca0d220e082e6545839d7e5ebe8eac00c09dc7fac267a66b7d47dae4", func := "tallage/tallagelaw01.NumBack", spec := "numBack", named := ["math/bits.divideError", "math/bits.overflowError"], apart := false, narrowed := true }
def NumBackUptoSaid : Prop := numBackUptoRow.holds Try.pinned (OpenSpec.upto numBackSpec)

/-- 'tallagelaw01.NumSums', WHERE WHAT IT READS IS OF BULK AT MOST 1048576: true; the input reads as it did. -/
def numSumsUptoRow : OpenClaim := { program := "ytlnnbadfbcokaaa", sum := "db864407ca0d220e082e6545839d7e5ebe8eac00c09dc7fac267a66b7d47dae4", func := "tallage/tallagelaw01.NumSums", spec := "numSums", named := ["math/bits.divideError", "math/bits.overflowError"], apart := false, narrowed := true }
def NumSumsUptoSaid : Prop := numSumsUptoRow.holds Try.pinned (OpenSpec.upto numSumsSpec)

/-- 'tallagelaw18.AccrueSplit', WHERE WHAT IT READS IS OF BULK AT MOST 1048576: true; the input reads as it did. -/
def accrueSplitUptoRow : OpenClaim := { program := "ytlnnbadfbcokaaa", sum := "db864407ca0d220e082e6545839d7e5ebe8eac00c09dc7fac267a66b7d47dae4", func := "tallage/tallagelaw18.AccrueSplit", spec := "accrueSplit", unfollowed := true, recurses := true, named := ["math/bits.divideError", "math/bits.overflowError"], apart := false, narrowed := true }
def AccrueSplitUptoSaid : Prop := accrueSplitUptoRow.holds Try.pinned (OpenSpec.upto accrueSplitSpec)

/-- 'tallagelaw18.AccrueRuns', WHERE WHAT IT READS IS OF BULK AT MOST 1048576: true; the input reads as it did. -/
def accrueRunsUptoRow : OpenClaim := { program := "ytlnnbadfbcokaaa", sum := "db864407ca0d220e082e6545839d7e5ebe8eac00c09dc7fac267a66b7d47dae4", func := "tallage/tallagelaw18.AccrueRuns", spec := "accrueRuns", unfollowed := true, recurses := true, named := ["math/bits.divideError", "math/bits.overflowError"], apart := false, narrowed := true }
def AccrueRunsUptoSaid : Prop := accrueRunsUptoRow.holds Try.pinned (OpenSpec.upto accrueRunsSpec)

/-- 'tallagelaw01.NumSplits', WHERE WHAT IT READS IS OF BULK AT MOST 1048576: true; the input reads as it did. -/
def numSplitsUptoRow : OpenClaim := { program := "ytlnnbadfbcokaaa", sum := "db864407ca0d220e082e6545839d7e5ebe8eac00c09dc7fac267a66b7d47dae4", func := "tallage/tallagelaw01.NumSplits", spec := "numSplits", inPlace := ["math/bits.Add64"], unfollowed := true, recurses := true, named := ["math/bits.divideError", "math/bits.overflowError"], apart := false, narrowed := true }
def NumSplitsUptoSaid : Prop := numSplitsUptoRow.holds Try.pinned (OpenSpec.upto numSplitsSpec)

/-- 'tallagelaw01.NumWhole', WHERE WHAT IT READS IS OF BULK AT MOST 1048576: true; the input reads as it did. -/
def numWholeUptoRow : OpenClaim := { program := "ytlnnbadfbcokaaa", sum := "db864407ca0d220e082e6545839d7e5ebe8eac00c09dc7fac267a66b7d47dae4", func := "tallage/tallagelaw01.NumWhole", spec := "numWhole", inPlace := ["math/bits.Add64"], unfollowed := true, recurses := true, named := ["math/bits.divideError", "math/bits.overflowError"], apart := false, narrowed := true }
def NumWholeUptoSaid : Prop := numWholeUptoRow.holds Try.pinned (OpenSpec.upto numWholeSpec)

end Rows
end Go.Proofs.Ytlnnbadfbcokaaa
