/-
  No cell of these rows narrows 'for every input' (looked for: loops, veiled, ifaces, maps, wideKeys, modest, calm, conditions, laid).
  DERIVED. THE GIVEN ROWS OF THIS SEAT. 7 by the template 'for every input the law returns true; each argument reads behind the call as it read before'; 0 by the template 'total and deterministic' (their statements: YtcjkofgbijdkcaaTotals.lean).
  GIVEN WITH THE SEED: the statements are not yours to turn. If you find one false, say at which input.
  Laid BY PROGRAM, IN A SANDBOX (cutbox-rows.mjs): the forced cells as the released guide's own fill.sh prints them over the translation bd300d1e77af3157… (all of the seat's roots in one cut). By AI agents, Wed Nov 11 2026. No macro, syntax, notation, axiom, sorry.
-/
import Derived.Test.YtcjkofgbijdkcaaChecked
import GoSem.Claim
import GoSem.ClaimJoined
import GoSem.ClaimMapViews
import Derived.JoinedTies
import Derived.KernelRfl
namespace Go.Proofs.Ytcjkofgbijdkcaa
/- THE CELL 'sum', in the pinned program and in every row, IS THE sha256 OF THE DUMP (.gsa) THAT YtcjkofgbijdkcaaProg.lean LOADS. Nothing in Lean hashes anything: it is a label: what it is worth is what the hold of that sum in a sandbox is worth. -/
noncomputable def Try.pinned : Pinned := { name := "ytcjkofgbijdkcaa", sum := "bd300d1e77af3157c570aba93033c12e749a43a673142fa0678b89542a45e2fa", checked := Try.checked }
namespace Rows
def none {H : Type} : Left H := { results := [], args := [] }

/-- 'tallagelaw16.AssessMonths': WHATEVER THE INPUT: true; the input reads as it did. -/
def assessMonthsSpec : ChangeSpec := { name := "assessMonths", fn := fun _ => fun
  | [d1, d2] => { results := [.lit (.bool true)], args := [d1, d2] }
  | _ => none }
def assessMonthsRow : OpenClaim := { program := "ytcjkofgbijdkcaa", sum := "bd300d1e77af3157c570aba93033c12e749a43a673142fa0678b89542a45e2fa", func := "tallage/tallagelaw16.AssessMonths", spec := "assessMonths", named := ["math/bits.divideError", "math/bits.overflowError"], apart := false }
def AssessMonthsSaid : Prop := assessMonthsRow.holds Try.pinned (OpenSpec.ofChange assessMonthsSpec)

/-- ITS FALSE NEIGHBOUR: 'it returns false'. Refute it at one input. -/
def assessMonthsWrong : ChangeSpec := { name := "assessMonths", fn := fun _ => fun
  | [d1, d2] => { results := [.lit (.bool false)], args := [d1, d2] }
  | _ => none }
def AssessMonthsWrongFalsely : Prop := assessMonthsRow.holds Try.pinned (OpenSpec.ofChange assessMonthsWrong)

/-- 'tallagelaw16.AssessBills': WHATEVER THE INPUT: true; the input reads as it did. -/
def assessBillsSpec : ChangeSpec := { name := "assessBills", fn := fun _ => fun
  | [d1, d2] => { results := [.lit (.bool true)], args := [d1, d2] }
  | _ => none }
def assessBillsRow : OpenClaim := { program := "ytcjkofgbijdkcaa", sum := "bd300d1e77af3157c570aba93033c12e749a43a673142fa0678b89542a45e2fa", func := "tallage/tallagelaw16.AssessBills", spec := "assessBills", named := ["math/bits.divideError", "math/bits.overflowError"], apart := false }
def AssessBillsSaid : Prop := assessBillsRow.holds Try.pinned (OpenSpec.ofChange assessBillsSpec)

/-- ITS FALSE NEIGHBOUR: 'it returns false'. Refute it at one input. -/
def assessBillsWrong : ChangeSpec := { name := "assessBills", fn := fun _ => fun
  | [d1, d2] => { results := [.lit (.bool false)], args := [d1, d2] }
  | _ => none }
def AssessBillsWrongFalsely : Prop := assessBillsRow.holds Try.pinned (OpenSpec.ofChange assessBillsWrong)

/-- 'tallagetop.TopLate': WHATEVER THE INPUT: true; the input reads as it did. -/
def topLateSpec : ChangeSpec := { name := "topLate", fn := fun _ => fun
  | [d1, d2, d3] => { results := [.lit (.bool true)], args := [d1, d2, d3] }
  | _ => none }
def topLateRow : OpenClaim := { program := "ytcjkofgbijdkcaa", sum := "bd300d1e77af3157c570aba93033c12e749a43a673142fa0678b89542a45e2fa", func := "tallage/tallagetop.TopLate", spec := "topLate", named := ["math/bits.divideError", "math/bits.overflowError"], apart := false }
def TopLateSaid : Prop := topLateRow.holds Try.pinned (OpenSpec.ofChange topLateSpec)

/-- ITS FALSE NEIGHBOUR: 'it returns false'. Refute it at one input. -/
def topLateWrong : ChangeSpec := { name := "topLate", fn := fun _ => fun
  | [d1, d2, d3] => { results := [.lit (.bool false)], args := [d1, d2, d3] }
  | _ => none }
def TopLateWrongFalsely : Prop := topLateRow.holds Try.pinned (OpenSpec.ofChange topLateWrong)

/-- 'tallagelaw16.AssessSums': WHATEVER THE INPUT: true; the input reads as it did. -/
def assessSumsSpec : ChangeSpec := { name := "assessSums", fn := fun _ => fun
  | [d1, d2] => { results := [.lit (.bool true)], args := [d1, d2] }
  | _ => none }
def assessSumsRow : OpenClaim := { program := "ytcjkofgbijdkcaa", sum := "bd300d1e77af3157c570aba93033c12e749a43a673142fa0678b89542a45e2fa", func := "tallage/tallagelaw16.AssessSums", spec := "assessSums", named := ["math/bits.divideError", "math/bits.overflowError"], apart := false }
def AssessSumsSaid : Prop := assessSumsRow.holds Try.pinned (OpenSpec.ofChange assessSumsSpec)

/-- ITS FALSE NEIGHBOUR: 'it returns false'. Refute it at one input. -/
def assessSumsWrong : ChangeSpec := { name := "assessSums", fn := fun _ => fun
  | [d1, d2] => { results := [.lit (.bool false)], args := [d1, d2] }
  | _ => none }
def AssessSumsWrongFalsely : Prop := assessSumsRow.holds Try.pinned (OpenSpec.ofChange assessSumsWrong)

/-- 'tallagelaw16.AssessLater': WHATEVER THE INPUT: true; the input reads as it did. -/
def assessLaterSpec : ChangeSpec := { name := "assessLater", fn := fun _ => fun
  | [d1, d2, d3] => { results := [.lit (.bool true)], args := [d1, d2, d3] }
  | _ => none }
def assessLaterRow : OpenClaim := { program := "ytcjkofgbijdkcaa", sum := "bd300d1e77af3157c570aba93033c12e749a43a673142fa0678b89542a45e2fa", func := "tallage/tallagelaw16.AssessLater", spec := "assessLater", named := ["math/bits.divideError", "math/bits.overflowError"], apart := false }
def AssessLaterSaid : Prop := assessLaterRow.holds Try.pinned (OpenSpec.ofChange assessLaterSpec)

/-- ITS FALSE NEIGHBOUR: 'it returns false'. Refute it at one input. -/
def assessLaterWrong : ChangeSpec := { name := "assessLater", fn := fun _ => fun
  | [d1, d2, d3] => { results := [.lit (.bool false)], args := [d1, d2, d3] }
  | _ => none }
def AssessLaterWrongFalsely : Prop := assessLaterRow.holds Try.pinned (OpenSpec.ofChange assessLaterWrong)

/-- 'tallagelaw16.AssessChanges': WHATEVER THE INPUT: true; the input reads as it did. -/
def assessChangesSpec : ChangeSpec := { name := "assessChanges", fn := fun _ => fun
  | [d1, d2, d3] => { results := [.lit (.bool true)], args := [d1, d2, d3] }
  | _ => none }
def assessChangesRow : OpenClaim := { program := "ytcjkofgbijdkcaa", sum := "bd300d1e77af3157c570aba93033c12e749a43a673142fa0678b89542a45e2fa", func := "tallage/tallagelaw16.AssessChanges", spec := "assessChanges", unfollowed := true, recurses := true, named := ["math/bits.divideError", "math/bits.overflowError"], apart := false }
def AssessChangesSaid : Prop := assessChangesRow.holds Try.pinned (OpenSpec.ofChange assessChangesSpec)

/-- ITS FALSE NEIGHBOUR: 'it returns false'. Refute it at one input. -/
def assessChangesWrong : ChangeSpec := { name := "assessChanges", fn := fun _ => fun
  | [d1, d2, d3] => { results := [.lit (.bool false)], args := [d1, d2, d3] }
  | _ => none }
def AssessChangesWrongFalsely : Prop := assessChangesRow.holds Try.pinned (OpenSpec.ofChange assessChangesWrong)

/-- 'tallagelaw16.AssessAdds': WHATEVER THE INPUT: true; the input reads as it did. -/
def assessAddsSpec : ChangeSpec := { name := "assessAdds", fn := fun _ => fun
  | [d1, d2, d3] => { results := [.lit (.bool true)], args := [d1, d2, d3] }
  | _ => none }
def assessAddsRow : OpenClaim := { program := "ytcjkofgbijdkcaa", sum := "bd300d1e77af3157c570aba93033c12e749a43a673142fa0678b89542a45e2fa", func := "tallage/tallagelaw16.AssessAdds", spec := "assessAdds", unfollowed := true, recurses := true, named := ["math/bits.divideError", "math/bits.overflowError"], apart := false }
def AssessAddsSaid : Prop := assessAddsRow.holds Try.pinned (OpenSpec.ofChange assessAddsSpec)

/-- ITS FALSE NEIGHBOUR: 'it returns false'. Refute it at one input. -/
def assessAddsWrong : ChangeSpec := { name := "assessAdds", fn := fun _ => fun
  | [d1, d2, d3] => { results := [.lit (.bool false)], args := [d1, d2, d3] }
  | _ => none }
def AssessAddsWrongFalsely : Prop := assessAddsRow.holds Try.pinned (OpenSpec.ofChange assessAddsWrong)

/- THE SECOND FORM. 'bulk': how many values and letters a reading holds, each counted each time it is reached (what is shared counts as often as it is met; a slice's spare places count too). A statement '..UptoSaid' is the law's where the arguments, and the package variables that the reading takes, are together of bulk at most 1048576: NARROWER than '..Said'. Prove '..Said' where nothing that the law and all that it calls make is longer than what came in: it says more and counts as full. Else prove '..UptoSaid'. A law counts once. -/
mutual
def uptoBulk {H : Type} : DataW H → Nat
  | .lit (.string bytes) => bytes.length + 1
  | .lit _ => 1
  | .nil => 1
  | .ptr d => uptoBulk d + 1
  | .slice elems spare => uptoBulkAll elems + uptoBulkAll spare + 1
  | .agg parts => uptoBulkAll parts + 1
  | .iface _ d => uptoBulk d + 1
  | .map entries => uptoBulkEntries entries + 1
  | .held _ => 1
def uptoBulkAll {H : Type} : List (DataW H) → Nat
  | [] => 0
  | d :: r => uptoBulk d + uptoBulkAll r
def uptoBulkEntries {H : Type} : List (Lit × DataW H) → Nat
  | [] => 0
  | x :: r => uptoBulkEntry x + uptoBulkEntries r
def uptoBulkEntry {H : Type} : Lit × DataW H → Nat
  | (.string bytes, d) => bytes.length + uptoBulk d + 1
  | (_, d) => uptoBulk d + 1
 end
def uptoSmall : (H : Type) → List (DataW H) → Bool := fun _ ds => decide (uptoBulkAll ds ≤ 1048576)
def OpenSpec.upto (s : _root_.Go.ChangeSpec) : _root_.Go.OpenSpec := { _root_.Go.OpenSpec.ofChange s with cond := some uptoSmall }

/-- 'tallagelaw16.AssessMonths', WHERE WHAT IT READS IS OF BULK AT MOST 1048576: true; the input reads as it did. -/
def assessMonthsUptoRow : OpenClaim := { program := "ytcjkofgbijdkcaa", sum := "bd300d1e77af3157c570aba93033c12e749a43a673142fa0678b89542a45e2fa", func := "tallage/tallagelaw16.AssessMonths", spec := "assessMonths", named := ["math/bits.divideError", "math/bits.overflowError"], apart := false, narrowed := true }
def AssessMonthsUptoSaid : Prop := assessMonthsUptoRow.holds Try.pinned (OpenSpec.upto assessMonthsSpec)

/-- 'tallagelaw16.AssessBills', WHERE WHAT IT READS IS OF BULK AT MOST 1048576: true; the input reads as it did. -/
def assessBillsUptoRow : OpenClaim := { program := "ytcjkofgbijdkcaa", sum := "bd300d1e77af3157c570aba93033c12e749a43a673142fa0678b89542a45e2fa", func := "tallage/tallagelaw16.AssessBills", spec := "assessBills", named := ["math/bits.divideError", "math/bits.overflowError"], apart := false, narrowed := true }
def AssessBillsUptoSaid : Prop := assessBillsUptoRow.holds Try.pinned (OpenSpec.upto assessBillsSpec)

/-- 'tallagetop.TopLate', WHERE WHAT IT READS IS OF BULK AT MOST 1048576: true; the input reads as it did. -/
def topLateUptoRow : OpenClaim := { program := "ytcjkofgbijdkcaa", sum := "bd300d1e77af3157c570aba93033c12e749a43a673142fa0678b89542a45e2fa", func := "tallage/tallagetop.TopLate", spec := "topLate", named := ["math/bits.divideError", "math/bits.overflowError"], apart := false, narrowed := true }
def TopLateUptoSaid : Prop := topLateUptoRow.holds Try.pinned (OpenSpec.upto topLateSpec)

/-- 'tallagelaw16.AssessSums', WHERE WHAT IT READS IS OF BULK AT MOST 1048576: true; the input reads as it did. -/
def assessSumsUptoRow : OpenClaim := { program := "ytcjkofgbijdkcaa", sum := "bd300d1e77af3157c570aba93033c12e749a43a673142fa0678b89542a45e2fa", func := "tallage/tallagelaw16.AssessSums", spec := "assessSums", named := ["math/bits.divideError", "math/bits.overflowError"], apart := false, narrowed := true }
def AssessSumsUptoSaid : Prop := assessSumsUptoRow.holds Try.pinned (OpenSpec.upto assessSumsSpec)

/-- 'tallagelaw16.AssessLater', WHERE WHAT IT READS IS OF BULK AT MOST 1048576: true; the input reads as it did. -/
def assessLaterUptoRow : OpenClaim := { program := "ytcjkofgbijdkcaa", sum := "bd300d1e77af3157c570aba93033c12e749a43a673142fa0678b89542a45e2fa", func := "tallage/tallagelaw16.AssessLater", spec := "assessLater", named := ["math/bits.divideError", "math/bits.overflowError"], apart := false, narrowed := true }
def AssessLaterUptoSaid : Prop := assessLaterUptoRow.holds Try.pinned (OpenSpec.upto assessLaterSpec)

/-- 'tallagelaw16.AssessChanges', WHERE WHAT IT READS IS OF BULK AT MOST 1048576: true; the input reads as it did. -/
def assessChangesUptoRow : OpenClaim := { program := "ytcjkofgbijdkcaa", sum := "bd300d1e77af3157c570aba93033c12e749a43a673142fa0678b89542a45e2fa", func := "tallage/tallagelaw16.AssessChanges", spec := "assessChanges", unfollowed := true, recurses := true, named := ["math/bits.divideError", "math/bits.overflowError"], apart := false, narrowed := true }
def AssessChangesUptoSaid : Prop := assessChangesUptoRow.holds Try.pinned (OpenSpec.upto assessChangesSpec)

/-- 'tallagelaw16.AssessAdds', WHERE WHAT IT READS IS OF BULK AT MOST 1048576: true; the input reads as it did. -/
def assessAddsUptoRow : OpenClaim := { program := "ytcjkofgbijdkcaa", sum := "bd300d1e77af3157c570aba93033c12e749a43a673142fa0678b89542a45e2fa", func := "tallage/tallagelaw16.AssessAdds", spec := "assessAdds", unfollowed := true, recurses := true, named := ["math/bits.divideError", "math/bits.overflowError"], apart := false, narrowed := true }
def AssessAddsUptoSaid : Prop := assessAddsUptoRow.holds Try.pinned (OpenSpec.upto assessAddsSpec)

end Rows
end Go.Proofs.Ytcjkofgbijdkcaa
