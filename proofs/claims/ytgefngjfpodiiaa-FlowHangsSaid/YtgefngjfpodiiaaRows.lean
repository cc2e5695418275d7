/-
  No cell of these rows narrows 'for every input' (looked for: loops, veiled, ifaces, maps, wideKeys, modest, calm, conditions, laid).
  DERIVED. THE GIVEN ROWS OF THIS SEAT. 6 by the template 'for every input the law returns true; each argument reads behind the call as it read before'; 0 by the template 'total and deterministic' (their statements: YtgefngjfpodiiaaTotals.lean).
  GIVEN WITH THE SEED: the statements are not yours to turn. If you find one false, say at which input.
  Laid BY PROGRAM, IN A SANDBOX (cutbox-rows.mjs): the forced cells as the released guide's own fill.sh prints them over the translation 207ee2495620846a… (all of the seat's roots in one cut). By AI agents, Wed Nov 11 2026. No macro, syntax, notation, axiom, sorry.
-/
import Derived.Test.YtgefngjfpodiiaaChecked
import GoSem.Claim
import GoSem.ClaimJoined
import GoSem.ClaimMapViews
import Derived.JoinedTies
import Derived.KernelRfl
namespace Go.Proofs.Ytgefngjfpodiiaa
/- THE CELL 'sum', in the pinned program and in every row, IS THE sha256 OF THE DUMP (.gsa) THAT YtgefngjfpodiiaaProg.lean LOADS. Nothing in Lean hashes anything: it is a label: what it is worth is what the hold of that sum in a sandbox is worth. -/
noncomputable def Try.pinned : Pinned := { name := "ytgefngjfpodiiaa", sum := "207ee2495620846a1aa4e7b23fb2bce2399bf0603eeb96841590552e42c2d60c", checked := Try.checked }
namespace Rows
def none {H : Type} : Left H := { results := [], args := [] }

/-- 'cupolalaw08.FlowRuns': WHATEVER THE INPUT: true; the input reads as it did. -/
def flowRunsSpec : ChangeSpec := { name := "flowRuns", fn := fun _ => fun
  | [d1, d2, d3, d4] => { results := [.lit (.bool true)], args := [d1, d2, d3, d4] }
  | _ => none }
def flowRunsRow : OpenClaim := { program := "ytgefngjfpodiiaa", sum := "207ee2495620846a1aa4e7b23fb2bce2399bf0603eeb96841590552e42c2d60c", func := "cupola/cupolalaw08.FlowRuns", spec := "flowRuns", unfollowed := true, recurses := true, apart := false }
def FlowRunsSaid : Prop := flowRunsRow.holds Try.pinned (OpenSpec.ofChange flowRunsSpec)

/-- ITS FALSE NEIGHBOUR: 'it returns false'. Refute it at one input. -/
def flowRunsWrong : ChangeSpec := { name := "flowRuns", fn := fun _ => fun
  | [d1, d2, d3, d4] => { results := [.lit (.bool false)], args := [d1, d2, d3, d4] }
  | _ => none }
def FlowRunsWrongFalsely : Prop := flowRunsRow.holds Try.pinned (OpenSpec.ofChange flowRunsWrong)

/-- 'cupolalaw08.FlowMore': WHATEVER THE INPUT: true; the input reads as it did. -/
def flowMoreSpec : ChangeSpec := { name := "flowMore", fn := fun _ => fun
  | [d1, d2, d3, d4] => { results := [.lit (.bool true)], args := [d1, d2, d3, d4] }
  | _ => none }
def flowMoreRow : OpenClaim := { program := "ytgefngjfpodiiaa", sum := "207ee2495620846a1aa4e7b23fb2bce2399bf0603eeb96841590552e42c2d60c", func := "cupola/cupolalaw08.FlowMore", spec := "flowMore", unfollowed := true, recurses := true, apart := false }
def FlowMoreSaid : Prop := flowMoreRow.holds Try.pinned (OpenSpec.ofChange flowMoreSpec)

/-- ITS FALSE NEIGHBOUR: 'it returns false'. Refute it at one input. -/
def flowMoreWrong : ChangeSpec := { name := "flowMore", fn := fun _ => fun
  | [d1, d2, d3, d4] => { results := [.lit (.bool false)], args := [d1, d2, d3, d4] }
  | _ => none }
def FlowMoreWrongFalsely : Prop := flowMoreRow.holds Try.pinned (OpenSpec.ofChange flowMoreWrong)

/-- 'cupolalaw08.FlowHangs': WHATEVER THE INPUT: true; the input reads as it did. -/
def flowHangsSpec : ChangeSpec := { name := "flowHangs", fn := fun _ => fun
  | [d1, d2, d3] => { results := [.lit (.bool true)], args := [d1, d2, d3] }
  | _ => none }
def flowHangsRow : OpenClaim := { program := "ytgefngjfpodiiaa", sum := "207ee2495620846a1aa4e7b23fb2bce2399bf0603eeb96841590552e42c2d60c", func := "cupola/cupolalaw08.FlowHangs", spec := "flowHangs", unfollowed := true, recurses := true, apart := false }
def FlowHangsSaid : Prop := flowHangsRow.holds Try.pinned (OpenSpec.ofChange flowHangsSpec)

/-- ITS FALSE NEIGHBOUR: 'it returns false'. Refute it at one input. -/
def flowHangsWrong : ChangeSpec := { name := "flowHangs", fn := fun _ => fun
  | [d1, d2, d3] => { results := [.lit (.bool false)], args := [d1, d2, d3] }
  | _ => none }
def FlowHangsWrongFalsely : Prop := flowHangsRow.holds Try.pinned (OpenSpec.ofChange flowHangsWrong)

/-- 'cupolalaw08.FlowVals': WHATEVER THE INPUT: true; the input reads as it did. -/
def flowValsSpec : ChangeSpec := { name := "flowVals", fn := fun _ => fun
  | [d1, d2, d3] => { results := [.lit (.bool true)], args := [d1, d2, d3] }
  | _ => none }
def flowValsRow : OpenClaim := { program := "ytgefngjfpodiiaa", sum := "207ee2495620846a1aa4e7b23fb2bce2399bf0603eeb96841590552e42c2d60c", func := "cupola/cupolalaw08.FlowVals", spec := "flowVals", unfollowed := true, recurses := true, apart := false }
def FlowValsSaid : Prop := flowValsRow.holds Try.pinned (OpenSpec.ofChange flowValsSpec)

/-- ITS FALSE NEIGHBOUR: 'it returns false'. Refute it at one input. -/
def flowValsWrong : ChangeSpec := { name := "flowVals", fn := fun _ => fun
  | [d1, d2, d3] => { results := [.lit (.bool false)], args := [d1, d2, d3] }
  | _ => none }
def FlowValsWrongFalsely : Prop := flowValsRow.holds Try.pinned (OpenSpec.ofChange flowValsWrong)

/-- 'cupolalaw08.FlowBare': WHATEVER THE INPUT: true; the input reads as it did. -/
def flowBareSpec : ChangeSpec := { name := "flowBare", fn := fun _ => fun
  | [d1, d2, d3] => { results := [.lit (.bool true)], args := [d1, d2, d3] }
  | _ => none }
def flowBareRow : OpenClaim := { program := "ytgefngjfpodiiaa", sum := "207ee2495620846a1aa4e7b23fb2bce2399bf0603eeb96841590552e42c2d60c", func := "cupola/cupolalaw08.FlowBare", spec := "flowBare", unfollowed := true, recurses := true, apart := false }
def FlowBareSaid : Prop := flowBareRow.holds Try.pinned (OpenSpec.ofChange flowBareSpec)

/-- ITS FALSE NEIGHBOUR: 'it returns false'. Refute it at one input. -/
def flowBareWrong : ChangeSpec := { name := "flowBare", fn := fun _ => fun
  | [d1, d2, d3] => { results := [.lit (.bool false)], args := [d1, d2, d3] }
  | _ => none }
def FlowBareWrongFalsely : Prop := flowBareRow.holds Try.pinned (OpenSpec.ofChange flowBareWrong)

/-- 'cupolalaw08.FlowBegins': WHATEVER THE INPUT: true; the input reads as it did. -/
def flowBeginsSpec : ChangeSpec := { name := "flowBegins", fn := fun _ => fun
  | [d1, d2, d3, d4] => { results := [.lit (.bool true)], args := [d1, d2, d3, d4] }
  | _ => none }
def flowBeginsRow : OpenClaim := { program := "ytgefngjfpodiiaa", sum := "207ee2495620846a1aa4e7b23fb2bce2399bf0603eeb96841590552e42c2d60c", func := "cupola/cupolalaw08.FlowBegins", spec := "flowBegins", unfollowed := true, recurses := true, apart := false }
def FlowBeginsSaid : Prop := flowBeginsRow.holds Try.pinned (OpenSpec.ofChange flowBeginsSpec)

/-- ITS FALSE NEIGHBOUR: 'it returns false'. Refute it at one input. -/
def flowBeginsWrong : ChangeSpec := { name := "flowBegins", fn := fun _ => fun
  | [d1, d2, d3, d4] => { results := [.lit (.bool false)], args := [d1, d2, d3, d4] }
  | _ => none }
def FlowBeginsWrongFalsely : Prop := flowBeginsRow.holds Try.pinned (OpenSpec.ofChange flowBeginsWrong)

/- THE SECOND FORM. 'bulk': how many values and letters a reading holds, each counted each time it is reached (what is shared counts as often as it is met; a slice's spare places count too). A statement '..UptoSaid' is the law's where the arguments, and the package variables that the reading takes, are together of bulk at most 1048576: NARROWER than '..Said'. Prove '..Said' where nothing that the law and all that it calls make is longer than what came in: it says more and counts as full. Else prove '..UptoSaid'. A law counts once. -/
mutual
def uptoBulk {H : Type} : DataW H → Nat
  | .lit (.string bytes) => bytes.length + 1
  | .lit _ => 1
  | .nil => 1
  | .ptr d => uptoBulk d + 1
  | .slice elems spare => uptoBulkAll elems + uptoBulkAll spare + 1
  | .agg parts => uptoBulkAll parts + 1
  | .iface _ d => uptoBulk d + 1
  | .map entries => uptoBulkEntries entries + 1
  | .held _ => 1
def uptoBulkAll {H : Type} : List (DataW H) → Nat
  | [] => 0
  | d :: r => uptoBulk d + uptoBulkAll r
def uptoBulkEntries {H : Type} : List (Lit × DataW H) → Nat
  | [] => 0
  | x :: r => uptoBulkEntry x + uptoBulkEntries r
def uptoBulkEntry {H : Type} : Lit × DataW H → Nat
  | (.string bytes, d) => bytes.length + uptoBulk d + 1
  | (_, d) => uptoBulk d + 1
 end
def uptoSmall : (H : Type) → List (DataW H) → Bool := fun _ ds => decide (uptoBulkAll ds ≤ 1048576)
def OpenSpec.upto (s : _root_.Go.ChangeSpec) : _root_.Go.OpenSpec := { _root_.Go.OpenSpec.ofChange s with cond := some uptoSmall }

/-- 'cupolalaw08.FlowRuns', WHERE WHAT IT READS IS OF BULK AT MOST 1048576: true; the input reads as it did. -/
def flowRunsUptoRow : OpenClaim := { program := "ytgefngjfpodiiaa", sum := "207ee2495620846a1aa4e7b23fb2bce2399bf0603eeb96841590552e42c2d60c", func := "cupola/cupolalaw08.FlowRuns", spec := "flowRuns", unfollowed := true, recurses := true, apart := false, narrowed := true }
def FlowRunsUptoSaid : Prop := flowRunsUptoRow.holds Try.pinned (OpenSpec.upto flowRunsSpec)

/-- 'cupolalaw08.FlowMore', WHERE WHAT IT READS IS OF BULK AT MOST 1048576: true; the input reads as it did. -/
def flowMoreUptoRow : OpenClaim := { program := "ytgefngjfpodiiaa", sum := "207ee2495620846a1aa4e7b23fb2bce2399bf0603eeb96841590552e42c2d60c", func := "cupola/cupolalaw08.FlowMore", spec := "flowMore", unfollowed := true, recurses := true, apart := false, narrowed := true }
def FlowMoreUptoSaid : Prop := flowMoreUptoRow.holds Try.pinned (OpenSpec.upto flowMoreSpec)

/-- 'cupolalaw08.FlowHangs', WHERE WHAT IT READS IS OF BULK AT MOST 1048576: true; the input reads as it did. -/
def flowHangsUptoRow : OpenClaim := { program := "ytgefngjfpodiiaa", sum := "207ee2495620846a1aa4e7b23fb2bce2399bf0603eeb96841590552e42c2d60c", func := "cupola/cupolalaw08.FlowHangs", spec := "flowHangs", unfollowed := true, recurses := true, apart := false, narrowed := true }
def FlowHangsUptoSaid : Prop := flowHangsUptoRow.holds Try.pinned (OpenSpec.upto flowHangsSpec)

/-- 'cupolalaw08.FlowVals', WHERE WHAT IT READS IS OF BULK AT MOST 1048576: true; the input reads as it did. -/
def flowValsUptoRow : OpenClaim := { program := "ytgefngjfpodiiaa", sum := "207ee2495620846a1aa4e7b23fb2bce2399bf0603eeb96841590552e42c2d60c", func := "cupola/cupolalaw08.FlowVals", spec := "flowVals", unfollowed := true, recurses := true, apart := false, narrowed := true }
def FlowValsUptoSaid : Prop := flowValsUptoRow.holds Try.pinned (OpenSpec.upto flowValsSpec)

/-- 'cupolalaw08.FlowBare', WHERE WHAT IT READS IS OF BULK AT MOST 1048576: true; the input reads as it did. -/
def flowBareUptoRow : OpenClaim := { program := "ytgefngjfpodiiaa", sum := "207ee2495620846a1aa4e7b23fb2bce2399bf0603eeb96841590552e42c2d60c", func := "cupola/cupolalaw08.FlowBare", spec := "flowBare", unfollowed := true, recurses := true, apart := false, narrowed := true }
def FlowBareUptoSaid : Prop := flowBareUptoRow.holds Try.pinned (OpenSpec.upto flowBareSpec)

/-- 'cupolalaw08.FlowBegins', WHERE WHAT IT READS IS OF BULK AT MOST 1048576: true; the input reads as it did. -/
def flowBeginsUptoRow : OpenClaim := { program := "ytgefngjfpodiiaa", sum := "207ee2495620846a1aa4e7b23fb2bce2399bf0603eeb96841590552e42c2d60c", func := "cupola/cupolalaw08.FlowBegins", spec := "flowBegins", unfollowed := true, recurses := true, apart := false, narrowed := true }
def FlowBeginsUptoSaid : Prop := flowBeginsUptoRow.holds Try.pinned (OpenSpec.upto flowBeginsSpec)

end Rows
end Go.Proofs.Ytgefngjfpodiiaa
