/-
  No cell of these rows narrows 'for every input' (looked for: loops, veiled, ifaces, maps, wideKeys, modest, calm, conditions, laid).
  DERIVED. THE GIVEN ROWS OF THIS SEAT. 12 by the template 'for every input the law returns true; each argument reads behind the call as it read before'; 0 by the template 'total and deterministic' (their statements: YthfnjogadngfiaaTotals.lean).
  GIVEN WITH THE SEED: the statements are not yours to turn. If you find one false, say at which input.
  Laid BY PROGRAM, IN A SANDBOX (cutbox-rows.mjs): the forced cells as the released guide's own fill.sh prints them over the translation 7c8dce95e12da053… (all of the seat's roots in one cut). By AI agents, Wed Nov 11 2026. No macro, syntax, notation, axiom, sorry.
-/
import Derived.Test.YthfnjogadngfiaaChecked
import GoSem.Claim
import GoSem.ClaimJoined
import GoSem.ClaimMapViews
import Derived.JoinedTies
import Derived.KernelRfl
namespace Go.Proofs.Ythfnjogadngfiaa
/- THE CELL 'sum', in the pinned program and in every row, IS THE sha256 OF THE DUMP (.gsa) THAT YthfnjogadngfiaaProg.lean LOADS. Nothing in Lean hashes anything: it is a label: what it is worth is what the hold of that sum in a sandbox is worth. -/
noncomputable def Try.pinned : Pinned := { name := "ythfnjogadngfiaa", sum := "7c8dce95e12da05395c7d0ba75639e3fbae4fe74ef5899c1cc164a8e7a9192bb", checked := Try.checked }
namespace Rows
def none {H : Type} : Left H := { results := [], args := [] }

/-- 'interleavelaw34.SolveDecides': WHATEVER THE INPUT: true; the input reads as it did. -/
def solveDecidesSpec : ChangeSpec := { name := "solveDecides", fn := fun _ => fun
  | [d] => { results := [.lit (.bool true)], args := [d] }
  | _ => none }
def solveDecidesRow : OpenClaim := { program := "ythfnjogadngfiaa", sum := "7c8dce95e12da05395c7d0ba75639e3fbae4fe74ef5899c1cc164a8e7a9192bb", func := "interleave/interleavelaw34.SolveDecides", spec := "solveDecides", unfollowed := true, recurses := true, apart := false }
def SolveDecidesSaid : Prop := solveDecidesRow.holds Try.pinned (OpenSpec.ofChange solveDecidesSpec)

/-- ITS FALSE NEIGHBOUR: 'it returns false'. Refute it at one input. -/
def solveDecidesWrong : ChangeSpec := { name := "solveDecides", fn := fun _ => fun
  | [d] => { results := [.lit (.bool false)], args := [d] }
  | _ => none }
def SolveDecidesWrongFalsely : Prop := solveDecidesRow.holds Try.pinned (OpenSpec.ofChange solveDecidesWrong)

/-- 'interleavelaw34.SolveLarger': WHATEVER THE INPUT: true; the input reads as it did. -/
def solveLargerSpec : ChangeSpec := { name := "solveLarger", fn := fun _ => fun
  | [d] => { results := [.lit (.bool true)], args := [d] }
  | _ => none }
def solveLargerRow : OpenClaim := { program := "ythfnjogadngfiaa", sum := "7c8dce95e12da05395c7d0ba75639e3fbae4fe74ef5899c1cc164a8e7a9192bb", func := "interleave/interleavelaw34.SolveLarger", spec := "solveLarger", unfollowed := true, recurses := true, apart := false }
def SolveLargerSaid : Prop := solveLargerRow.holds Try.pinned (OpenSpec.ofChange solveLargerSpec)

/-- ITS FALSE NEIGHBOUR: 'it returns false'. Refute it at one input. -/
def solveLargerWrong : ChangeSpec := { name := "solveLarger", fn := fun _ => fun
  | [d] => { results := [.lit (.bool false)], args := [d] }
  | _ => none }
def SolveLargerWrongFalsely : Prop := solveLargerRow.holds Try.pinned (OpenSpec.ofChange solveLargerWrong)

/-- 'interleavelaw34.SolveAny': WHATEVER THE INPUT: true; the input reads as it did. -/
def solveAnySpec : ChangeSpec := { name := "solveAny", fn := fun _ => fun
  | [d] => { results := [.lit (.bool true)], args := [d] }
  | _ => none }
def solveAnyRow : OpenClaim := { program := "ythfnjogadngfiaa", sum := "7c8dce95e12da05395c7d0ba75639e3fbae4fe74ef5899c1cc164a8e7a9192bb", func := "interleave/interleavelaw34.SolveAny", spec := "solveAny", unfollowed := true, recurses := true, apart := false }
def SolveAnySaid : Prop := solveAnyRow.holds Try.pinned (OpenSpec.ofChange solveAnySpec)

/-- ITS FALSE NEIGHBOUR: 'it returns false'. Refute it at one input. -/
def solveAnyWrong : ChangeSpec := { name := "solveAny", fn := fun _ => fun
  | [d] => { results := [.lit (.bool false)], args := [d] }
  | _ => none }
def SolveAnyWrongFalsely : Prop := solveAnyRow.holds Try.pinned (OpenSpec.ofChange solveAnyWrong)

/-- 'interleavelaw34.SolveModels': WHATEVER THE INPUT: true; the input reads as it did. -/
def solveModelsSpec : ChangeSpec := { name := "solveModels", fn := fun _ => fun
  | [d1, d2, d3] => { results := [.lit (.bool true)], args := [d1, d2, d3] }
  | _ => none }
def solveModelsRow : OpenClaim := { program := "ythfnjogadngfiaa", sum := "7c8dce95e12da05395c7d0ba75639e3fbae4fe74ef5899c1cc164a8e7a9192bb", func := "interleave/interleavelaw34.SolveModels", spec := "solveModels", unfollowed := true, recurses := true, apart := false }
def SolveModelsSaid : Prop := solveModelsRow.holds Try.pinned (OpenSpec.ofChange solveModelsSpec)

/-- ITS FALSE NEIGHBOUR: 'it returns false'. Refute it at one input. -/
def solveModelsWrong : ChangeSpec := { name := "solveModels", fn := fun _ => fun
  | [d1, d2, d3] => { results := [.lit (.bool false)], args := [d1, d2, d3] }
  | _ => none }
def SolveModelsWrongFalsely : Prop := solveModelsRow.holds Try.pinned (OpenSpec.ofChange solveModelsWrong)

/-- 'interleavelaw34.SolveRings': WHATEVER THE INPUT: true; the input reads as it did. -/
def solveRingsSpec : ChangeSpec := { name := "solveRings", fn := fun _ => fun
  | [d1, d2] => { results := [.lit (.bool true)], args := [d1, d2] }
  | _ => none }
def solveRingsRow : OpenClaim := { program := "ythfnjogadngfiaa", sum := "7c8dce95e12da05395c7d0ba75639e3fbae4fe74ef5899c1cc164a8e7a9192bb", func := "interleave/interleavelaw34.SolveRings", spec := "solveRings", unfollowed := true, recurses := true, apart := false }
def SolveRingsSaid : Prop := solveRingsRow.holds Try.pinned (OpenSpec.ofChange solveRingsSpec)

/-- ITS FALSE NEIGHBOUR: 'it returns false'. Refute it at one input. -/
def solveRingsWrong : ChangeSpec := { name := "solveRings", fn := fun _ => fun
  | [d1, d2] => { results := [.lit (.bool false)], args := [d1, d2] }
  | _ => none }
def SolveRingsWrongFalsely : Prop := solveRingsRow.holds Try.pinned (OpenSpec.ofChange solveRingsWrong)

/-- 'interleavelaw34.SolvePigeons': WHATEVER THE INPUT: true; the input reads as it did. -/
def solvePigeonsSpec : ChangeSpec := { name := "solvePigeons", fn := fun _ => fun
  | [d] => { results := [.lit (.bool true)], args := [d] }
  | _ => none }
def solvePigeonsRow : OpenClaim := { program := "ythfnjogadngfiaa", sum := "7c8dce95e12da05395c7d0ba75639e3fbae4fe74ef5899c1cc164a8e7a9192bb", func := "interleave/interleavelaw34.SolvePigeons", spec := "solvePigeons", unfollowed := true, recurses := true, apart := false }
def SolvePigeonsSaid : Prop := solvePigeonsRow.holds Try.pinned (OpenSpec.ofChange solvePigeonsSpec)

/-- ITS FALSE NEIGHBOUR: 'it returns false'. Refute it at one input. -/
def solvePigeonsWrong : ChangeSpec := { name := "solvePigeons", fn := fun _ => fun
  | [d] => { results := [.lit (.bool false)], args := [d] }
  | _ => none }
def SolvePigeonsWrongFalsely : Prop := solvePigeonsRow.holds Try.pinned (OpenSpec.ofChange solvePigeonsWrong)

/-- 'interleavelaw34.SolveStays': WHATEVER THE INPUT: true; the input reads as it did. -/
def solveStaysSpec : ChangeSpec := { name := "solveStays", fn := fun _ => fun
  | [d1, d2, d3] => { results := [.lit (.bool true)], args := [d1, d2, d3] }
  | _ => none }
def solveStaysRow : OpenClaim := { program := "ythfnjogadngfiaa", sum := "7c8dce95e12da05395c7d0ba75639e3fbae4fe74ef5899c1cc164a8e7a9192bb", func := "interleave/interleavelaw34.SolveStays", spec := "solveStays", unfollowed := true, recurses := true, apart := false }
def SolveStaysSaid : Prop := solveStaysRow.holds Try.pinned (OpenSpec.ofChange solveStaysSpec)

/-- ITS FALSE NEIGHBOUR: 'it returns false'. Refute it at one input. -/
def solveStaysWrong : ChangeSpec := { name := "solveStays", fn := fun _ => fun
  | [d1, d2, d3] => { results := [.lit (.bool false)], args := [d1, d2, d3] }
  | _ => none }
def SolveStaysWrongFalsely : Prop := solveStaysRow.holds Try.pinned (OpenSpec.ofChange solveStaysWrong)

/-- 'interleavelaw34.PropagateExact': WHATEVER THE INPUT: true; the input reads as it did. -/
def propagateExactSpec : ChangeSpec := { name := "propagateExact", fn := fun _ => fun
  | [d1, d2] => { results := [.lit (.bool true)], args := [d1, d2] }
  | _ => none }
def propagateExactRow : OpenClaim := { program := "ythfnjogadngfiaa", sum := "7c8dce95e12da05395c7d0ba75639e3fbae4fe74ef5899c1cc164a8e7a9192bb", func := "interleave/interleavelaw34.PropagateExact", spec := "propagateExact", unfollowed := true, recurses := true, apart := false }
def PropagateExactSaid : Prop := propagateExactRow.holds Try.pinned (OpenSpec.ofChange propagateExactSpec)

/-- ITS FALSE NEIGHBOUR: 'it returns false'. Refute it at one input. -/
def propagateExactWrong : ChangeSpec := { name := "propagateExact", fn := fun _ => fun
  | [d1, d2] => { results := [.lit (.bool false)], args := [d1, d2] }
  | _ => none }
def PropagateExactWrongFalsely : Prop := propagateExactRow.holds Try.pinned (OpenSpec.ofChange propagateExactWrong)

/-- 'interleavelaw34.PropagateAny': WHATEVER THE INPUT: true; the input reads as it did. -/
def propagateAnySpec : ChangeSpec := { name := "propagateAny", fn := fun _ => fun
  | [d1, d2] => { results := [.lit (.bool true)], args := [d1, d2] }
  | _ => none }
def propagateAnyRow : OpenClaim := { program := "ythfnjogadngfiaa", sum := "7c8dce95e12da05395c7d0ba75639e3fbae4fe74ef5899c1cc164a8e7a9192bb", func := "interleave/interleavelaw34.PropagateAny", spec := "propagateAny", unfollowed := true, recurses := true, apart := false }
def PropagateAnySaid : Prop := propagateAnyRow.holds Try.pinned (OpenSpec.ofChange propagateAnySpec)

/-- ITS FALSE NEIGHBOUR: 'it returns false'. Refute it at one input. -/
def propagateAnyWrong : ChangeSpec := { name := "propagateAny", fn := fun _ => fun
  | [d1, d2] => { results := [.lit (.bool false)], args := [d1, d2] }
  | _ => none }
def PropagateAnyWrongFalsely : Prop := propagateAnyRow.holds Try.pinned (OpenSpec.ofChange propagateAnyWrong)

/-- 'interleavelaw34.PropagateCloses': WHATEVER THE INPUT: true; the input reads as it did. -/
def propagateClosesSpec : ChangeSpec := { name := "propagateCloses", fn := fun _ => fun
  | [d1, d2, d3] => { results := [.lit (.bool true)], args := [d1, d2, d3] }
  | _ => none }
def propagateClosesRow : OpenClaim := { program := "ythfnjogadngfiaa", sum := "7c8dce95e12da05395c7d0ba75639e3fbae4fe74ef5899c1cc164a8e7a9192bb", func := "interleave/interleavelaw34.PropagateCloses", spec := "propagateCloses", unfollowed := true, recurses := true, apart := false }
def PropagateClosesSaid : Prop := propagateClosesRow.holds Try.pinned (OpenSpec.ofChange propagateClosesSpec)

/-- ITS FALSE NEIGHBOUR: 'it returns false'. Refute it at one input. -/
def propagateClosesWrong : ChangeSpec := { name := "propagateCloses", fn := fun _ => fun
  | [d1, d2, d3] => { results := [.lit (.bool false)], args := [d1, d2, d3] }
  | _ => none }
def PropagateClosesWrongFalsely : Prop := propagateClosesRow.holds Try.pinned (OpenSpec.ofChange propagateClosesWrong)

/-- 'interleavelaw34.PropagateSound': WHATEVER THE INPUT: true; the input reads as it did. -/
def propagateSoundSpec : ChangeSpec := { name := "propagateSound", fn := fun _ => fun
  | [d1, d2] => { results := [.lit (.bool true)], args := [d1, d2] }
  | _ => none }
def propagateSoundRow : OpenClaim := { program := "ythfnjogadngfiaa", sum := "7c8dce95e12da05395c7d0ba75639e3fbae4fe74ef5899c1cc164a8e7a9192bb", func := "interleave/interleavelaw34.PropagateSound", spec := "propagateSound", unfollowed := true, recurses := true, apart := false }
def PropagateSoundSaid : Prop := propagateSoundRow.holds Try.pinned (OpenSpec.ofChange propagateSoundSpec)

/-- ITS FALSE NEIGHBOUR: 'it returns false'. Refute it at one input. -/
def propagateSoundWrong : ChangeSpec := { name := "propagateSound", fn := fun _ => fun
  | [d1, d2] => { results := [.lit (.bool false)], args := [d1, d2] }
  | _ => none }
def PropagateSoundWrongFalsely : Prop := propagateSoundRow.holds Try.pinned (OpenSpec.ofChange propagateSoundWrong)

/-- 'interleavelaw34.SolveTrims': WHATEVER THE INPUT: true; the input reads as it did. -/
def solveTrimsSpec : ChangeSpec := { name := "solveTrims", fn := fun _ => fun
  | [d] => { results := [.lit (.bool true)], args := [d] }
  | _ => none }
def solveTrimsRow : OpenClaim := { program := "ythfnjogadngfiaa", sum := "7c8dce95e12da05395c7d0ba75639e3fbae4fe74ef5899c1cc164a8e7a9192bb", func := "interleave/interleavelaw34.SolveTrims", spec := "solveTrims", unfollowed := true, recurses := true, apart := false }
def SolveTrimsSaid : Prop := solveTrimsRow.holds Try.pinned (OpenSpec.ofChange solveTrimsSpec)

/-- ITS FALSE NEIGHBOUR: 'it returns false'. Refute it at one input. -/
def solveTrimsWrong : ChangeSpec := { name := "solveTrims", fn := fun _ => fun
  | [d] => { results := [.lit (.bool false)], args := [d] }
  | _ => none }
def SolveTrimsWrongFalsely : Prop := solveTrimsRow.holds Try.pinned (OpenSpec.ofChange solveTrimsWrong)

/- THE SECOND FORM. 'bulk': how many values and letters a reading holds, each counted each time it is reached (what is shared counts as often as it is met; a slice's spare places count too). A statement '..UptoSaid' is the law's where the arguments, and the package variables that the reading takes, are together of bulk at most 1048576: NARROWER than '..Said'. Prove '..Said' where nothing that the law and all that it calls make is longer than what came in: it says more and counts as full. Else prove '..UptoSaid'. A law counts once. -/
mutual
def uptoBulk {H : Type} : DataW H → Nat
  | .lit (.string bytes) => bytes.length + 1
  | .lit _ => 1
  | .nil => 1
  | .ptr d => uptoBulk d + 1
  | .slice elems spare => uptoBulkAll elems + uptoBulkAll spare + 1
  | .agg parts => uptoBulkAll parts + 1
  | .iface _ d => uptoBulk d + 1
  | .map entries => uptoBulkEntries entries + 1
  | .held _ => 1
def uptoBulkAll {H : Type} : List (DataW H) → Nat
  | [] => 0
  | d :: r => uptoBulk d + uptoBulkAll r
def uptoBulkEntries {H : Type} : List (Lit × DataW H) → Nat
  | [] => 0
  | x :: r => uptoBulkEntry x + uptoBulkEntries r
def uptoBulkEntry {H : Type} : Lit × DataW H → Nat
  | (.string bytes, d) => bytes.length + uptoBulk d + 1
  | (_, d) => uptoBulk d + 1
 end
def uptoSmall : (H : Type) → List (DataW H) → Bool := fun _ ds => decide (uptoBulkAll ds ≤ 1048576)
def OpenSpec.upto (s : _root_.Go.ChangeSpec) : _root_.Go.OpenSpec := { _root_.Go.OpenSpec.ofChange s with cond := some uptoSmall }

/-- 'interleavelaw34.SolveDecides', WHERE WHAT IT READS IS OF BULK AT MOST 1048576: true; the input reads as it did. -/
def solveDecidesUptoRow : OpenClaim := { program := "ythfnjogadngfiaa", sum := "7c8dce95e12da05395c7d0ba75639e3fbae4fe74ef5899c1cc164a8e7a9192bb", func := "interleave/interleavelaw34.SolveDecides", spec := "solveDecides", unfollowed := true, recurses := true, apart := false, narrowed := true }
def SolveDecidesUptoSaid : Prop := solveDecidesUptoRow.holds Try.pinned (OpenSpec.upto solveDecidesSpec)

/-- 'interleavelaw34.SolveLarger', WHERE WHAT IT READS IS OF BULK AT MOST 1048576: true; the input reads as it did. -/
def solveLargerUptoRow : OpenClaim := { program := "ythfnjogadngfiaa", sum := "7c8dce95e12da05395c7d0ba75639e3fbae4fe74ef5899c1cc164a8e7a9192bb", func := "interleave/interleavelaw34.SolveLarger", spec := "solveLarger", unfollowed := true, recurses := true, apart := false, narrowed := true }
def SolveLargerUptoSaid : Prop := solveLargerUptoRow.holds Try.pinned (OpenSpec.upto solveLargerSpec)

/-- 'interleavelaw34.SolveAny', WHERE WHAT IT READS IS OF BULK AT MOST 1048576: true; the input reads as it did. -/
def solveAnyUptoRow : OpenClaim := { program := "ythfnjogadngfiaa", sum := "7c8dce95e12da05395c7d0ba75639e3fbae4fe74ef5899c1cc164a8e7a9192bb", func := "interleave/interleavelaw34.SolveAny", spec := "solveAny", unfollowed := true, recurses := true, apart := false, narrowed := true }
def SolveAnyUptoSaid : Prop := solveAnyUptoRow.holds Try.pinned (OpenSpec.upto solveAnySpec)

/-- 'interleavelaw34.SolveModels', WHERE WHAT IT READS IS OF BULK AT MOST 1048576: true; the input reads as it did. -/
def solveModelsUptoRow : OpenClaim := { program := "ythfnjogadngfiaa", sum := "7c8dce95e12da05395c7d0ba75639e3fbae4fe74ef5899c1cc164a8e7a9192bb", func := "interleave/interleavelaw34.SolveModels", spec := "solveModels", unfollowed := true, recurses := true, apart := false, narrowed := true }
def SolveModelsUptoSaid : Prop := solveModelsUptoRow.holds Try.pinned (OpenSpec.upto solveModelsSpec)

/-- 'interleavelaw34.SolveRings', WHERE WHAT IT READS IS OF BULK AT MOST 1048576: true; the input reads as it did. -/
def solveRingsUptoRow : OpenClaim := { program := "ythfnjogadngfiaa", sum := "7c8dce95e12da05395c7d0ba75639e3fbae4fe74ef5899c1cc164a8e7a9192bb", func := "interleave/interleavelaw34.SolveRings", spec := "solveRings", unfollowed := true, recurses := true, apart := false, narrowed := true }
def SolveRingsUptoSaid : Prop := solveRingsUptoRow.holds Try.pinned (OpenSpec.upto solveRingsSpec)

/-- 'interleavelaw34.SolvePigeons', WHERE WHAT IT READS IS OF BULK AT MOST 1048576: true; the input reads as it did. -/
def solvePigeonsUptoRow : OpenClaim := { program := "ythfnjogadngfiaa", sum := "7c8dce95e12da05395c7d0ba75639e3fbae4fe74ef5899c1cc164a8e7a9192bb", func := "interleave/interleavelaw34.SolvePigeons", spec := "solvePigeons", unfollowed := true, recurses := true, apart := false, narrowed := true }
def SolvePigeonsUptoSaid : Prop := solvePigeonsUptoRow.holds Try.pinned (OpenSpec.upto solvePigeonsSpec)

/-- 'interleavelaw34.SolveStays', WHERE WHAT IT READS IS OF BULK AT MOST 1048576: true; the input reads as it did. -/
def solveStaysUptoRow : OpenClaim := { program := "ythfnjogadngfiaa", sum := "7c8dce95e12da05395c7d0ba75639e3fbae4fe74ef5899c1cc164a8e7a9192bb", func := "interleave/interleavelaw34.SolveStays", spec := "solveStays", unfollowed := true, recurses := true, apart := false, narrowed := true }
def SolveStaysUptoSaid : Prop := solveStaysUptoRow.holds Try.pinned (OpenSpec.upto solveStaysSpec)

/-- 'interleavelaw34.PropagateExact', WHERE WHAT IT READS IS OF BULK AT MOST 1048576: true; the input reads as it did. -/
def propagateExactUptoRow : OpenClaim := { program := "ythfnjogadngfiaa", sum := "7c8dce95e12da05395c7d0ba75639e3fbae4fe74ef5899c1cc164a8e7a9192bb", func := "interleave/interleavelaw34.PropagateExact", spec := "propagateExact", unfollowed := true, recurses := true, apart := false, narrowed := true }
def PropagateExactUptoSaid : Prop := propagateExactUptoRow.holds Try.pinned (OpenSpec.upto propagateExactSpec)

/-- 'interleavelaw34.PropagateAny', WHERE WHAT IT READS IS OF BULK AT MOST 1048576: true; the input reads as it did. -/
def propagateAnyUptoRow : OpenClaim := { program := "ythfnjogadngfiaa", sum := "7c8dce95e12da05395c7d0ba75639e3fbae4fe74ef5899c1cc164a8e7a9192bb", func := "interleave/interleavelaw34.PropagateAny", spec := "propagateAny", unfollowed := true, recurses := true, apart := false, narrowed := true }
def PropagateAnyUptoSaid : Prop := propagateAnyUptoRow.holds Try.pinned (OpenSpec.upto propagateAnySpec)

/-- 'interleavelaw34.PropagateCloses', WHERE WHAT IT READS IS OF BULK AT MOST 1048576: true; the input reads as it did. -/
def propagateClosesUptoRow : OpenClaim := { program := "ythfnjogadngfiaa", sum := "7c8dce95e12da05395c7d0ba75639e3fbae4fe74ef5899c1cc164a8e7a9192bb", func := "interleave/interleavelaw34.PropagateCloses", spec := "propagateCloses", unfollowed := true, recurses := true, apart := false, narrowed := true }
def PropagateClosesUptoSaid : Prop := propagateClosesUptoRow.holds Try.pinned (OpenSpec.upto propagateClosesSpec)

/-- 'interleavelaw34.PropagateSound', WHERE WHAT IT READS IS OF BULK AT MOST 1048576: true; the input reads as it did. -/
def propagateSoundUptoRow : OpenClaim := { program := "ythfnjogadngfiaa", sum := "7c8dce95e12da05395c7d0ba75639e3fbae4fe74ef5899c1cc164a8e7a9192bb", func := "interleave/interleavelaw34.PropagateSound", spec := "propagateSound", unfollowed := true, recurses := true, apart := false, narrowed := true }
def PropagateSoundUptoSaid : Prop := propagateSoundUptoRow.holds Try.pinned (OpenSpec.upto propagateSoundSpec)

/-- 'interleavelaw34.SolveTrims', WHERE WHAT IT READS IS OF BULK AT MOST 1048576: true; the input reads as it did. -/
def solveTrimsUptoRow : OpenClaim := { program := "ythfnjogadngfiaa", sum := "7c8dce95e12da05395c7d0ba75639e3fbae4fe74ef5899c1cc164a8e7a9192bb", func := "interleave/interleavelaw34.SolveTrims", spec := "solveTrims", unfollowed := true, recurses := true, apart := false, narrowed := true }
def SolveTrimsUptoSaid : Prop := solveTrimsUptoRow.holds Try.pinned (OpenSpec.upto solveTrimsSpec)

end Rows
end Go.Proofs.Ythfnjogadngfiaa
