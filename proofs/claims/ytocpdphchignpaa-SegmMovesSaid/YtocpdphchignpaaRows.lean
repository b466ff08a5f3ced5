/-
  No cell of these rows narrows 'for every input' (looked for: loops, veiled, ifaces, maps, wideKeys, modest, calm, conditions, laid).
  DERIVED. THE GIVEN ROWS OF THIS SEAT. 7 by the template 'for every input the law returns true; each argument reads behind the call as it read before'; 0 by the template 'total and deterministic' (their statements: YtocpdphchignpaaTotals.lean).
  GIVEN WITH THE SEED: the statements are not yours to turn. If you find one false, say at which input.
  Laid BY PROGRAM, IN A SANDBOX (cutbox-rows.mjs): the forced cells as the released guide's own fill.sh prints them over the translation a1130fe0953fd0d9… (all of the seat's roots in one cut). By AI agents, Wed Nov 11 2026. No macro, syntax, notation, axiom, sorry.
-/
import Derived.Test.YtocpdphchignpaaChecked
import GoSem.Claim
import GoSem.ClaimJoined
import GoSem.ClaimMapViews
import Derived.JoinedTies
import Derived.KernelRfl
namespace Go.Proofs.Ytocpdphchignpaa
/- THE CELL 'sum', in the pinned program and in every row, IS THE sha256 OF THE DUMP (.gsa) THAT YtocpdphchignpaaProg.lean LOADS. Nothing in Lean hashes anything: it is a label: what it is worth is what the hold of that sum in a sandbox is worth. -/
noncomputable def Try.pinned : Pinned := { name := "ytocpdphchignpaa", sum := "a1130fe0953fd0d93ad50877ccc4703080742fd8efa521f88955c685be875e39", checked := Try.checked }
namespace Rows
def none {H : Type} : Left H := { results := [], args := [] }

/-- 'pergolalaw4.SegmEven': WHATEVER THE INPUT: true; the input reads as it did. -/
def segmEvenSpec : ChangeSpec := { name := "segmEven", fn := fun _ => fun
  | [d1, d2, d3, d4] => { results := [.lit (.bool true)], args := [d1, d2, d3, d4] }
  | _ => none }
def segmEvenRow : OpenClaim := { program := "ytocpdphchignpaa", sum := "a1130fe0953fd0d93ad50877ccc4703080742fd8efa521f88955c685be875e39", func := "pergola/pergolalaw4.SegmEven", spec := "segmEven", inPlace := ["math/bits.Add64"], named := ["math/bits.divideError", "math/bits.overflowError"], apart := false }
def SegmEvenSaid : Prop := segmEvenRow.holds Try.pinned (OpenSpec.ofChange segmEvenSpec)

/-- ITS FALSE NEIGHBOUR: 'it returns false'. Refute it at one input. -/
def segmEvenWrong : ChangeSpec := { name := "segmEven", fn := fun _ => fun
  | [d1, d2, d3, d4] => { results := [.lit (.bool false)], args := [d1, d2, d3, d4] }
  | _ => none }
def SegmEvenWrongFalsely : Prop := segmEvenRow.holds Try.pinned (OpenSpec.ofChange segmEvenWrong)

/-- 'pergolalaw4.SegmNear': WHATEVER THE INPUT: true; the input reads as it did. -/
def segmNearSpec : ChangeSpec := { name := "segmNear", fn := fun _ => fun
  | [d1, d2, d3] => { results := [.lit (.bool true)], args := [d1, d2, d3] }
  | _ => none }
def segmNearRow : OpenClaim := { program := "ytocpdphchignpaa", sum := "a1130fe0953fd0d93ad50877ccc4703080742fd8efa521f88955c685be875e39", func := "pergola/pergolalaw4.SegmNear", spec := "segmNear", inPlace := ["math/bits.Add64"], named := ["math/bits.divideError", "math/bits.overflowError"], apart := false }
def SegmNearSaid : Prop := segmNearRow.holds Try.pinned (OpenSpec.ofChange segmNearSpec)

/-- ITS FALSE NEIGHBOUR: 'it returns false'. Refute it at one input. -/
def segmNearWrong : ChangeSpec := { name := "segmNear", fn := fun _ => fun
  | [d1, d2, d3] => { results := [.lit (.bool false)], args := [d1, d2, d3] }
  | _ => none }
def SegmNearWrongFalsely : Prop := segmNearRow.holds Try.pinned (OpenSpec.ofChange segmNearWrong)

/-- 'pergolalaw4.SegmMoves': WHATEVER THE INPUT: true; the input reads as it did. -/
def segmMovesSpec : ChangeSpec := { name := "segmMoves", fn := fun _ => fun
  | [d1, d2, d3, d4, d5, d6] => { results := [.lit (.bool true)], args := [d1, d2, d3, d4, d5, d6] }
  | _ => none }
def segmMovesRow : OpenClaim := { program := "ytocpdphchignpaa", sum := "a1130fe0953fd0d93ad50877ccc4703080742fd8efa521f88955c685be875e39", func := "pergola/pergolalaw4.SegmMoves", spec := "segmMoves", inPlace := ["math/bits.Add64"], named := ["math/bits.divideError", "math/bits.overflowError"], apart := false }
def SegmMovesSaid : Prop := segmMovesRow.holds Try.pinned (OpenSpec.ofChange segmMovesSpec)

/-- ITS FALSE NEIGHBOUR: 'it returns false'. Refute it at one input. -/
def segmMovesWrong : ChangeSpec := { name := "segmMoves", fn := fun _ => fun
  | [d1, d2, d3, d4, d5, d6] => { results := [.lit (.bool false)], args := [d1, d2, d3, d4, d5, d6] }
  | _ => none }
def SegmMovesWrongFalsely : Prop := segmMovesRow.holds Try.pinned (OpenSpec.ofChange segmMovesWrong)

/-- 'pergolalaw4.SegmCross': WHATEVER THE INPUT: true; the input reads as it did. -/
def segmCrossSpec : ChangeSpec := { name := "segmCross", fn := fun _ => fun
  | [d1, d2, d3, d4] => { results := [.lit (.bool true)], args := [d1, d2, d3, d4] }
  | _ => none }
def segmCrossRow : OpenClaim := { program := "ytocpdphchignpaa", sum := "a1130fe0953fd0d93ad50877ccc4703080742fd8efa521f88955c685be875e39", func := "pergola/pergolalaw4.SegmCross", spec := "segmCross", inPlace := ["math/bits.Add64"], named := ["math/bits.divideError", "math/bits.overflowError"], apart := false }
def SegmCrossSaid : Prop := segmCrossRow.holds Try.pinned (OpenSpec.ofChange segmCrossSpec)

/-- ITS FALSE NEIGHBOUR: 'it returns false'. Refute it at one input. -/
def segmCrossWrong : ChangeSpec := { name := "segmCross", fn := fun _ => fun
  | [d1, d2, d3, d4] => { results := [.lit (.bool false)], args := [d1, d2, d3, d4] }
  | _ => none }
def SegmCrossWrongFalsely : Prop := segmCrossRow.holds Try.pinned (OpenSpec.ofChange segmCrossWrong)

/-- 'pergolalaw4.SegmParts': WHATEVER THE INPUT: true; the input reads as it did. -/
def segmPartsSpec : ChangeSpec := { name := "segmParts", fn := fun _ => fun
  | [d1, d2, d3, d4, d5, d6] => { results := [.lit (.bool true)], args := [d1, d2, d3, d4, d5, d6] }
  | _ => none }
def segmPartsRow : OpenClaim := { program := "ytocpdphchignpaa", sum := "a1130fe0953fd0d93ad50877ccc4703080742fd8efa521f88955c685be875e39", func := "pergola/pergolalaw4.SegmParts", spec := "segmParts", inPlace := ["math/bits.Add64"], named := ["math/bits.divideError", "math/bits.overflowError"], apart := false }
def SegmPartsSaid : Prop := segmPartsRow.holds Try.pinned (OpenSpec.ofChange segmPartsSpec)

/-- ITS FALSE NEIGHBOUR: 'it returns false'. Refute it at one input. -/
def segmPartsWrong : ChangeSpec := { name := "segmParts", fn := fun _ => fun
  | [d1, d2, d3, d4, d5, d6] => { results := [.lit (.bool false)], args := [d1, d2, d3, d4, d5, d6] }
  | _ => none }
def SegmPartsWrongFalsely : Prop := segmPartsRow.holds Try.pinned (OpenSpec.ofChange segmPartsWrong)

/-- 'pergolalaw4.SegmAsks': WHATEVER THE INPUT: true; the input reads as it did. -/
def segmAsksSpec : ChangeSpec := { name := "segmAsks", fn := fun _ => fun
  | [d1, d2, d3, d4, d5] => { results := [.lit (.bool true)], args := [d1, d2, d3, d4, d5] }
  | _ => none }
def segmAsksRow : OpenClaim := { program := "ytocpdphchignpaa", sum := "a1130fe0953fd0d93ad50877ccc4703080742fd8efa521f88955c685be875e39", func := "pergola/pergolalaw4.SegmAsks", spec := "segmAsks", inPlace := ["math/bits.Add64"], named := ["math/bits.divideError", "math/bits.overflowError"], apart := false }
def SegmAsksSaid : Prop := segmAsksRow.holds Try.pinned (OpenSpec.ofChange segmAsksSpec)

/-- ITS FALSE NEIGHBOUR: 'it returns false'. Refute it at one input. -/
def segmAsksWrong : ChangeSpec := { name := "segmAsks", fn := fun _ => fun
  | [d1, d2, d3, d4, d5] => { results := [.lit (.bool false)], args := [d1, d2, d3, d4, d5] }
  | _ => none }
def SegmAsksWrongFalsely : Prop := segmAsksRow.holds Try.pinned (OpenSpec.ofChange segmAsksWrong)

/-- 'pergolalaw4.SegmBoxes': WHATEVER THE INPUT: true; the input reads as it did. -/
def segmBoxesSpec : ChangeSpec := { name := "segmBoxes", fn := fun _ => fun
  | [d1, d2, d3] => { results := [.lit (.bool true)], args := [d1, d2, d3] }
  | _ => none }
def segmBoxesRow : OpenClaim := { program := "ytocpdphchignpaa", sum := "a1130fe0953fd0d93ad50877ccc4703080742fd8efa521f88955c685be875e39", func := "pergola/pergolalaw4.SegmBoxes", spec := "segmBoxes", inPlace := ["math/bits.Add64"], named := ["math/bits.divideError", "math/bits.overflowError"], apart := false }
def SegmBoxesSaid : Prop := segmBoxesRow.holds Try.pinned (OpenSpec.ofChange segmBoxesSpec)

/-- ITS FALSE NEIGHBOUR: 'it returns false'. Refute it at one input. -/
def segmBoxesWrong : ChangeSpec := { name := "segmBoxes", fn := fun _ => fun
  | [d1, d2, d3] => { results := [.lit (.bool false)], args := [d1, d2, d3] }
  | _ => none }
def SegmBoxesWrongFalsely : Prop := segmBoxesRow.holds Try.pinned (OpenSpec.ofChange segmBoxesWrong)

/- THE SECOND FORM. 'bulk': how many values and letters a reading holds, each counted each time it is reached (what is shared counts as often as it is met; a slice's spare places count too). A statement '..UptoSaid' is the law's where the arguments, and the package variables that the reading takes, are together of bulk at most 1048576: NARROWER than '..Said'. Prove '..Said' where nothing that the law and all that it calls make is longer than what came in: it says more and counts as full. Else prove '..UptoSaid'. A law counts once. -/
mutual
def uptoBulk {H : Type} : DataW H → Nat
  | .lit (.string bytes) => bytes.length + 1
  | .lit _ => 1
  | .nil => 1
  | .ptr d => uptoBulk d + 1
  | .slice elems spare => uptoBulkAll elems + uptoBulkAll spare + 1
  | .agg parts => uptoBulkAll parts + 1
  | .iface _ d => uptoBulk d + 1
  | .map entries => uptoBulkEntries entries + 1
  | .held _ => 1
def uptoBulkAll {H : Type} : List (DataW H) → Nat
  | [] => 0
  | d :: r => uptoBulk d + uptoBulkAll r
def uptoBulkEntries {H : Type} : List (Lit × DataW H) → Nat
  | [] => 0
  | x :: r => uptoBulkEntry x + uptoBulkEntries r
def uptoBulkEntry {H : Type} : Lit × DataW H → Nat
  | (.string bytes, d) => bytes.length + uptoBulk d + 1
  | (_, d) => uptoBulk d + 1
 end
def uptoSmall : (H : Type) → List (DataW H) → Bool := fun _ ds => decide (uptoBulkAll ds ≤ 1048576)
def OpenSpec.upto (s : _root_.Go.ChangeSpec) : _root_.Go.OpenSpec := { _root_.Go.OpenSpec.ofChange s with cond := some uptoSmall }

/-- 'pergolalaw4.SegmEven', WHERE WHAT IT READS IS OF BULK AT MOST 1048576: true; the input reads as it did. -/
def segmEvenUptoRow : OpenClaim := { program := "ytocpdphchignpaa", sum := "a1130fe0953fd0d93ad50877ccc4703080742fd8efa521f88955c685be875e39", func := "pergola/pergolalaw4.SegmEven", spec := "segmEven", inPlace := ["math/bits.Add64"], named := ["math/bits.divideError", "math/bits.overflowError"], apart := false, narrowed := true }
def SegmEvenUptoSaid : Prop := segmEvenUptoRow.holds Try.pinned (OpenSpec.upto segmEvenSpec)

/-- 'pergolalaw4.SegmNear', WHERE WHAT IT READS IS OF BULK AT MOST 1048576: true; the input reads as it did. -/
def segmNearUptoRow : OpenClaim := { program := "ytocpdphchignpaa", sum := "a1130fe0953fd0d93ad50877ccc4703080742fd8efa521f88955c685be875e39", func := "pergola/pergolalaw4.SegmNear", spec := "segmNear", inPlace := ["math/bits.Add64"], named := ["math/bits.divideError", "math/bits.overflowError"], apart := false, narrowed := true }
def SegmNearUptoSaid : Prop := segmNearUptoRow.holds Try.pinned (OpenSpec.upto segmNearSpec)

/-- 'pergolalaw4.SegmMoves', WHERE WHAT IT READS IS OF BULK AT MOST 1048576: true; the input reads as it did. -/
def segmMovesUptoRow : OpenClaim := { program := "ytocpdphchignpaa", sum := "a1130fe0953fd0d93ad50877ccc4703080742fd8efa521f88955c685be875e39", func := "pergola/pergolalaw4.SegmMoves", spec := "segmMoves", inPlace := ["math/bits.Add64"], named := ["math/bits.divideError", "math/bits.overflowError"], apart := false, narrowed := true }
def SegmMovesUptoSaid : Prop := segmMovesUptoRow.holds Try.pinned (OpenSpec.upto segmMovesSpec)

/-- 'pergolalaw4.SegmCross', WHERE WHAT IT READS IS OF BULK AT MOST 1048576: true; the input reads as it did. -/
def segmCrossUptoRow : OpenClaim := { program := "ytocpdphchignpaa", sum := "a1130fe0953fd0d93ad50877ccc4703080742fd8efa521f88955c685be875e39", func := "pergola/pergolalaw4.SegmCross", spec := "segmCross", inPlace := ["math/bits.Add64"], named := ["math/bits.divideError", "math/bits.overflowError"], apart := false, narrowed := true }
def SegmCrossUptoSaid : Prop := segmCrossUptoRow.holds Try.pinned (OpenSpec.upto segmCrossSpec)

/-- 'pergolalaw4.SegmParts', WHERE WHAT IT READS IS OF BULK AT MOST 1048576: true; the input reads as it did. -/
def segmPartsUptoRow : OpenClaim := { program := "ytocpdphchignpaa", sum := "a1130fe0953fd0d93ad50877ccc4703080742fd8efa521f88955c685be875e39", func := "pergola/pergolalaw4.SegmParts", spec := "segmParts", inPlace := ["math/bits.Add64"], named := ["math/bits.divideError", "math/bits.overflowError"], apart := false, narrowed := true }
def SegmPartsUptoSaid : Prop := segmPartsUptoRow.holds Try.pinned (OpenSpec.upto segmPartsSpec)

/-- 'pergolalaw4.SegmAsks', WHERE WHAT IT READS IS OF BULK AT MOST 1048576: true; the input reads as it did. -/
def segmAsksUptoRow : OpenClaim := { program := "ytocpdphchignpaa", sum := "a1130fe0953fd0d93ad50877ccc4703080742fd8efa521f88955c685be875e39", func := "pergola/pergolalaw4.SegmAsks", spec := "segmAsks", inPlace := ["math/bits.Add64"], named := ["math/bits.divideError", "math/bits.overflowError"], apart := false, narrowed := true }
def SegmAsksUptoSaid : Prop := segmAsksUptoRow.holds Try.pinned (OpenSpec.upto segmAsksSpec)

/-- 'pergolalaw4.SegmBoxes', WHERE WHAT IT READS IS OF BULK AT MOST 1048576: true; the input reads as it did. -/
def segmBoxesUptoRow : OpenClaim := { program := "ytocpdphchignpaa", sum := "a1130fe0953fd0d93ad50877ccc4703080742fd8efa521f88955c685be875e39", func := "pergola/pergolalaw4.SegmBoxes", spec := "segmBoxes", inPlace := ["math/bits.Add64"], named := ["math/bits.divideError", "math/bits.overflowError"], apart := false, narrowed := true }
def SegmBoxesUptoSaid : Prop := segmBoxesUptoRow.holds Try.pinned (OpenSpec.upto segmBoxesSpec)

end Rows
end Go.Proofs.Ytocpdphchignpaa
