/-
  No cell of these rows narrows 'for every input' (looked for: loops, veiled, ifaces, maps, wideKeys, modest, calm, conditions, laid).
  DERIVED. THE GIVEN ROWS OF THIS SEAT. 9 by the template 'for every input the law returns true; each argument reads behind the call as it read before'; 0 by the template 'total and deterministic' (their statements: YtdcpeeolfgohmaaTotals.lean).
  GIVEN WITH THE SEED: the statements are not yours to turn. If you find one false, say at which input.
  Laid BY PROGRAM, IN A SANDBOX (cutbox-rows.mjs): the forced cells as the released guide's own fill.sh prints them over the translation f295bc258ec86325… (all of the seat's roots in one cut). By AI agents, Wed Nov 11 2026. No macro, syntax, notation, axiom, sorry.
-/
import Derived.Test.YtdcpeeolfgohmaaChecked
import GoSem.Claim
import GoSem.ClaimJoined
import GoSem.ClaimMapViews
import Derived.JoinedTies
import Derived.KernelRfl
namespace Go.Proofs.Ytdcpeeolfgohmaa
/- THE CELL 'sum', in the pinned program and in every row, IS THE sha256 OF THE DUMP (.gsa) THAT YtdcpeeolfgohmaaProg.lean LOADS. Nothing in Lean hashes anything: it is a label: what it is worth is what the hold of that sum in a sandbox is worth. -/
noncomputable def Try.pinned : Pinned := { name := "ytdcpeeolfgohmaa", sum := "f295bc258ec86325023d40d1f240581e34fa4a8e484eb544809f30bec9ae0c60", checked := Try.checked }
namespace Rows
def none {H : Type} : Left H := { results := [], args := [] }

/-- 'halidelaw9.KernelAll': WHATEVER THE INPUT: true; the input reads as it did. -/
def kernelAllSpec : ChangeSpec := { name := "kernelAll", fn := fun _ => fun
  | [d1, d2, d3, d4] => { results := [.lit (.bool true)], args := [d1, d2, d3, d4] }
  | _ => none }
def kernelAllRow : OpenClaim := { program := "ytdcpeeolfgohmaa", sum := "f295bc258ec86325023d40d1f240581e34fa4a8e484eb544809f30bec9ae0c60", func := "halide/halidelaw9.KernelAll", spec := "kernelAll", unfollowed := true, recurses := true, apart := false }
def KernelAllSaid : Prop := kernelAllRow.holds Try.pinned (OpenSpec.ofChange kernelAllSpec)

/-- ITS FALSE NEIGHBOUR: 'it returns false'. Refute it at one input. -/
def kernelAllWrong : ChangeSpec := { name := "kernelAll", fn := fun _ => fun
  | [d1, d2, d3, d4] => { results := [.lit (.bool false)], args := [d1, d2, d3, d4] }
  | _ => none }
def KernelAllWrongFalsely : Prop := kernelAllRow.holds Try.pinned (OpenSpec.ofChange kernelAllWrong)

/-- 'halidelaw28.WarpMaps': WHATEVER THE INPUT: true; the input reads as it did. -/
def warpMapsSpec : ChangeSpec := { name := "warpMaps", fn := fun _ => fun
  | [d1, d2] => { results := [.lit (.bool true)], args := [d1, d2] }
  | _ => none }
def warpMapsRow : OpenClaim := { program := "ytdcpeeolfgohmaa", sum := "f295bc258ec86325023d40d1f240581e34fa4a8e484eb544809f30bec9ae0c60", func := "halide/halidelaw28.WarpMaps", spec := "warpMaps", inPlace := ["math.Float32frombits", "math.Float64bits", "math.Float64frombits", "math.Float32bits"], unfollowed := true, recurses := true, apart := false }
def WarpMapsSaid : Prop := warpMapsRow.holds Try.pinned (OpenSpec.ofChange warpMapsSpec)

/-- ITS FALSE NEIGHBOUR: 'it returns false'. Refute it at one input. -/
def warpMapsWrong : ChangeSpec := { name := "warpMaps", fn := fun _ => fun
  | [d1, d2] => { results := [.lit (.bool false)], args := [d1, d2] }
  | _ => none }
def WarpMapsWrongFalsely : Prop := warpMapsRow.holds Try.pinned (OpenSpec.ofChange warpMapsWrong)

/-- 'halidelaw28.WarpThen': WHATEVER THE INPUT: true; the input reads as it did. -/
def warpThenSpec : ChangeSpec := { name := "warpThen", fn := fun _ => fun
  | [d1, d2, d3] => { results := [.lit (.bool true)], args := [d1, d2, d3] }
  | _ => none }
def warpThenRow : OpenClaim := { program := "ytdcpeeolfgohmaa", sum := "f295bc258ec86325023d40d1f240581e34fa4a8e484eb544809f30bec9ae0c60", func := "halide/halidelaw28.WarpThen", spec := "warpThen", inPlace := ["math.Float32frombits", "math.Float64bits", "math.Float64frombits", "math.Float32bits"], unfollowed := true, recurses := true, apart := false }
def WarpThenSaid : Prop := warpThenRow.holds Try.pinned (OpenSpec.ofChange warpThenSpec)

/-- ITS FALSE NEIGHBOUR: 'it returns false'. Refute it at one input. -/
def warpThenWrong : ChangeSpec := { name := "warpThen", fn := fun _ => fun
  | [d1, d2, d3] => { results := [.lit (.bool false)], args := [d1, d2, d3] }
  | _ => none }
def WarpThenWrongFalsely : Prop := warpThenRow.holds Try.pinned (OpenSpec.ofChange warpThenWrong)

/-- 'halidelaw28.WarpSpots': WHATEVER THE INPUT: true; the input reads as it did. -/
def warpSpotsSpec : ChangeSpec := { name := "warpSpots", fn := fun _ => fun
  | [d1, d2, d3, d4, d5, d6, d7] => { results := [.lit (.bool true)], args := [d1, d2, d3, d4, d5, d6, d7] }
  | _ => none }
def warpSpotsRow : OpenClaim := { program := "ytdcpeeolfgohmaa", sum := "f295bc258ec86325023d40d1f240581e34fa4a8e484eb544809f30bec9ae0c60", func := "halide/halidelaw28.WarpSpots", spec := "warpSpots", inPlace := ["math.Float32frombits", "math.Float64bits", "math.Float64frombits", "math.Float32bits"], unfollowed := true, recurses := true, apart := false }
def WarpSpotsSaid : Prop := warpSpotsRow.holds Try.pinned (OpenSpec.ofChange warpSpotsSpec)

/-- ITS FALSE NEIGHBOUR: 'it returns false'. Refute it at one input. -/
def warpSpotsWrong : ChangeSpec := { name := "warpSpots", fn := fun _ => fun
  | [d1, d2, d3, d4, d5, d6, d7] => { results := [.lit (.bool false)], args := [d1, d2, d3, d4, d5, d6, d7] }
  | _ => none }
def WarpSpotsWrongFalsely : Prop := warpSpotsRow.holds Try.pinned (OpenSpec.ofChange warpSpotsWrong)

/-- 'halidelaw28.WarpPlanes': WHATEVER THE INPUT: true; the input reads as it did. -/
def warpPlanesSpec : ChangeSpec := { name := "warpPlanes", fn := fun _ => fun
  | [d1, d2, d3, d4, d5, d6] => { results := [.lit (.bool true)], args := [d1, d2, d3, d4, d5, d6] }
  | _ => none }
def warpPlanesRow : OpenClaim := { program := "ytdcpeeolfgohmaa", sum := "f295bc258ec86325023d40d1f240581e34fa4a8e484eb544809f30bec9ae0c60", func := "halide/halidelaw28.WarpPlanes", spec := "warpPlanes", inPlace := ["math.Float32frombits", "math.Float64bits", "math.Float64frombits", "math.Float32bits"], unfollowed := true, recurses := true, apart := false }
def WarpPlanesSaid : Prop := warpPlanesRow.holds Try.pinned (OpenSpec.ofChange warpPlanesSpec)

/-- ITS FALSE NEIGHBOUR: 'it returns false'. Refute it at one input. -/
def warpPlanesWrong : ChangeSpec := { name := "warpPlanes", fn := fun _ => fun
  | [d1, d2, d3, d4, d5, d6] => { results := [.lit (.bool false)], args := [d1, d2, d3, d4, d5, d6] }
  | _ => none }
def WarpPlanesWrongFalsely : Prop := warpPlanesRow.holds Try.pinned (OpenSpec.ofChange warpPlanesWrong)

/-- 'halidelaw28.WarpKeeps': WHATEVER THE INPUT: true; the input reads as it did. -/
def warpKeepsSpec : ChangeSpec := { name := "warpKeeps", fn := fun _ => fun
  | [d1, d2, d3, d4, d5, d6] => { results := [.lit (.bool true)], args := [d1, d2, d3, d4, d5, d6] }
  | _ => none }
def warpKeepsRow : OpenClaim := { program := "ytdcpeeolfgohmaa", sum := "f295bc258ec86325023d40d1f240581e34fa4a8e484eb544809f30bec9ae0c60", func := "halide/halidelaw28.WarpKeeps", spec := "warpKeeps", inPlace := ["math.Float32frombits", "math.Float64bits", "math.Float64frombits", "math.Float32bits"], unfollowed := true, recurses := true, apart := false }
def WarpKeepsSaid : Prop := warpKeepsRow.holds Try.pinned (OpenSpec.ofChange warpKeepsSpec)

/-- ITS FALSE NEIGHBOUR: 'it returns false'. Refute it at one input. -/
def warpKeepsWrong : ChangeSpec := { name := "warpKeeps", fn := fun _ => fun
  | [d1, d2, d3, d4, d5, d6] => { results := [.lit (.bool false)], args := [d1, d2, d3, d4, d5, d6] }
  | _ => none }
def WarpKeepsWrongFalsely : Prop := warpKeepsRow.holds Try.pinned (OpenSpec.ofChange warpKeepsWrong)

/-- 'halidelaw28.WarpMoves': WHATEVER THE INPUT: true; the input reads as it did. -/
def warpMovesSpec : ChangeSpec := { name := "warpMoves", fn := fun _ => fun
  | [d1, d2, d3, d4, d5, d6, d7, d8] => { results := [.lit (.bool true)], args := [d1, d2, d3, d4, d5, d6, d7, d8] }
  | _ => none }
def warpMovesRow : OpenClaim := { program := "ytdcpeeolfgohmaa", sum := "f295bc258ec86325023d40d1f240581e34fa4a8e484eb544809f30bec9ae0c60", func := "halide/halidelaw28.WarpMoves", spec := "warpMoves", inPlace := ["math.Float32frombits", "math.Float64bits", "math.Float64frombits", "math.Float32bits"], unfollowed := true, recurses := true, apart := false }
def WarpMovesSaid : Prop := warpMovesRow.holds Try.pinned (OpenSpec.ofChange warpMovesSpec)

/-- ITS FALSE NEIGHBOUR: 'it returns false'. Refute it at one input. -/
def warpMovesWrong : ChangeSpec := { name := "warpMoves", fn := fun _ => fun
  | [d1, d2, d3, d4, d5, d6, d7, d8] => { results := [.lit (.bool false)], args := [d1, d2, d3, d4, d5, d6, d7, d8] }
  | _ => none }
def WarpMovesWrongFalsely : Prop := warpMovesRow.holds Try.pinned (OpenSpec.ofChange warpMovesWrong)

/-- 'halidelaw28.WarpNeeds': WHATEVER THE INPUT: true; the input reads as it did. -/
def warpNeedsSpec : ChangeSpec := { name := "warpNeeds", fn := fun _ => fun
  | [d1, d2, d3, d4, d5, d6, d7, d8, d9] => { results := [.lit (.bool true)], args := [d1, d2, d3, d4, d5, d6, d7, d8, d9] }
  | _ => none }
def warpNeedsRow : OpenClaim := { program := "ytdcpeeolfgohmaa", sum := "f295bc258ec86325023d40d1f240581e34fa4a8e484eb544809f30bec9ae0c60", func := "halide/halidelaw28.WarpNeeds", spec := "warpNeeds", inPlace := ["math.Float32frombits", "math.Float64bits", "math.Float64frombits", "math.Float32bits"], unfollowed := true, recurses := true, apart := false }
def WarpNeedsSaid : Prop := warpNeedsRow.holds Try.pinned (OpenSpec.ofChange warpNeedsSpec)

/-- ITS FALSE NEIGHBOUR: 'it returns false'. Refute it at one input. -/
def warpNeedsWrong : ChangeSpec := { name := "warpNeeds", fn := fun _ => fun
  | [d1, d2, d3, d4, d5, d6, d7, d8, d9] => { results := [.lit (.bool false)], args := [d1, d2, d3, d4, d5, d6, d7, d8, d9] }
  | _ => none }
def WarpNeedsWrongFalsely : Prop := warpNeedsRow.holds Try.pinned (OpenSpec.ofChange warpNeedsWrong)

/-- 'halidelaw28.WarpReach': WHATEVER THE INPUT: true; the input reads as it did. -/
def warpReachSpec : ChangeSpec := { name := "warpReach", fn := fun _ => fun
  | [d1, d2, d3, d4, d5, d6, d7, d8] => { results := [.lit (.bool true)], args := [d1, d2, d3, d4, d5, d6, d7, d8] }
  | _ => none }
def warpReachRow : OpenClaim := { program := "ytdcpeeolfgohmaa", sum := "f295bc258ec86325023d40d1f240581e34fa4a8e484eb544809f30bec9ae0c60", func := "halide/halidelaw28.WarpReach", spec := "warpReach", inPlace := ["math.Float32frombits", "math.Float64bits", "math.Float64frombits", "math.Float32bits"], unfollowed := true, recurses := true, apart := false }
def WarpReachSaid : Prop := warpReachRow.holds Try.pinned (OpenSpec.ofChange warpReachSpec)

/-- ITS FALSE NEIGHBOUR: 'it returns false'. Refute it at one input. -/
def warpReachWrong : ChangeSpec := { name := "warpReach", fn := fun _ => fun
  | [d1, d2, d3, d4, d5, d6, d7, d8] => { results := [.lit (.bool false)], args := [d1, d2, d3, d4, d5, d6, d7, d8] }
  | _ => none }
def WarpReachWrongFalsely : Prop := warpReachRow.holds Try.pinned (OpenSpec.ofChange warpReachWrong)

/- THE SECOND FORM. 'bulk': how many values and letters a reading holds, each counted each time it is reached (what is shared counts as often as it is met; a slice's spare places count too). A statement '..UptoSaid' is the law's where the arguments, and the package variables that the reading takes, are together of bulk at most 1048576: NARROWER than '..Said'. Prove '..Said' where nothing that the law and all that it calls make is longer than what came in: it says more and counts as full. Else prove '..UptoSaid'. A law counts once. -/
mutual
def uptoBulk {H : Type} : DataW H → Nat
  | .lit (.string bytes) => bytes.length + 1
  | .lit _ => 1
  | .nil => 1
  | .ptr d => uptoBulk d + 1
  | .slice elems spare => uptoBulkAll elems + uptoBulkAll spare + 1
  | .agg parts => uptoBulkAll parts + 1
  | .iface _ d => uptoBulk d + 1
  | .map entries => uptoBulkEntries entries + 1
  | .held _ => 1
def uptoBulkAll {H : Type} : List (DataW H) → Nat
  | [] => 0
  | d :: r => uptoBulk d + uptoBulkAll r
def uptoBulkEntries {H : Type} : List (Lit × DataW H) → Nat
  | [] => 0
  | x :: r => uptoBulkEntry x + uptoBulkEntries r
def uptoBulkEntry {H : Type} : Lit × DataW H → Nat
  | (.string bytes, d) => bytes.length + uptoBulk d + 1
  | (_, d) => uptoBulk d + 1
 end
def uptoSmall : (H : Type) → List (DataW H) → Bool := fun _ ds => decide (uptoBulkAll ds ≤ 1048576)
def OpenSpec.upto (s : _root_.Go.ChangeSpec) : _root_.Go.OpenSpec := { _root_.Go.OpenSpec.ofChange s with cond := some uptoSmall }

/-- 'halidelaw9.KernelAll', WHERE WHAT IT READS IS OF BULK AT MOST 1048576: true; the input reads as it did. -/
def kernelAllUptoRow : OpenClaim := { program := "ytdcpeeolfgohmaa", sum := "f295bc258ec86325023d40d1f240581e34fa4a8e484eb544809f30bec9ae0c60", func := "halide/halidelaw9.KernelAll", spec := "kernelAll", unfollowed := true, recurses := true, apart := false, narrowed := true }
def KernelAllUptoSaid : Prop := kernelAllUptoRow.holds Try.pinned (OpenSpec.upto kernelAllSpec)

/-- 'halidelaw28.WarpMaps', WHERE WHAT IT READS IS OF BULK AT MOST 1048576: true; the input reads as it did. -/
def warpMapsUptoRow : OpenClaim := { program := "ytdcpeeolfgohmaa", sum := "f295bc258ec86325023d40d1f240581e34fa4a8e484eb544809f30bec9ae0c60", func := "halide/halidelaw28.WarpMaps", spec := "warpMaps", inPlace := ["math.Float32frombits", "math.Float64bits", "math.Float64frombits", "math.Float32bits"], unfollowed := true, recurses := true, apart := false, narrowed := true }
def WarpMapsUptoSaid : Prop := warpMapsUptoRow.holds Try.pinned (OpenSpec.upto warpMapsSpec)

/-- 'halidelaw28.WarpThen', WHERE WHAT IT READS IS OF BULK AT MOST 1048576: true; the input reads as it did. -/
def warpThenUptoRow : OpenClaim := { program := "ytdcpeeolfgohmaa", sum := "f295bc258ec86325023d40d1f240581e34fa4a8e484eb544809f30bec9ae0c60", func := "halide/halidelaw28.WarpThen", spec := "warpThen", inPlace := ["math.Float32frombits", "math.Float64bits", "math.Float64frombits", "math.Float32bits"], unfollowed := true, recurses := true, apart := false, narrowed := true }
def WarpThenUptoSaid : Prop := warpThenUptoRow.holds Try.pinned (OpenSpec.upto warpThenSpec)

/-- 'halidelaw28.WarpSpots', WHERE WHAT IT READS IS OF BULK AT MOST 1048576: true; the input reads as it did. -/
def warpSpotsUptoRow : OpenClaim := { program := "ytdcpeeolfgohmaa", sum := "f295bc258ec86325023d40d1f240581e34fa4a8e484eb544809f30bec9ae0c60", func := "halide/halidelaw28.WarpSpots", spec := "warpSpots", inPlace := ["math.Float32frombits", "math.Float64bits", "math.Float64frombits", "math.Float32bits"], unfollowed := true, recurses := true, apart := false, narrowed := true }
def WarpSpotsUptoSaid : Prop := warpSpotsUptoRow.holds Try.pinned (OpenSpec.upto warpSpotsSpec)

/-- 'halidelaw28.WarpPlanes', WHERE WHAT IT READS IS OF BULK AT MOST 1048576: true; the input reads as it did. -/
def warpPlanesUptoRow : OpenClaim := { program := "ytdcpeeolfgohmaa", sum := "f295bc258ec86325023d40d1f240581e34fa4a8e484eb544809f30bec9ae0c60", func := "halide/halidelaw28.WarpPlanes", spec := "warpPlanes", inPlace := ["math.Float32frombits", "math.Float64bits", "math.Float64frombits", "math.Float32bits"], unfollowed := true, recurses := true, apart := false, narrowed := true }
def WarpPlanesUptoSaid : Prop := warpPlanesUptoRow.holds Try.pinned (OpenSpec.upto warpPlanesSpec)

/-- 'halidelaw28.WarpKeeps', WHERE WHAT IT READS IS OF BULK AT MOST 1048576: true; the input reads as it did. -/
def warpKeepsUptoRow : OpenClaim := { program := "ytdcpeeolfgohmaa", sum := "f295bc258ec86325023d40d1f240581e34fa4a8e484eb544809f30bec9ae0c60", func := "halide/halidelaw28.WarpKeeps", spec := "warpKeeps", inPlace := ["math.Float32frombits", "math.Float64bits", "math.Float64frombits", "math.Float32bits"], unfollowed := true, recurses := true, apart := false, narrowed := true }
def WarpKeepsUptoSaid : Prop := warpKeepsUptoRow.holds Try.pinned (OpenSpec.upto warpKeepsSpec)

/-- 'halidelaw28.WarpMoves', WHERE WHAT IT READS IS OF BULK AT MOST 1048576: true; the input reads as it did. -/
def warpMovesUptoRow : OpenClaim := { program := "ytdcpeeolfgohmaa", sum := "f295bc258ec86325023d40d1f240581e34fa4a8e484eb544809f30bec9ae0c60", func := "halide/halidelaw28.WarpMoves", spec := "warpMoves", inPlace := ["math.Float32frombits", "math.Float64bits", "math.Float64frombits", "math.Float32bits"], unfollowed := true, recurses := true, apart := false, narrowed := true }
def WarpMovesUptoSaid : Prop := warpMovesUptoRow.holds Try.pinned (OpenSpec.upto warpMovesSpec)

/-- 'halidelaw28.WarpNeeds', WHERE WHAT IT READS IS OF BULK AT MOST 1048576: true; the input reads as it did. -/
def warpNeedsUptoRow : OpenClaim := { program := "ytdcpeeolfgohmaa", sum := "f295bc258ec86325023d40d1f240581e34fa4a8e484eb544809f30bec9ae0c60", func := "halide/halidelaw28.WarpNeeds", spec := "warpNeeds", inPlace := ["math.Float32frombits", "math.Float64bits", "math.Float64frombits", "math.Float32bits"], unfollowed := true, recurses := true, apart := false, narrowed := true }
def WarpNeedsUptoSaid : Prop := warpNeedsUptoRow.holds Try.pinned (OpenSpec.upto warpNeedsSpec)

/-- 'halidelaw28.WarpReach', WHERE WHAT IT READS IS OF BULK AT MOST 1048576: true; the input reads as it did. -/
def warpReachUptoRow : OpenClaim := { program := "ytdcpeeolfgohmaa", sum := "f295bc258ec86325023d40d1f240581e34fa4a8e484eb544809f30bec9ae0c60", func := "halide/halidelaw28.WarpReach", spec := "warpReach", inPlace := ["math.Float32frombits", "math.Float64bits", "math.Float64frombits", "math.Float32bits"], unfollowed := true, recurses := true, apart := false, narrowed := true }
def WarpReachUptoSaid : Prop := warpReachUptoRow.holds Try.pinned (OpenSpec.upto warpReachSpec)

end Rows
end Go.Proofs.Ytdcpeeolfgohmaa
