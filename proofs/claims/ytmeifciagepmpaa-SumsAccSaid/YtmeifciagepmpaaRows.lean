/-
  No cell of these rows narrows 'for every input' (looked for: loops, veiled, ifaces, maps, wideKeys, modest, calm, conditions, laid).
  DERIVED. THE GIVEN ROWS OF THIS SEAT. 9 by the template 'for every input the law returns true; each argument reads behind the call as it read before'; 0 by the template 'total and deterministic' (their statements: YtmeifciagepmpaaTotals.lean).
  GIVEN WITH THE SEED: the statements are not yours to turn. If you find one false, say at which input.
  Laid BY PROGRAM, IN A SANDBOX (cutbox-rows.mjs): the forced cells as the released guide's own fill.sh prints them over the translation f16b384823ea4c1a… (all of the seat's roots in one cut). By AI agents, Wed Nov 11 2026. No macro, syntax, notation, axiom, sorry.
-/
import Derived.Test.YtmeifciagepmpaaChecked
import GoSem.Claim
import GoSem.ClaimJoined
import GoSem.ClaimMapViews
import Derived.JoinedTies
import Derived.KernelRfl
namespace Go.Proofs.Ytmeifciagepmpaa
/- THE CELL 'sum', in the pinned program and in every row, IS THE sha256 OF THE DUMP (.gsa) THAT YtmeifciagepmpaaProg.lean LOADS. Nothing in Lean hashes anything: it is a label: what it is worth is what the hold of that sum in a sandbox is worth. -/
noncomputable def Try.pinned : Pinned := { name := "ytmeifciagepmpaa", sum := "f16b384823ea4c1a98afecef4f6b781f831153d51469aebf7117be4423e4f4fd", checked := Try.checked }
namespace Rows
def none {H : Type} : Left H := { results := [], args := [] }

/-- 'halidelaw3.SumsNames': WHATEVER THE INPUT: true; the input reads as it did. -/
def sumsNamesSpec : ChangeSpec := { name := "sumsNames", fn := fun _ => fun
  | [] => { results := [.lit (.bool true)], args := [] }
  | _ => none }
def sumsNamesRow : OpenClaim := { program := "ytmeifciagepmpaa", sum := "f16b384823ea4c1a98afecef4f6b781f831153d51469aebf7117be4423e4f4fd", func := "halide/halidelaw3.SumsNames", spec := "sumsNames", inPlace := ["math.Float32frombits", "math.Float64bits", "math.Float64frombits", "math.Float32bits"], recurses := true, named := ["math/bits.divideError", "math/bits.overflowError"], apart := false }
def SumsNamesSaid : Prop := sumsNamesRow.holds Try.pinned (OpenSpec.ofChange sumsNamesSpec)

/-- ITS FALSE NEIGHBOUR: 'it returns false'. Refute it at one input. -/
def sumsNamesWrong : ChangeSpec := { name := "sumsNames", fn := fun _ => fun
  | [] => { results := [.lit (.bool false)], args := [] }
  | _ => none }
def SumsNamesWrongFalsely : Prop := sumsNamesRow.holds Try.pinned (OpenSpec.ofChange sumsNamesWrong)

/-- 'halidelaw3.SumsLeft': WHATEVER THE INPUT: true; the input reads as it did. -/
def sumsLeftSpec : ChangeSpec := { name := "sumsLeft", fn := fun _ => fun
  | [d] => { results := [.lit (.bool true)], args := [d] }
  | _ => none }
def sumsLeftRow : OpenClaim := { program := "ytmeifciagepmpaa", sum := "f16b384823ea4c1a98afecef4f6b781f831153d51469aebf7117be4423e4f4fd", func := "halide/halidelaw3.SumsLeft", spec := "sumsLeft", inPlace := ["math.Float32frombits", "math.Float64bits", "math.Float64frombits", "math.Float32bits"], recurses := true, named := ["math/bits.divideError", "math/bits.overflowError"], apart := false }
def SumsLeftSaid : Prop := sumsLeftRow.holds Try.pinned (OpenSpec.ofChange sumsLeftSpec)

/-- ITS FALSE NEIGHBOUR: 'it returns false'. Refute it at one input. -/
def sumsLeftWrong : ChangeSpec := { name := "sumsLeft", fn := fun _ => fun
  | [d] => { results := [.lit (.bool false)], args := [d] }
  | _ => none }
def SumsLeftWrongFalsely : Prop := sumsLeftRow.holds Try.pinned (OpenSpec.ofChange sumsLeftWrong)

/-- 'halidelaw3.SumsPairs': WHATEVER THE INPUT: true; the input reads as it did. -/
def sumsPairsSpec : ChangeSpec := { name := "sumsPairs", fn := fun _ => fun
  | [d] => { results := [.lit (.bool true)], args := [d] }
  | _ => none }
def sumsPairsRow : OpenClaim := { program := "ytmeifciagepmpaa", sum := "f16b384823ea4c1a98afecef4f6b781f831153d51469aebf7117be4423e4f4fd", func := "halide/halidelaw3.SumsPairs", spec := "sumsPairs", inPlace := ["math.Float32frombits", "math.Float64bits", "math.Float64frombits", "math.Float32bits"], recurses := true, named := ["math/bits.divideError", "math/bits.overflowError"], apart := false }
def SumsPairsSaid : Prop := sumsPairsRow.holds Try.pinned (OpenSpec.ofChange sumsPairsSpec)

/-- ITS FALSE NEIGHBOUR: 'it returns false'. Refute it at one input. -/
def sumsPairsWrong : ChangeSpec := { name := "sumsPairs", fn := fun _ => fun
  | [d] => { results := [.lit (.bool false)], args := [d] }
  | _ => none }
def SumsPairsWrongFalsely : Prop := sumsPairsRow.holds Try.pinned (OpenSpec.ofChange sumsPairsWrong)

/-- 'halidelaw3.SumsExact': WHATEVER THE INPUT: true; the input reads as it did. -/
def sumsExactSpec : ChangeSpec := { name := "sumsExact", fn := fun _ => fun
  | [d] => { results := [.lit (.bool true)], args := [d] }
  | _ => none }
def sumsExactRow : OpenClaim := { program := "ytmeifciagepmpaa", sum := "f16b384823ea4c1a98afecef4f6b781f831153d51469aebf7117be4423e4f4fd", func := "halide/halidelaw3.SumsExact", spec := "sumsExact", inPlace := ["math.Float32frombits", "math.Float64bits", "math.Float64frombits", "math.Float32bits"], recurses := true, named := ["math/bits.divideError", "math/bits.overflowError"], apart := false }
def SumsExactSaid : Prop := sumsExactRow.holds Try.pinned (OpenSpec.ofChange sumsExactSpec)

/-- ITS FALSE NEIGHBOUR: 'it returns false'. Refute it at one input. -/
def sumsExactWrong : ChangeSpec := { name := "sumsExact", fn := fun _ => fun
  | [d] => { results := [.lit (.bool false)], args := [d] }
  | _ => none }
def SumsExactWrongFalsely : Prop := sumsExactRow.holds Try.pinned (OpenSpec.ofChange sumsExactWrong)

/-- 'halidelaw3.SumsDot': WHATEVER THE INPUT: true; the input reads as it did. -/
def sumsDotSpec : ChangeSpec := { name := "sumsDot", fn := fun _ => fun
  | [d1, d2] => { results := [.lit (.bool true)], args := [d1, d2] }
  | _ => none }
def sumsDotRow : OpenClaim := { program := "ytmeifciagepmpaa", sum := "f16b384823ea4c1a98afecef4f6b781f831153d51469aebf7117be4423e4f4fd", func := "halide/halidelaw3.SumsDot", spec := "sumsDot", inPlace := ["math.Float32frombits", "math.Float64bits", "math.Float64frombits", "math.Float32bits"], recurses := true, named := ["math/bits.divideError", "math/bits.overflowError"], apart := false }
def SumsDotSaid : Prop := sumsDotRow.holds Try.pinned (OpenSpec.ofChange sumsDotSpec)

/-- ITS FALSE NEIGHBOUR: 'it returns false'. Refute it at one input. -/
def sumsDotWrong : ChangeSpec := { name := "sumsDot", fn := fun _ => fun
  | [d1, d2] => { results := [.lit (.bool false)], args := [d1, d2] }
  | _ => none }
def SumsDotWrongFalsely : Prop := sumsDotRow.holds Try.pinned (OpenSpec.ofChange sumsDotWrong)

/-- 'halidelaw3.SumsAcc': WHATEVER THE INPUT: true; the input reads as it did. -/
def sumsAccSpec : ChangeSpec := { name := "sumsAcc", fn := fun _ => fun
  | [d] => { results := [.lit (.bool true)], args := [d] }
  | _ => none }
def sumsAccRow : OpenClaim := { program := "ytmeifciagepmpaa", sum := "f16b384823ea4c1a98afecef4f6b781f831153d51469aebf7117be4423e4f4fd", func := "halide/halidelaw3.SumsAcc", spec := "sumsAcc", inPlace := ["math.Float32frombits", "math.Float64bits", "math.Float64frombits", "math.Float32bits"], recurses := true, named := ["math/bits.divideError", "math/bits.overflowError"], apart := false }
def SumsAccSaid : Prop := sumsAccRow.holds Try.pinned (OpenSpec.ofChange sumsAccSpec)

/-- ITS FALSE NEIGHBOUR: 'it returns false'. Refute it at one input. -/
def sumsAccWrong : ChangeSpec := { name := "sumsAcc", fn := fun _ => fun
  | [d] => { results := [.lit (.bool false)], args := [d] }
  | _ => none }
def SumsAccWrongFalsely : Prop := sumsAccRow.holds Try.pinned (OpenSpec.ofChange sumsAccWrong)

/-- 'halidelaw3.SumsOrder': WHATEVER THE INPUT: true; the input reads as it did. -/
def sumsOrderSpec : ChangeSpec := { name := "sumsOrder", fn := fun _ => fun
  | [d1, d2, d3, d4] => { results := [.lit (.bool true)], args := [d1, d2, d3, d4] }
  | _ => none }
def sumsOrderRow : OpenClaim := { program := "ytmeifciagepmpaa", sum := "f16b384823ea4c1a98afecef4f6b781f831153d51469aebf7117be4423e4f4fd", func := "halide/halidelaw3.SumsOrder", spec := "sumsOrder", inPlace := ["math.Float32frombits", "math.Float64bits", "math.Float64frombits", "math.Float32bits"], recurses := true, named := ["math/bits.divideError", "math/bits.overflowError"], apart := false }
def SumsOrderSaid : Prop := sumsOrderRow.holds Try.pinned (OpenSpec.ofChange sumsOrderSpec)

/-- ITS FALSE NEIGHBOUR: 'it returns false'. Refute it at one input. -/
def sumsOrderWrong : ChangeSpec := { name := "sumsOrder", fn := fun _ => fun
  | [d1, d2, d3, d4] => { results := [.lit (.bool false)], args := [d1, d2, d3, d4] }
  | _ => none }
def SumsOrderWrongFalsely : Prop := sumsOrderRow.holds Try.pinned (OpenSpec.ofChange sumsOrderWrong)

/-- 'halidelaw3.SumsWhole': WHATEVER THE INPUT: true; the input reads as it did. -/
def sumsWholeSpec : ChangeSpec := { name := "sumsWhole", fn := fun _ => fun
  | [d1, d2, d3] => { results := [.lit (.bool true)], args := [d1, d2, d3] }
  | _ => none }
def sumsWholeRow : OpenClaim := { program := "ytmeifciagepmpaa", sum := "f16b384823ea4c1a98afecef4f6b781f831153d51469aebf7117be4423e4f4fd", func := "halide/halidelaw3.SumsWhole", spec := "sumsWhole", inPlace := ["math.Float32frombits", "math.Float64bits", "math.Float64frombits", "math.Float32bits"], recurses := true, named := ["math/bits.divideError", "math/bits.overflowError"], apart := false }
def SumsWholeSaid : Prop := sumsWholeRow.holds Try.pinned (OpenSpec.ofChange sumsWholeSpec)

/-- ITS FALSE NEIGHBOUR: 'it returns false'. Refute it at one input. -/
def sumsWholeWrong : ChangeSpec := { name := "sumsWhole", fn := fun _ => fun
  | [d1, d2, d3] => { results := [.lit (.bool false)], args := [d1, d2, d3] }
  | _ => none }
def SumsWholeWrongFalsely : Prop := sumsWholeRow.holds Try.pinned (OpenSpec.ofChange sumsWholeWrong)

/-- 'halidelaw3.SumsLong': WHATEVER THE INPUT: true; the input reads as it did. -/
def sumsLongSpec : ChangeSpec := { name := "sumsLong", fn := fun _ => fun
  | [d1, d2] => { results := [.lit (.bool true)], args := [d1, d2] }
  | _ => none }
def sumsLongRow : OpenClaim := { program := "ytmeifciagepmpaa", sum := "f16b384823ea4c1a98afecef4f6b781f831153d51469aebf7117be4423e4f4fd", func := "halide/halidelaw3.SumsLong", spec := "sumsLong", inPlace := ["math.Float32frombits", "math.Float64bits", "math.Float64frombits", "math.Float32bits"], recurses := true, named := ["math/bits.divideError", "math/bits.overflowError"], apart := false }
def SumsLongSaid : Prop := sumsLongRow.holds Try.pinned (OpenSpec.ofChange sumsLongSpec)

/-- ITS FALSE NEIGHBOUR: 'it returns false'. Refute it at one input. -/
def sumsLongWrong : ChangeSpec := { name := "sumsLong", fn := fun _ => fun
  | [d1, d2] => { results := [.lit (.bool false)], args := [d1, d2] }
  | _ => none }
def SumsLongWrongFalsely : Prop := sumsLongRow.holds Try.pinned (OpenSpec.ofChange sumsLongWrong)

/- THE SECOND FORM. 'bulk': how many values and letters a reading holds, each counted each time it is reached (what is shared counts as often as it is met; a slice's spare places count too). A statement '..UptoSaid' is the law's where the arguments, and the package variables that the reading takes, are together of bulk at most 1048576: NARROWER than '..Said'. Prove '..Said' where nothing that the law and all that it calls make is longer than what came in: it says more and counts as full. Else prove '..UptoSaid'. A law counts once. -/
mutual
def uptoBulk {H : Type} : DataW H → Nat
  | .lit (.string bytes) => bytes.length + 1
  | .lit _ => 1
  | .nil => 1
  | .ptr d => uptoBulk d + 1
  | .slice elems spare => uptoBulkAll elems + uptoBulkAll spare + 1
  | .agg parts => uptoBulkAll parts + 1
  | .iface _ d => uptoBulk d + 1
  | .map entries => uptoBulkEntries entries + 1
  | .held _ => 1
def uptoBulkAll {H : Type} : List (DataW H) → Nat
  | [] => 0
  | d :: r => uptoBulk d + uptoBulkAll r
def uptoBulkEntries {H : Type} : List (Lit × DataW H) → Nat
  | [] => 0
  | x :: r => uptoBulkEntry x + uptoBulkEntries r
def uptoBulkEntry {H : Type} : Lit × DataW H → Nat
  | (.string bytes, d) => bytes.length + uptoBulk d + 1
  | (_, d) => uptoBulk d + 1
 end
def uptoSmall : (H : Type) → List (DataW H) → Bool := fun _ ds => decide (uptoBulkAll ds ≤ 1048576)
def OpenSpec.upto (s : _root_.Go.ChangeSpec) : _root_.Go.OpenSpec := { _root_.Go.OpenSpec.ofChange s with cond := some uptoSmall }

/-- 'halidelaw3.SumsNames', WHERE WHAT IT READS IS OF BULK AT MOST 1048576: true; the input reads as it did. -/
def sumsNamesUptoRow : OpenClaim := { program := "ytmeifciagepmpaa", sum := "f16b384823ea4c1a98afecef4f6b781f831153d51469aebf7117be4423e4f4fd", func := "halide/halidelaw3.SumsNames", spec := "sumsNames", inPlace := ["math.Float32frombits", "math.Float64bits", "math.Float64frombits", "math.Float32bits"], recurses := true, named := ["math/bits.divideError", "math/bits.overflowError"], apart := false, narrowed := true }
def SumsNamesUptoSaid : Prop := sumsNamesUptoRow.holds Try.pinned (OpenSpec.upto sumsNamesSpec)

/-- 'halidelaw3.SumsLeft', WHERE WHAT IT READS IS OF BULK AT MOST 1048576: true; the input reads as it did. -/
def sumsLeftUptoRow : OpenClaim := { program := "ytmeifciagepmpaa", sum := "f16b384823ea4c1a98afecef4f6b781f831153d51469aebf7117be4423e4f4fd", func := "halide/halidelaw3.SumsLeft", spec := "sumsLeft", inPlace := ["math.Float32frombits", "math.Float64bits", "math.Float64frombits", "math.Float32bits"], recurses := true, named := ["math/bits.divideError", "math/bits.overflowError"], apart := false, narrowed := true }
def SumsLeftUptoSaid : Prop := sumsLeftUptoRow.holds Try.pinned (OpenSpec.upto sumsLeftSpec)

/-- 'halidelaw3.SumsPairs', WHERE WHAT IT READS IS OF BULK AT MOST 1048576: true; the input reads as it did. -/
def sumsPairsUptoRow : OpenClaim := { program := "ytmeifciagepmpaa", sum := "f16b384823ea4c1a98afecef4f6b781f831153d51469aebf7117be4423e4f4fd", func := "halide/halidelaw3.SumsPairs", spec := "sumsPairs", inPlace := ["math.Float32frombits", "math.Float64bits", "math.Float64frombits", "math.Float32bits"], recurses := true, named := ["math/bits.divideError", "math/bits.overflowError"], apart := false, narrowed := true }
def SumsPairsUptoSaid : Prop := sumsPairsUptoRow.holds Try.pinned (OpenSpec.upto sumsPairsSpec)

/-- 'halidelaw3.SumsExact', WHERE WHAT IT READS IS OF BULK AT MOST 1048576: true; the input reads as it did. -/
def sumsExactUptoRow : OpenClaim := { program := "ytmeifciagepmpaa", sum := "f16b384823ea4c1a98afecef4f6b781f831153d51469aebf7117be4423e4f4fd", func := "halide/halidelaw3.SumsExact", spec := "sumsExact", inPlace := ["math.Float32frombits", "math.Float64bits", "math.Float64frombits", "math.Float32bits"], recurses := true, named := ["math/bits.divideError", "math/bits.overflowError"], apart := false, narrowed := true }
def SumsExactUptoSaid : Prop := sumsExactUptoRow.holds Try.pinned (OpenSpec.upto sumsExactSpec)

/-- 'halidelaw3.SumsDot', WHERE WHAT IT READS IS OF BULK AT MOST 1048576: true; the input reads as it did. -/
def sumsDotUptoRow : OpenClaim := { program := "ytmeifciagepmpaa", sum := "f16b384823ea4c1a98afecef4f6b781f831153d51469aebf7117be4423e4f4fd", func := "halide/halidelaw3.SumsDot", spec := "sumsDot", inPlace := ["math.Float32frombits", "math.Float64bits", "math.Float64frombits", "math.Float32bits"], recurses := true, named := ["math/bits.divideError", "math/bits.overflowError"], apart := false, narrowed := true }
def SumsDotUptoSaid : Prop := sumsDotUptoRow.holds Try.pinned (OpenSpec.upto sumsDotSpec)

/-- 'halidelaw3.SumsAcc', WHERE WHAT IT READS IS OF BULK AT MOST 1048576: true; the input reads as it did. -/
def sumsAccUptoRow : OpenClaim := { program := "ytmeifciagepmpaa", sum := "f16b384823ea4c1a98afecef4f6b781f831153d51469aebf7117be4423e4f4fd", func := "halide/halidelaw3.SumsAcc", spec := "sumsAcc", inPlace := ["math.Float32frombits", "math.Float64bits", "math.Float64frombits", "math.Float32bits"], recurses := true, named := ["math/bits.divideError", "math/bits.overflowError"], apart := false, narrowed := true }
def SumsAccUptoSaid : Prop := sumsAccUptoRow.holds Try.pinned (OpenSpec.upto sumsAccSpec)

/-- 'halidelaw3.SumsOrder', WHERE WHAT IT READS IS OF BULK AT MOST 1048576: true; the input reads as it did. -/
def sumsOrderUptoRow : OpenClaim := { program := "ytmeifciagepmpaa", sum := "f16b384823ea4c1a98afecef4f6b781f831153d51469aebf7117be4423e4f4fd", func := "halide/halidelaw3.SumsOrder", spec := "sumsOrder", inPlace := ["math.Float32frombits", "math.Float64bits", "math.Float64frombits", "math.Float32bits"], recurses := true, named := ["math/bits.divideError", "math/bits.overflowError"], apart := false, narrowed := true }
def SumsOrderUptoSaid : Prop := sumsOrderUptoRow.holds Try.pinned (OpenSpec.upto sumsOrderSpec)

/-- 'halidelaw3.SumsWhole', WHERE WHAT IT READS IS OF BULK AT MOST 1048576: true; the input reads as it did. -/
def sumsWholeUptoRow : OpenClaim := { program := "ytmeifciagepmpaa", sum := "f16b384823ea4c1a98afecef4f6b781f831153d51469aebf7117be4423e4f4fd", func := "halide/halidelaw3.SumsWhole", spec := "sumsWhole", inPlace := ["math.Float32frombits", "math.Float64bits", "math.Float64frombits", "math.Float32bits"], recurses := true, named := ["math/bits.divideError", "math/bits.overflowError"], apart := false, narrowed := true }
def SumsWholeUptoSaid : Prop := sumsWholeUptoRow.holds Try.pinned (OpenSpec.upto sumsWholeSpec)

/-- 'halidelaw3.SumsLong', WHERE WHAT IT READS IS OF BULK AT MOST 1048576: true; the input reads as it did. -/
def sumsLongUptoRow : OpenClaim := { program := "ytmeifciagepmpaa", sum := "f16b384823ea4c1a98afecef4f6b781f831153d51469aebf7117be4423e4f4fd", func := "halide/halidelaw3.SumsLong", spec := "sumsLong", inPlace := ["math.Float32frombits", "math.Float64bits", "math.Float64frombits", "math.Float32bits"], recurses := true, named := ["math/bits.divideError", "math/bits.overflowError"], apart := false, narrowed := true }
def SumsLongUptoSaid : Prop := sumsLongUptoRow.holds Try.pinned (OpenSpec.upto sumsLongSpec)

end Rows
end Go.Proofs.Ytmeifciagepmpaa
