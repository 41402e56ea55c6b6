/-
  No cell of these rows narrows 'for every input' (looked for: loops, veiled, ifaces, maps, wideKeys, modest, calm, conditions, laid).
  DERIVED. THE GIVEN ROWS OF THIS SEAT. 9 by the template 'for every input the law returns true; each argument reads behind the call as it read before'; 0 by the template 'total and deterministic' (their statements: YtbogemlkdncafaaTotals.lean).
  GIVEN WITH THE SEED: the statements are not yours to turn. If you find one false, say at which input.
  Laid BY PROGRAM, IN A SANDBOX (cutbox-rows.mjs): the forced cells as the released guide's own fill.sh prints them over the translation d91e875d48aa3df2… (all of the seat's roots in one cut). By AI agents, Wed Nov 11 2026. No macro, syntax, notation, axiom, sorry.
-/
import Derived.Test.YtbogemlkdncafaaChecked
import GoSem.Claim
import GoSem.ClaimJoined
import GoSem.ClaimMapViews
import Derived.JoinedTies
import Derived.KernelRfl
namespace Go.Proofs.Ytbogemlkdncafaa
/- THE CELL 'sum', in the pinned program and in every row, IS THE sha256 OF THE DUMP (.gsa) THAT YtbogemlkdncafaaProg.lean LOADS. Nothing in Lean hashes anything: it is a label: what it is worth is what the hold of that sum in a sandbox is worth. -/
noncomputable def Try.pinned : Pinned := { name := "ytbogemlkdncafaa", sum := "d91e875d48aa3df25441479a598214f27d0508be1d48343269620be1698fa072", checked := Try.checked }
namespace Rows
def none {H : Type} : Left H := { results := [], args := [] }

/-- 'halidelaw16.StatNames': WHATEVER THE INPUT: true; the input reads as it did. -/
def statNamesSpec : ChangeSpec := { name := "statNames", fn := fun _ => fun
  | [] => { results := [.lit (.bool true)], args := [] }
  | _ => none }
def statNamesRow : OpenClaim := { program := "ytbogemlkdncafaa", sum := "d91e875d48aa3df25441479a598214f27d0508be1d48343269620be1698fa072", func := "halide/halidelaw16.StatNames", spec := "statNames", apart := false }
def StatNamesSaid : Prop := statNamesRow.holds Try.pinned (OpenSpec.ofChange statNamesSpec)

/-- ITS FALSE NEIGHBOUR: 'it returns false'. Refute it at one input. -/
def statNamesWrong : ChangeSpec := { name := "statNames", fn := fun _ => fun
  | [] => { results := [.lit (.bool false)], args := [] }
  | _ => none }
def StatNamesWrongFalsely : Prop := statNamesRow.holds Try.pinned (OpenSpec.ofChange statNamesWrong)

/-- 'halidelaw28.WarpNames': WHATEVER THE INPUT: true; the input reads as it did. -/
def warpNamesSpec : ChangeSpec := { name := "warpNames", fn := fun _ => fun
  | [] => { results := [.lit (.bool true)], args := [] }
  | _ => none }
def warpNamesRow : OpenClaim := { program := "ytbogemlkdncafaa", sum := "d91e875d48aa3df25441479a598214f27d0508be1d48343269620be1698fa072", func := "halide/halidelaw28.WarpNames", spec := "warpNames", apart := false }
def WarpNamesSaid : Prop := warpNamesRow.holds Try.pinned (OpenSpec.ofChange warpNamesSpec)

/-- ITS FALSE NEIGHBOUR: 'it returns false'. Refute it at one input. -/
def warpNamesWrong : ChangeSpec := { name := "warpNames", fn := fun _ => fun
  | [] => { results := [.lit (.bool false)], args := [] }
  | _ => none }
def WarpNamesWrongFalsely : Prop := warpNamesRow.holds Try.pinned (OpenSpec.ofChange warpNamesWrong)

/-- 'halidelaw9.KernelNames': WHATEVER THE INPUT: true; the input reads as it did. -/
def kernelNamesSpec : ChangeSpec := { name := "kernelNames", fn := fun _ => fun
  | [] => { results := [.lit (.bool true)], args := [] }
  | _ => none }
def kernelNamesRow : OpenClaim := { program := "ytbogemlkdncafaa", sum := "d91e875d48aa3df25441479a598214f27d0508be1d48343269620be1698fa072", func := "halide/halidelaw9.KernelNames", spec := "kernelNames", apart := false }
def KernelNamesSaid : Prop := kernelNamesRow.holds Try.pinned (OpenSpec.ofChange kernelNamesSpec)

/-- ITS FALSE NEIGHBOUR: 'it returns false'. Refute it at one input. -/
def kernelNamesWrong : ChangeSpec := { name := "kernelNames", fn := fun _ => fun
  | [] => { results := [.lit (.bool false)], args := [] }
  | _ => none }
def KernelNamesWrongFalsely : Prop := kernelNamesRow.holds Try.pinned (OpenSpec.ofChange kernelNamesWrong)

/-- 'halidelaw9.KernelTaps': WHATEVER THE INPUT: true; the input reads as it did. -/
def kernelTapsSpec : ChangeSpec := { name := "kernelTaps", fn := fun _ => fun
  | [d1, d2, d3, d4] => { results := [.lit (.bool true)], args := [d1, d2, d3, d4] }
  | _ => none }
def kernelTapsRow : OpenClaim := { program := "ytbogemlkdncafaa", sum := "d91e875d48aa3df25441479a598214f27d0508be1d48343269620be1698fa072", func := "halide/halidelaw9.KernelTaps", spec := "kernelTaps", unfollowed := true, recurses := true, apart := false }
def KernelTapsSaid : Prop := kernelTapsRow.holds Try.pinned (OpenSpec.ofChange kernelTapsSpec)

/-- ITS FALSE NEIGHBOUR: 'it returns false'. Refute it at one input. -/
def kernelTapsWrong : ChangeSpec := { name := "kernelTaps", fn := fun _ => fun
  | [d1, d2, d3, d4] => { results := [.lit (.bool false)], args := [d1, d2, d3, d4] }
  | _ => none }
def KernelTapsWrongFalsely : Prop := kernelTapsRow.holds Try.pinned (OpenSpec.ofChange kernelTapsWrong)

/-- 'halidelaw9.KernelShares': WHATEVER THE INPUT: true; the input reads as it did. -/
def kernelSharesSpec : ChangeSpec := { name := "kernelShares", fn := fun _ => fun
  | [d] => { results := [.lit (.bool true)], args := [d] }
  | _ => none }
def kernelSharesRow : OpenClaim := { program := "ytbogemlkdncafaa", sum := "d91e875d48aa3df25441479a598214f27d0508be1d48343269620be1698fa072", func := "halide/halidelaw9.KernelShares", spec := "kernelShares", unfollowed := true, recurses := true, apart := false }
def KernelSharesSaid : Prop := kernelSharesRow.holds Try.pinned (OpenSpec.ofChange kernelSharesSpec)

/-- ITS FALSE NEIGHBOUR: 'it returns false'. Refute it at one input. -/
def kernelSharesWrong : ChangeSpec := { name := "kernelShares", fn := fun _ => fun
  | [d] => { results := [.lit (.bool false)], args := [d] }
  | _ => none }
def KernelSharesWrongFalsely : Prop := kernelSharesRow.holds Try.pinned (OpenSpec.ofChange kernelSharesWrong)

/-- 'halidelaw9.KernelOnes': WHATEVER THE INPUT: true; the input reads as it did. -/
def kernelOnesSpec : ChangeSpec := { name := "kernelOnes", fn := fun _ => fun
  | [d1, d2, d3, d4] => { results := [.lit (.bool true)], args := [d1, d2, d3, d4] }
  | _ => none }
def kernelOnesRow : OpenClaim := { program := "ytbogemlkdncafaa", sum := "d91e875d48aa3df25441479a598214f27d0508be1d48343269620be1698fa072", func := "halide/halidelaw9.KernelOnes", spec := "kernelOnes", unfollowed := true, recurses := true, apart := false }
def KernelOnesSaid : Prop := kernelOnesRow.holds Try.pinned (OpenSpec.ofChange kernelOnesSpec)

/-- ITS FALSE NEIGHBOUR: 'it returns false'. Refute it at one input. -/
def kernelOnesWrong : ChangeSpec := { name := "kernelOnes", fn := fun _ => fun
  | [d1, d2, d3, d4] => { results := [.lit (.bool false)], args := [d1, d2, d3, d4] }
  | _ => none }
def KernelOnesWrongFalsely : Prop := kernelOnesRow.holds Try.pinned (OpenSpec.ofChange kernelOnesWrong)

/-- 'halidelaw9.KernelSums': WHATEVER THE INPUT: true; the input reads as it did. -/
def kernelSumsSpec : ChangeSpec := { name := "kernelSums", fn := fun _ => fun
  | [d] => { results := [.lit (.bool true)], args := [d] }
  | _ => none }
def kernelSumsRow : OpenClaim := { program := "ytbogemlkdncafaa", sum := "d91e875d48aa3df25441479a598214f27d0508be1d48343269620be1698fa072", func := "halide/halidelaw9.KernelSums", spec := "kernelSums", unfollowed := true, recurses := true, apart := false }
def KernelSumsSaid : Prop := kernelSumsRow.holds Try.pinned (OpenSpec.ofChange kernelSumsSpec)

/-- ITS FALSE NEIGHBOUR: 'it returns false'. Refute it at one input. -/
def kernelSumsWrong : ChangeSpec := { name := "kernelSums", fn := fun _ => fun
  | [d] => { results := [.lit (.bool false)], args := [d] }
  | _ => none }
def KernelSumsWrongFalsely : Prop := kernelSumsRow.holds Try.pinned (OpenSpec.ofChange kernelSumsWrong)

/-- 'halidelaw9.KernelAll': WHATEVER THE INPUT: true; the input reads as it did. -/
def kernelAllSpec : ChangeSpec := { name := "kernelAll", fn := fun _ => fun
  | [d1, d2, d3, d4] => { results := [.lit (.bool true)], args := [d1, d2, d3, d4] }
  | _ => none }
def kernelAllRow : OpenClaim := { program := "ytbogemlkdncafaa", sum := "d91e875d48aa3df25441479a598214f27d0508be1d48343269620be1698fa072", func := "halide/halidelaw9.KernelAll", spec := "kernelAll", unfollowed := true, recurses := true, apart := false }
def KernelAllSaid : Prop := kernelAllRow.holds Try.pinned (OpenSpec.ofChange kernelAllSpec)

/-- ITS FALSE NEIGHBOUR: 'it returns false'. Refute it at one input. -/
def kernelAllWrong : ChangeSpec := { name := "kernelAll", fn := fun _ => fun
  | [d1, d2, d3, d4] => { results := [.lit (.bool false)], args := [d1, d2, d3, d4] }
  | _ => none }
def KernelAllWrongFalsely : Prop := kernelAllRow.holds Try.pinned (OpenSpec.ofChange kernelAllWrong)

/-- 'halidelaw9.KernelRows': WHATEVER THE INPUT: true; the input reads as it did. -/
def kernelRowsSpec : ChangeSpec := { name := "kernelRows", fn := fun _ => fun
  | [d] => { results := [.lit (.bool true)], args := [d] }
  | _ => none }
def kernelRowsRow : OpenClaim := { program := "ytbogemlkdncafaa", sum := "d91e875d48aa3df25441479a598214f27d0508be1d48343269620be1698fa072", func := "halide/halidelaw9.KernelRows", spec := "kernelRows", unfollowed := true, recurses := true, apart := false }
def KernelRowsSaid : Prop := kernelRowsRow.holds Try.pinned (OpenSpec.ofChange kernelRowsSpec)

/-- ITS FALSE NEIGHBOUR: 'it returns false'. Refute it at one input. -/
def kernelRowsWrong : ChangeSpec := { name := "kernelRows", fn := fun _ => fun
  | [d] => { results := [.lit (.bool false)], args := [d] }
  | _ => none }
def KernelRowsWrongFalsely : Prop := kernelRowsRow.holds Try.pinned (OpenSpec.ofChange kernelRowsWrong)

/- THE SECOND FORM. 'bulk': how many values and letters a reading holds, each counted each time it is reached (what is shared counts as often as it is met; a slice's spare places count too). A statement '..UptoSaid' is the law's where the arguments, and the package variables that the reading takes, are together of bulk at most 1048576: NARROWER than '..Said'. Prove '..Said' where nothing that the law and all that it calls make is longer than what came in: it says more and counts as full. Else prove '..UptoSaid'. A law counts once. -/
mutual
def uptoBulk {H : Type} : DataW H → Nat
  | .lit (.string bytes) => bytes.length + 1
  | .lit _ => 1
  | .nil => 1
  | .ptr d => uptoBulk d + 1
  | .slice elems spare => uptoBulkAll elems + uptoBulkAll spare + 1
  | .agg parts => uptoBulkAll parts + 1
  | .iface _ d => uptoBulk d + 1
  | .map entries => uptoBulkEntries entries + 1
  | .held _ => 1
def uptoBulkAll {H : Type} : List (DataW H) → Nat
  | [] => 0
  | d :: r => uptoBulk d + uptoBulkAll r
def uptoBulkEntries {H : Type} : List (Lit × DataW H) → Nat
  | [] => 0
  | x :: r => uptoBulkEntry x + uptoBulkEntries r
def uptoBulkEntry {H : Type} : Lit × DataW H → Nat
  | (.string bytes, d) => bytes.length + uptoBulk d + 1
  | (_, d) => uptoBulk d + 1
 end
def uptoSmall : (H : Type) → List (DataW H) → Bool := fun _ ds => decide (uptoBulkAll ds ≤ 1048576)
def OpenSpec.upto (s : _root_.Go.ChangeSpec) : _root_.Go.OpenSpec := { _root_.Go.OpenSpec.ofChange s with cond := some uptoSmall }

/-- 'halidelaw16.StatNames', WHERE WHAT IT READS IS OF BULK AT MOST 1048576: true; the input reads as it did. -/
def statNamesUptoRow : OpenClaim := { program := "ytbogemlkdncafaa", sum := "d91e875d48aa3df25441479a598214f27d0508be1d48343269620be1698fa072", func := "halide/halidelaw16.StatNames", spec := "statNames", apart := false, narrowed := true }
def StatNamesUptoSaid : Prop := statNamesUptoRow.holds Try.pinned (OpenSpec.upto statNamesSpec)

/-- 'halidelaw28.WarpNames', WHERE WHAT IT READS IS OF BULK AT MOST 1048576: true; the input reads as it did. -/
def warpNamesUptoRow : OpenClaim := { program := "ytbogemlkdncafaa", sum := "d91e875d48aa3df25441479a598214f27d0508be1d48343269620be1698fa072", func := "halide/halidelaw28.WarpNames", spec := "warpNames", apart := false, narrowed := true }
def WarpNamesUptoSaid : Prop := warpNamesUptoRow.holds Try.pinned (OpenSpec.upto warpNamesSpec)

/-- 'halidelaw9.KernelNames', WHERE WHAT IT READS IS OF BULK AT MOST 1048576: true; the input reads as it did. -/
def kernelNamesUptoRow : OpenClaim := { program := "ytbogemlkdncafaa", sum := "d91e875d48aa3df25441479a598214f27d0508be1d48343269620be1698fa072", func := "halide/halidelaw9.KernelNames", spec := "kernelNames", apart := false, narrowed := true }
def KernelNamesUptoSaid : Prop := kernelNamesUptoRow.holds Try.pinned (OpenSpec.upto kernelNamesSpec)

/-- 'halidelaw9.KernelTaps', WHERE WHAT IT READS IS OF BULK AT MOST 1048576: true; the input reads as it did. -/
def kernelTapsUptoRow : OpenClaim := { program := "ytbogemlkdncafaa", sum := "d91e875d48aa3df25441479a598214f27d0508be1d48343269620be1698fa072", func := "halide/halidelaw9.KernelTaps", spec := "kernelTaps", unfollowed := true, recurses := true, apart := false, narrowed := true }
def KernelTapsUptoSaid : Prop := kernelTapsUptoRow.holds Try.pinned (OpenSpec.upto kernelTapsSpec)

/-- 'halidelaw9.KernelShares', WHERE WHAT IT READS IS OF BULK AT MOST 1048576: true; the input reads as it did. -/
def kernelSharesUptoRow : OpenClaim := { program := "ytbogemlkdncafaa", sum := "d91e875d48aa3df25441479a598214f27d0508be1d48343269620be1698fa072", func := "halide/halidelaw9.KernelShares", spec := "kernelShares", unfollowed := true, recurses := true, apart := false, narrowed := true }
def KernelSharesUptoSaid : Prop := kernelSharesUptoRow.holds Try.pinned (OpenSpec.upto kernelSharesSpec)

/-- 'halidelaw9.KernelOnes', WHERE WHAT IT READS IS OF BULK AT MOST 1048576: true; the input reads as it did. -/
def kernelOnesUptoRow : OpenClaim := { program := "ytbogemlkdncafaa", sum := "d91e875d48aa3df25441479a598214f27d0508be1d48343269620be1698fa072", func := "halide/halidelaw9.KernelOnes", spec := "kernelOnes", unfollowed := true, recurses := true, apart := false, narrowed := true }
def KernelOnesUptoSaid : Prop := kernelOnesUptoRow.holds Try.pinned (OpenSpec.upto kernelOnesSpec)

/-- 'halidelaw9.KernelSums', WHERE WHAT IT READS IS OF BULK AT MOST 1048576: true; the input reads as it did. -/
def kernelSumsUptoRow : OpenClaim := { program := "ytbogemlkdncafaa", sum := "d91e875d48aa3df25441479a598214f27d0508be1d48343269620be1698fa072", func := "halide/halidelaw9.KernelSums", spec := "kernelSums", unfollowed := true, recurses := true, apart := false, narrowed := true }
def KernelSumsUptoSaid : Prop := kernelSumsUptoRow.holds Try.pinned (OpenSpec.upto kernelSumsSpec)

/-- 'halidelaw9.KernelAll', WHERE WHAT IT READS IS OF BULK AT MOST 1048576: true; the input reads as it did. -/
def kernelAllUptoRow : OpenClaim := { program := "ytbogemlkdncafaa", sum := "d91e875d48aa3df25441479a598214f27d0508be1d48343269620be1698fa072", func := "halide/halidelaw9.KernelAll", spec := "kernelAll", unfollowed := true, recurses := true, apart := false, narrowed := true }
def KernelAllUptoSaid : Prop := kernelAllUptoRow.holds Try.pinned (OpenSpec.upto kernelAllSpec)

/-- 'halidelaw9.KernelRows', WHERE WHAT IT READS IS OF BULK AT MOST 1048576: true; the input reads as it did. -/
def kernelRowsUptoRow : OpenClaim := { program := "ytbogemlkdncafaa", sum := "d91e875d48aa3df25441479a598214f27d0508be1d48343269620be1698fa072", func := "halide/halidelaw9.KernelRows", spec := "kernelRows", unfollowed := true, recurses := true, apart := false, narrowed := true }
def KernelRowsUptoSaid : Prop := kernelRowsUptoRow.holds Try.pinned (OpenSpec.upto kernelRowsSpec)

end Rows
end Go.Proofs.Ytbogemlkdncafaa
