/- halidelaw3.known: its numbers. -/
import Derived.Test.YtmeifciagepmpaaDotB
namespace Go.Proofs.Ytmeifciagepmpaa
open Go.RowKit Go.Proofs.YtmeifciagepmpaaW.PrintWords
set_option linter.unusedSimpArgs false
set_option linter.unusedVariables false

def ux (l : List Nat) : Nat → Nat := fun k => l.getD k 0
def zx (l : List Int) : Nat → Int := fun k => l.getD k 0
theorem k_left : leftOf (ux [1065353216, 864026624, 864026624]) 3 = 1065353216 := by decide +kernel
theorem k_pairs : pairsOf (ux [1065353216, 864026624, 864026624]) 3 = 1065353217 := by
  rw [pairsOf_more _ (by decide) (show 1 = 3 / 2 from rfl), pairsOf_one, pairsOf_more _ (by decide) (show 1 = (3 - 1) / 2 from rfl), pairsOf_one, pairsOf_one]
  decide +kernel
theorem k_exact : exactOf (ux [1065353216, 864026624, 864026624]) 3 = 1065353217 := by decide +kernel
theorem k_kahan : kahanOf (ux [1065353216, 864026624, 864026624]) 3 = 1065353217 := by decide +kernel
theorem k_left64 : leftOf64 (ux [1065353216, 864026624, 864026624]) 3 = 4607182419336888320 := by decide +kernel
theorem k_left2 : leftOf (ux [2130706432, 2130706432, 4278190080]) 3 = 2139095040 := by decide +kernel
theorem k_exact2 : exactOf (ux [2130706432, 2130706432, 4278190080]) 3 = 2130706432 := by decide +kernel
theorem k_exact3 : exactOf (ux [2147483648, 2147483648]) 2 = 2147483648 := by decide +kernel
theorem k_dot64 : dotOf64 (zx [1, -1]) (ux [1065353216, 864026624]) 2 = 4607182418263146496 := by decide +kernel
theorem k_dotB : dotB (zx [32768, 32768]) (ux [1065353216, 1077936128]) 2 = 4611686018427387904 := by decide +kernel
theorem k_dot : dotOf (zx [32768, 32768]) (ux [1065353216, 1077936128]) 2 = 1073741824 := by unfold dotOf; rw [k_dotB]; decide +kernel
theorem k_narrow : NarrowOk (dotB (zx [32768, 32768]) (ux [1065353216, 1077936128]) 2) := by
  rw [k_dotB]
  intro s m p _
  decide +kernel
def kA : Ac := acAll acNone (ux [1065353216, 1065353216, 1]) 3
theorem k_none : ovrV acNone (acNone.n : Int) = 0 ∧ ovrE (acNone.n : Int) = 33 := by decide +kernel
theorem k_mean : ovrV kA (kA.n : Int) = 1059760811 ∧ ovrE (kA.n : Int) = 0 := by decide +kernel
theorem k_sum : ovr kA 1 = 1073741824 := by decide +kernel
theorem k_n : kA.n = 3 ∧ (acPlus kA kA).n = 6 := by decide +kernel
theorem k_sum2 : ovr (acPlus kA kA) 1 = 1082130432 := by decide +kernel
end Go.Proofs.Ytmeifciagepmpaa
