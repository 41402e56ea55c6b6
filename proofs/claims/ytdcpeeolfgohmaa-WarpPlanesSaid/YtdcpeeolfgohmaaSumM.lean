/- SumL, SumM without what this seat does not reach (part.py). -/
import Derived.Test.YtdcpeeolfgohmaaArW
namespace Go.Proofs.Ytdcpeeolfgohmaa
open Go.RowKit Go.Proofs.YtdcpeeolfgohmaaW.PrintWords
set_option linter.unusedSimpArgs false
set_option linter.unusedVariables false

theorem first32_lt {a : Nat} (ha : a < 4294967296) : first32 a < 4294967296 := by unfold first32; split; omega; exact ha
theorem u_add1 (ad : Addr) (i : Nat) : ad.add (i + 1) = ⟨ad.block, ad.off + 1 + i, none⟩ := by
  unfold Addr.add
  rw [if_neg (by omega), show ad.off + (i + 1) = ad.off + 1 + i by omega]

theorem wide64_lt (a : Nat) : wide64 a < 18446744073709551616 := told64_lt _
theorem wide64_not_nan {a : Nat} (hn : (rd32 a).isNaN = false) : (rd64 (wide64 a)).isNaN = false := by
  rcases wide_read a hn with ⟨s, h1, h2⟩ | ⟨s, p, h1, h2⟩ | ⟨s, m, p, j, _, _, _, _, _, h1, h2⟩ <;> rw [h2] <;> rfl
theorem canon_wide (a : Nat) : canon64 (wide64 a) = wide64 a := by
  cases hn : (rd32 a).isNaN with
  | true => rw [wide64_nan a hn]; exact canon64_nan (by decide +kernel)
  | false => exact canon64_num (wide64_not_nan hn)
theorem add64_canon (r b : Nat) : add64 (canon64 r) b = add64 r b := by
  cases hn : (rd64 r).isNaN with
  | true =>
    rw [canon64_nan hn]
    have h1 : ∀ q, (rd64 q).isNaN = true → add64 q b = 9221120237041090560 := fun q hq => by
      unfold add64
      cases h : rd64 q with
      | nan s t => rfl
      | infinity s => rw [h] at hq; cases hq
      | number s m p => rw [h] at hq; cases hq
    rw [h1 r hn, h1 9221120237041090560 (by decide +kernel)]
  | false => rw [canon64_num hn]

end Go.Proofs.Ytdcpeeolfgohmaa
