/- Plain lemmas on wrap64: sums, differences and products may be wrapped once, at the end. -/
import Derived.WalkKit
namespace Go.Proofs.Ytdcpeeolfgohmaa
open Go.RowKit

theorem wrap64_ex (a : Int) : ∃ k, wrap64 a = a + k * 18446744073709551616 := by
  refine ⟨-((a + 9223372036854775808) / 18446744073709551616), ?_⟩
  unfold wrap64
  omega

theorem wrap64_shift (a k : Int) : wrap64 (a + k * 18446744073709551616) = wrap64 a := by
  unfold wrap64
  omega

theorem wrap64_add_l (a b : Int) : wrap64 (wrap64 a + b) = wrap64 (a + b) := by
  obtain ⟨k, hk⟩ := wrap64_ex a
  rw [hk, show a + k * 18446744073709551616 + b = (a + b) + k * 18446744073709551616 by omega, wrap64_shift]

theorem wrap64_add_r (a b : Int) : wrap64 (a + wrap64 b) = wrap64 (a + b) := by
  rw [Int.add_comm, wrap64_add_l, Int.add_comm]

theorem wrap64_sub_l (a b : Int) : wrap64 (wrap64 a - b) = wrap64 (a - b) := by
  obtain ⟨k, hk⟩ := wrap64_ex a
  rw [hk, show a + k * 18446744073709551616 - b = (a - b) + k * 18446744073709551616 by omega, wrap64_shift]

theorem wrap64_sub_r (a b : Int) : wrap64 (a - wrap64 b) = wrap64 (a - b) := by
  obtain ⟨k, hk⟩ := wrap64_ex b
  rw [hk, show a - (b + k * 18446744073709551616) = (a - b) + (-k) * 18446744073709551616 by omega, wrap64_shift]

theorem wrap64_mul_l (a b : Int) : wrap64 (wrap64 a * b) = wrap64 (a * b) := by
  obtain ⟨k, hk⟩ := wrap64_ex a
  rw [hk, Int.add_mul, show k * 18446744073709551616 * b = (k * b) * 18446744073709551616 by
    rw [Int.mul_assoc, Int.mul_comm 18446744073709551616 b, ← Int.mul_assoc], wrap64_shift]

theorem wrap64_mul_r (a b : Int) : wrap64 (a * wrap64 b) = wrap64 (a * b) := by
  rw [Int.mul_comm, wrap64_mul_l, Int.mul_comm]

theorem wrap64_neg (a : Int) : wrap64 (-wrap64 a) = wrap64 (-a) := by
  obtain ⟨k, hk⟩ := wrap64_ex a
  rw [hk, show -(a + k * 18446744073709551616) = -a + (-k) * 18446744073709551616 by omega, wrap64_shift]

theorem wrap64_wrap (a : Int) : wrap64 (wrap64 a) = wrap64 a := by
  unfold wrap64; omega

theorem wrap64_id {a : Int} (h1 : -9223372036854775808 ≤ a) (h2 : a ≤ 9223372036854775807) : wrap64 a = a := by
  unfold wrap64; omega

theorem ret_eq {k : IntKind} {a b : Int} (h : a = b) : Ending.returned (.int k a) = .returned (.int k b) := by rw [h]

/-- A value that wraps are to be taken out of. -/
theorem wrap64_to {a b : Int} (h : wrap64 a = wrap64 b) (h1 : -9223372036854775808 ≤ b) (h2 : b ≤ 9223372036854775807) : wrap64 a = b := by
  rw [h, wrap64_id h1 h2]

/-- |a * b| by bounds. -/
theorem mul_bd {a b A B : Int} (ha1 : -A ≤ a) (ha2 : a ≤ A) (hb1 : -B ≤ b) (hb2 : b ≤ B) : -(A * B) ≤ a * b ∧ a * b ≤ A * B := by
  have hA : 0 ≤ A := by omega
  have hB : 0 ≤ B := by omega
  have h1 : 0 ≤ (A - a) * (B + b) := Int.mul_nonneg (by omega) (by omega)
  have h2 : 0 ≤ (A + a) * (B - b) := Int.mul_nonneg (by omega) (by omega)
  have h3 : 0 ≤ (A - a) * (B - b) := Int.mul_nonneg (by omega) (by omega)
  have h4 : 0 ≤ (A + a) * (B + b) := Int.mul_nonneg (by omega) (by omega)
  have e1 : (A - a) * (B + b) = A * B + A * b - a * B - a * b := by rw [Int.sub_mul, Int.mul_add, Int.mul_add]; omega
  have e2 : (A + a) * (B - b) = A * B - A * b + a * B - a * b := by rw [Int.add_mul, Int.mul_sub, Int.mul_sub]; omega
  have e3 : (A - a) * (B - b) = A * B - A * b - a * B + a * b := by rw [Int.sub_mul, Int.mul_sub, Int.mul_sub]; omega
  have e4 : (A + a) * (B + b) = A * B + A * b + a * B + a * b := by rw [Int.add_mul, Int.mul_add, Int.mul_add]; omega
  constructor <;> omega
end Go.Proofs.Ytdcpeeolfgohmaa
