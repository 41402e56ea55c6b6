/- Plain: the reference's rounding is the standard's. -/
import Derived.Test.YtdcpeeolfgohmaaNatP
import Ieee.Arith
namespace Go.Proofs.Ytdcpeeolfgohmaa
set_option linter.unusedSimpArgs false
set_option linter.unusedVariables false

/-- The number that is kept of n 2^-d. -/
def rKept (n : Nat) (d : Int) (more : Bool) : Nat :=
  if 0 < d then n / 2 ^ d.toNat + (if n / 2 ^ (d.toNat - 1) % 2 = 1 ∧ (more = true ∨ n % 2 ^ (d.toNat - 1) ≠ 0 ∨ n / 2 ^ d.toNat % 2 = 1) then 1 else 0)
  else n * 2 ^ (-d).toNat
/-- The place of the last digit that is kept. -/
def rTo (fr bias n : Nat) (e : Int) : Int := max ((bitlen n : Int) + e - ((fr : Int) + 1)) (1 - (bias : Int))
/-- The word of what is kept, without its sign. -/
def rRung (fr bias top : Nat) (tt : Int) (m0 : Nat) : Nat :=
  if fr + 1 < bitlen m0 then (if (top : Int) ≤ tt + 1 + (bias : Int) then top * 2 ^ fr else (tt + 1 + (bias : Int)).toNat * 2 ^ fr)
  else if m0 < 2 ^ fr then m0
  else if (top : Int) ≤ tt + (bias : Int) then top * 2 ^ fr
  else (tt + (bias : Int)).toNat * 2 ^ fr + (m0 - 2 ^ fr)
def rSign (fr ex : Nat) (neg : Bool) : Nat := if neg then 2 ^ (fr + ex) else 0
def refRound (fr ex bias top : Nat) (neg : Bool) (n : Nat) (e : Int) (more : Bool) : Nat :=
  rSign fr ex neg + rRung fr bias top (rTo fr bias n e) (rKept n (rTo fr bias n e - e) more)

theorem bitlen_spec {n : Nat} (h : n ≠ 0) : 2 ^ (bitlen n - 1) ≤ n ∧ n < 2 ^ bitlen n ∧ 1 ≤ bitlen n := by
  have e : bitlen n = n.log2 + 1 := by unfold bitlen; rw [if_neg h]
  rw [e]
  exact ⟨Nat.log2_self_le h, Nat.lt_log2_self, by omega⟩
theorem pow_split {a b : Nat} (h : b ≤ a) : 2 ^ a = 2 ^ b * 2 ^ (a - b) := by rw [← Nat.pow_add]; congr 1; omega

theorem cut_zero (neg : Bool) (n : Nat) : Ieee.Toward.even.cut neg n 0 = n := by
  unfold Ieee.Toward.cut
  simp [Nat.mod_one]
theorem cut_even (neg : Bool) (n d : Nat) (hn : n ≠ 0) (hd : 0 < d) : Ieee.Toward.even.cut neg n d = rKept n (d : Int) false := by
  unfold rKept
  rw [if_pos (by omega), Int.toNat_natCast]
  unfold Ieee.Toward.cut
  dsimp only
  rw [Nat.one_shiftLeft]
  rcases Nat.lt_or_ge (n.log2 + 2) d with h | h
  · rw [Nat.min_eq_right (by omega)]
    have h1 := @Nat.lt_log2_self n
    have h2 : n < 2 ^ (d - 1) := Nat.lt_of_lt_of_le h1 (Nat.pow_le_pow_right (by decide) (by omega))
    have h3 : n < 2 ^ d := Nat.lt_of_lt_of_le h2 (Nat.pow_le_pow_right (by decide) (by omega))
    have e2 : 2 ^ (n.log2 + 2) = 2 * 2 ^ (n.log2 + 1) := by rw [Nat.pow_succ, Nat.mul_comm]
    rw [Nat.div_eq_of_lt h3, Nat.div_eq_of_lt h2, Nat.div_eq_of_lt (by omega), Nat.mod_eq_of_lt (by omega)]
    have e3 : (2 ^ (n.log2 + 2) < 2 * n) = False := eq_false (by omega)
    simp [e3]
  · rw [Nat.min_eq_left h]
    obtain ⟨k, rfl⟩ : ∃ k, d = k + 1 := ⟨d - 1, by omega⟩
    have hm := mod_bit n k
    have hb : n / 2 ^ k % 2 = 0 ∨ n / 2 ^ k % 2 = 1 := by omega
    have hr := Nat.mod_lt n (Nat.two_pow_pos k)
    have hp : 2 ^ (k + 1) = 2 * 2 ^ k := by rw [Nat.pow_succ, Nat.mul_comm]
    rw [show k + 1 - 1 = k by omega]
    congr 1
    rcases hb with hb | hb
    · rw [hb] at hm ⊢
      rw [Nat.mul_zero, Nat.add_zero] at hm
      rw [hm]
      have e1 : (2 ^ (k + 1) < 2 * (n % 2 ^ k)) = False := eq_false (by omega)
      have e2 : (2 ^ (k + 1) == 2 * (n % 2 ^ k)) = false := by rw [beq_eq_false_iff_ne]; omega
      simp [e1, e2]
    · rw [hb] at hm ⊢
      rw [Nat.mul_one] at hm
      rw [hm]
      by_cases h0 : n % 2 ^ k = 0
      · rw [h0]
        have e1 : (2 ^ (k + 1) < 2 * (0 + 2 ^ k)) = False := eq_false (by omega)
        have e2 : (2 ^ (k + 1) == 2 * (0 + 2 ^ k)) = true := by rw [beq_iff_eq]; omega
        simp only [e1, e2, decide_false, Bool.false_or, Bool.true_and]
        by_cases ho : n / 2 ^ (k + 1) % 2 = 1 <;> simp [ho]
      · have e1 : (2 ^ (k + 1) < 2 * (n % 2 ^ k + 2 ^ k)) = True := eq_true (by omega)
        simp [e1, h0]

theorem rKept_bd {fr bias n : Nat} {e : Int} (hn : n ≠ 0) (more : Bool) :
    rKept n (rTo fr bias n e - e) more ≤ 2 ^ (fr + 1) ∧ (1 - (bias : Int) < rTo fr bias n e → 2 ^ fr ≤ rKept n (rTo fr bias n e - e) more) := by
  obtain ⟨h1, h2, h3⟩ := bitlen_spec hn
  have hto : (bitlen n : Int) + e - ((fr : Int) + 1) ≤ rTo fr bias n e := by unfold rTo; omega
  have hge : 1 - (bias : Int) < rTo fr bias n e → rTo fr bias n e = (bitlen n : Int) + e - ((fr : Int) + 1) := by unfold rTo; omega
  obtain ⟨d, ed⟩ : ∃ d, d = rTo fr bias n e - e := ⟨_, rfl⟩
  rw [← ed]
  unfold rKept
  by_cases hd : 0 < d
  · rw [if_pos hd]
    obtain ⟨k, rfl⟩ := Int.eq_ofNat_of_zero_le (by omega : 0 ≤ d)
    rw [Int.toNat_natCast]
    constructor
    · have hk : bitlen n ≤ (fr + 1) + k := by omega
      have : n / 2 ^ k < 2 ^ (fr + 1) := by
        rw [Nat.div_lt_iff_lt_mul (Nat.two_pow_pos k), ← Nat.pow_add]
        exact Nat.lt_of_lt_of_le h2 (Nat.pow_le_pow_right (by decide) hk)
      split <;> omega
    · intro h
      have hk := hge h
      have hk2 : bitlen n - 1 = fr + k := by omega
      have : 2 ^ fr ≤ n / 2 ^ k := by
        rw [Nat.le_div_iff_mul_le (Nat.two_pow_pos k), ← Nat.pow_add, ← hk2]
        exact h1
      omega
  · rw [if_neg hd]
    obtain ⟨k, hk⟩ := Int.eq_ofNat_of_zero_le (by omega : 0 ≤ -d)
    rw [hk, Int.toNat_natCast]
    constructor
    · have hk2 : bitlen n + k ≤ fr + 1 := by omega
      have : n * 2 ^ k ≤ 2 ^ bitlen n * 2 ^ k := Nat.mul_le_mul_right _ (by omega)
      rw [← Nat.pow_add] at this
      exact Nat.le_trans this (Nat.pow_le_pow_right (by decide) hk2)
    · intro h
      have hk1 := hge h
      have hk2 : bitlen n - 1 + k = fr := by omega
      have : 2 ^ (bitlen n - 1) * 2 ^ k ≤ n * 2 ^ k := Nat.mul_le_mul_right _ h1
      rw [← Nat.pow_add, hk2] at this
      exact this

/-- The rung, as the standard has it. -/
theorem rRung_eq {fr bias top : Nat} {tt : Int} {m0 : Nat} (hl : 1 - (bias : Int) ≤ tt) (h1 : m0 ≤ 2 ^ (fr + 1)) (h2 : 1 - (bias : Int) < tt → 2 ^ fr ≤ m0) (htop : 1 ≤ top) :
    rRung fr bias top tt m0 = min ((tt - (1 - (bias : Int))).toNat * 2 ^ fr + m0) (top * 2 ^ fr) := by
  obtain ⟨k, hk⟩ := Int.eq_ofNat_of_zero_le (by omega : 0 ≤ tt - (1 - (bias : Int)))
  have ett : tt = (k : Int) + 1 - (bias : Int) := by omega
  have hp : 2 ^ (fr + 1) = 2 * 2 ^ fr := by rw [Nat.pow_succ, Nat.mul_comm]
  have hP := Nat.two_pow_pos fr
  rw [hk, Int.toNat_natCast]
  unfold rRung
  have e1 : (tt + 1 + (bias : Int)) = ((k + 2 : Nat) : Int) := by omega
  have e2 : (tt + (bias : Int)) = ((k + 1 : Nat) : Int) := by omega
  rw [e1, e2, Int.toNat_natCast, Int.toNat_natCast]
  have hkt : 0 < k → 2 ^ fr ≤ m0 := fun h => h2 (by omega)
  by_cases hb : fr + 1 < bitlen m0
  · rw [if_pos hb]
    have hm : m0 = 2 ^ (fr + 1) := by
      rcases Nat.lt_or_ge m0 (2 ^ (fr + 1)) with h | h
      · have := (bitlen_lt m0 (fr + 1)).2 h; omega
      · omega
    have e3 : k * 2 ^ fr + m0 = (k + 2) * 2 ^ fr := by rw [hm, hp, Nat.add_mul]
    rw [e3]
    by_cases ht : (top : Int) ≤ ((k + 2 : Nat) : Int)
    · rw [if_pos ht, Nat.min_eq_right (Nat.mul_le_mul_right _ (by omega))]
    · rw [if_neg ht, Nat.min_eq_left (Nat.mul_le_mul_right _ (by omega))]
  · rw [if_neg hb]
    have hm : m0 < 2 ^ (fr + 1) := (bitlen_lt m0 (fr + 1)).1 (by omega)
    by_cases hs : m0 < 2 ^ fr
    · rw [if_pos hs]
      have hk0 : k = 0 := by
        rcases Nat.eq_zero_or_pos k with h | h
        · exact h
        · have := hkt h; omega
      rw [hk0, Nat.zero_mul, Nat.zero_add]
      have : 1 * 2 ^ fr ≤ top * 2 ^ fr := Nat.mul_le_mul_right _ htop
      omega
    · rw [if_neg hs]
      by_cases ht : (top : Int) ≤ ((k + 1 : Nat) : Int)
      · rw [if_pos ht]
        have : top * 2 ^ fr ≤ (k + 1) * 2 ^ fr := Nat.mul_le_mul_right _ (by omega)
        rw [Nat.add_mul, Nat.one_mul] at this
        omega
      · rw [if_neg ht]
        have : (k + 2) * 2 ^ fr ≤ top * 2 ^ fr := Nat.mul_le_mul_right _ (by omega)
        rw [Nat.add_mul] at this ⊢
        omega

theorem refRound_nearest (f : Ieee.Format) (bias top : Nat) (hl : f.leastPlace = 1 - (bias : Int)) (hi : f.infRung = top * 2 ^ f.fractionBits) (htop : 1 ≤ top) (neg : Bool) (n : Nat) (e : Int) :
    refRound f.fractionBits f.exponentBits bias top neg n e false = f.nearest neg n e := by
  have hw : ∀ r, f.word neg r = rSign f.fractionBits f.exponentBits neg + r := fun r => by
    unfold Ieee.Format.word rSign Ieee.Format.signWeight
    rw [Nat.add_comm f.exponentBits]; split <;> omega
  unfold Ieee.Format.nearest
  by_cases hn : n = 0
  · rw [if_pos hn, hw, hn]
    unfold refRound
    have hk : ∀ d, rKept 0 d false = 0 := fun d => by unfold rKept; split <;> simp
    rw [hk]
    have : rRung f.fractionBits bias top (rTo f.fractionBits bias 0 e) 0 = 0 := by
      unfold rRung
      rw [if_neg (by simp [bitlen]), if_pos (Nat.two_pow_pos _)]
    rw [this]
  · rw [if_neg hn]
    dsimp only
    have hlast : max (e + (n.log2 : Int) - (f.fractionBits : Int)) f.leastPlace = rTo f.fractionBits bias n e := by
      unfold rTo bitlen
      rw [if_neg hn, hl]; congr 1; omega
    rw [hlast, hw]
    unfold refRound
    have hb := rKept_bd (fr := f.fractionBits) (bias := bias) (e := e) hn false
    rw [rRung_eq (by unfold rTo; omega) hb.1 hb.2 htop, hl, hi]
    have hkept : Ieee.Toward.even.cut neg (n <<< (e - rTo f.fractionBits bias n e).toNat) (rTo f.fractionBits bias n e - e).toNat = rKept n (rTo f.fractionBits bias n e - e) false := by
      obtain ⟨d, ed⟩ : ∃ d, d = rTo f.fractionBits bias n e - e := ⟨_, rfl⟩
      rw [show e - rTo f.fractionBits bias n e = -d by omega, ← ed]
      by_cases hd : 0 < d
      · obtain ⟨k, rfl⟩ := Int.eq_ofNat_of_zero_le (by omega : 0 ≤ d)
        rw [show (-(k : Int)).toNat = 0 by omega, Nat.shiftLeft_zero, Int.toNat_natCast]
        exact cut_even neg n k hn (by omega)
      · rw [show d.toNat = 0 by omega, cut_zero, Nat.shiftLeft_eq]
        unfold rKept
        rw [if_neg hd]
    rw [hkept]
    rfl

theorem rKept_succ (n k : Nat) (more : Bool) : rKept n ((k + 1 : Nat) : Int) more = n / 2 ^ (k + 1) + (if n / 2 ^ k % 2 = 1 ∧ (more = true ∨ n % 2 ^ k ≠ 0 ∨ n / 2 ^ (k + 1) % 2 = 1) then 1 else 0) := by
  unfold rKept
  rw [if_pos (by omega), Int.toNat_natCast, show k + 1 - 1 = k by omega]
/-- What is left behind the last digit, told by one digit more. -/
theorem refRound_more (fr ex bias top : Nat) (neg : Bool) (n : Nat) (e : Int) (h : fr + 2 ≤ bitlen n) :
    refRound fr ex bias top neg n e true = refRound fr ex bias top neg (2 * n + 1) (e - 1) false := by
  have hn : n ≠ 0 := by rintro rfl; simp [bitlen] at h
  have hb : bitlen (2 * n + 1) = bitlen n + 1 := by
    have h1 := bitlen_spec hn
    have u1 : bitlen (2 * n + 1) ≤ bitlen n + 1 := by rw [bitlen_lt, Nat.pow_succ]; omega
    have u2 : ¬ bitlen (2 * n + 1) ≤ bitlen n := by
      rw [bitlen_lt]
      have : 2 ^ bitlen n = 2 ^ (bitlen n - 1) * 2 := by rw [← Nat.pow_succ]; congr 1; omega
      omega
    omega
  have ht : rTo fr bias (2 * n + 1) (e - 1) = rTo fr bias n e := by unfold rTo; rw [hb]; omega
  unfold refRound
  rw [ht]
  have hd : 1 ≤ rTo fr bias n e - e := by unfold rTo; omega
  obtain ⟨k, hk⟩ := Int.eq_ofNat_of_zero_le (by omega : 0 ≤ rTo fr bias n e - e - 1)
  rw [show rTo fr bias n e - e = ((k + 1 : Nat) : Int) by omega, show rTo fr bias n e - (e - 1) = ((k + 2 : Nat) : Int) by omega]
  congr 2
  rw [rKept_succ, rKept_succ]
  have p2 : 2 ^ (k + 2) = 2 * 2 ^ (k + 1) := by rw [Nat.pow_succ 2 (k + 1), Nat.mul_comm]
  have p1 : 2 ^ (k + 1) = 2 * 2 ^ k := by rw [Nat.pow_succ 2 k, Nat.mul_comm]
  have hh : (2 * n + 1) / 2 = n := by omega
  have e1 : (2 * n + 1) / 2 ^ (k + 2) = n / 2 ^ (k + 1) := by rw [p2, ← Nat.div_div_eq_div_mul, hh]
  have e2 : (2 * n + 1) / 2 ^ (k + 1) = n / 2 ^ k := by rw [p1, ← Nat.div_div_eq_div_mul, hh]
  have e3 : (2 * n + 1) % 2 ^ (k + 1) ≠ 0 := by
    intro h0
    have h1 := Nat.dvd_of_mod_eq_zero h0
    have h2 : 2 ∣ 2 * n + 1 := Nat.dvd_trans ⟨2 ^ k, p1⟩ h1
    omega
  rw [e1, e2]
  simp [e3]
end Go.Proofs.Ytdcpeeolfgohmaa
