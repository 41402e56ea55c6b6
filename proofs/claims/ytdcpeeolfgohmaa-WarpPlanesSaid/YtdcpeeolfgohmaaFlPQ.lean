/- Plain: words of 32 and 64 bits, written and read. Plain: the machine's floats are the reference's. -/
import Derived.Test.YtdcpeeolfgohmaaRefA
namespace Go.Proofs.Ytdcpeeolfgohmaa
set_option linter.unusedSimpArgs false
set_option linter.unusedVariables false

/-- The word of a number, in the reference's parts. -/
theorem write_num (fr ex bias top : Nat) (hf : IsForm fr ex bias top) (s : Bool) (m : Nat) (p : Int) :
    (fmt fr ex).write (.number s m p) = rSign fr ex s + rRung fr bias top (rTo fr bias m p) (rKept m (rTo fr bias m p - p) false) := by
  obtain ⟨h1, h2, h3⟩ := form_facts fr ex bias top hf
  exact (refRound_nearest (fmt fr ex) bias top h1 h2 h3 s m p).symm
theorem write_inf (fr ex bias top : Nat) (hf : IsForm fr ex bias top) (s : Bool) : (fmt fr ex).write (.infinity s) = rSign fr ex s + top * 2 ^ fr := by
  obtain ⟨h1, h2, h3⟩ := form_facts fr ex bias top hf
  show (fmt fr ex).word s (fmt fr ex).infRung = _
  rw [h2]
  unfold Ieee.Format.word rSign Ieee.Format.signWeight
  show (if s = true then 2 ^ (ex + fr) + _ else _) = _
  rw [Nat.add_comm ex]
  split <;> omega
/-- A word in parts. -/
theorem word_parts (fr ex : Nat) (b : Nat) (hb : b < 2 ^ (1 + ex + fr)) : b = rSign fr ex (b / 2 ^ (fr + ex) % 2 == 1) + (b / 2 ^ fr % 2 ^ ex) * 2 ^ fr + b % 2 ^ fr := by
  have h1 : b % 2 ^ (fr + ex) = b % 2 ^ fr + 2 ^ fr * (b / 2 ^ fr % 2 ^ ex) := by rw [Nat.pow_add, Nat.mod_mul]
  have h2 := Nat.div_add_mod b (2 ^ (fr + ex))
  have h3 : b / 2 ^ (fr + ex) < 2 := by
    rw [Nat.div_lt_iff_lt_mul (Nat.two_pow_pos _), ← Nat.pow_succ']
    exact Nat.lt_of_lt_of_eq hb (by congr 1; omega)
  unfold rSign
  rw [h1, Nat.mul_comm (2 ^ fr)] at h2
  obtain ⟨q, eq⟩ : ∃ q, q = b / 2 ^ (fr + ex) := ⟨_, rfl⟩
  rw [← eq] at h2 h3 ⊢
  have hq : q = 0 ∨ q = 1 := by omega
  rcases hq with h | h
  · rw [h] at h2 ⊢; simp; omega
  · rw [h] at h2 ⊢; simp; omega
theorem bitlen_of {m k : Nat} (h1 : 2 ^ k ≤ m) (h2 : m < 2 ^ (k + 1)) : bitlen m = k + 1 := by
  have u1 := (bitlen_lt m (k + 1)).2 h2
  have u2 : ¬ bitlen m ≤ k := by rw [bitlen_lt]; omega
  omega
theorem rKept_zero (n : Nat) (more : Bool) : rKept n 0 more = n := by unfold rKept; simp

/-- What is read is written back. -/
theorem write_read (fr ex bias top : Nat) (hf : IsForm fr ex bias top) (b : Nat) (hb : b < 2 ^ (1 + ex + fr)) (hn : ((fmt fr ex).read b).isNaN = false) : (fmt fr ex).write ((fmt fr ex).read b) = b := by
  have hp := word_parts fr ex b hb
  have hm := Nat.mod_lt b (Nat.two_pow_pos fr)
  have hx := Nat.mod_lt (b / 2 ^ fr) (Nat.two_pow_pos ex)
  have htop : top + 1 = 2 ^ ex := by rcases hf with ⟨rfl, rfl, rfl, rfl⟩ | ⟨rfl, rfl, rfl, rfl⟩ <;> decide
  rw [read_parts fr ex bias top hf] at hn ⊢
  obtain ⟨s, es⟩ : ∃ s, s = (b / 2 ^ (fr + ex) % 2 == 1) := ⟨_, rfl⟩
  obtain ⟨x, ex'⟩ : ∃ x, x = b / 2 ^ fr % 2 ^ ex := ⟨_, rfl⟩
  obtain ⟨m, em⟩ : ∃ m, m = b % 2 ^ fr := ⟨_, rfl⟩
  rw [← es, ← ex', ← em] at hp hn
  rw [← es, ← ex', ← em]
  rw [← ex'] at hx
  rw [← em] at hm
  have hP := Nat.two_pow_pos fr
  by_cases h1 : x = top
  · rw [if_pos h1] at hn ⊢
    by_cases h2 : m = 0
    · rw [if_pos h2, write_inf fr ex bias top hf, hp, h1, h2, Nat.add_zero]
    · rw [if_neg h2] at hn; cases hn
  · rw [if_neg h1] at hn ⊢
    by_cases h2 : x = 0
    · rw [if_pos h2, write_num fr ex bias top hf]
      have hbl : bitlen m ≤ fr := (bitlen_lt m fr).2 hm
      have ht : rTo fr bias m (1 - (bias : Int)) = 1 - (bias : Int) := by unfold rTo; omega
      rw [ht, show (1 - (bias : Int)) - (1 - (bias : Int)) = 0 by omega, rKept_zero, hp, h2]
      unfold rRung
      rw [if_neg (by omega), if_pos hm]; omega
    · rw [if_neg h2, write_num fr ex bias top hf]
      have hbl : bitlen (2 ^ fr + m) = fr + 1 := bitlen_of (by omega) (by rw [Nat.pow_succ]; omega)
      have ht : rTo fr bias (2 ^ fr + m) ((x : Int) - (bias : Int)) = (x : Int) - (bias : Int) := by unfold rTo; rw [hbl]; omega
      rw [ht, show ((x : Int) - (bias : Int)) - ((x : Int) - (bias : Int)) = 0 by omega, rKept_zero]
      unfold rRung
      rw [if_neg (by omega), if_neg (by omega), if_neg (by omega), show ((x : Int) - (bias : Int) + (bias : Int)).toNat = x by omega]
      omega

/-- A number twice as fine is rounded alike. -/
theorem rKept_scale (m j : Nat) (d : Int) (more : Bool) (hm : more = false) : rKept (m * 2 ^ j) (d + (j : Int)) more = rKept m d more := by
  subst hm
  have hj := Nat.two_pow_pos j
  by_cases h1 : 0 < d
  · obtain ⟨k, rfl⟩ : ∃ k : Nat, d = ((k + 1 : Nat) : Int) := ⟨(d - 1).toNat, by omega⟩
    rw [show ((k + 1 : Nat) : Int) + (j : Int) = ((k + j + 1 : Nat) : Int) by omega, rKept_succ, rKept_succ]
    have e1 : m * 2 ^ j / 2 ^ (k + j + 1) = m / 2 ^ (k + 1) := by
      rw [show k + j + 1 = j + (k + 1) by omega, Nat.pow_add, ← Nat.div_div_eq_div_mul, Nat.mul_div_cancel _ hj]
    have e2 : m * 2 ^ j / 2 ^ (k + j) = m / 2 ^ k := by
      rw [Nat.add_comm k j, Nat.pow_add, ← Nat.div_div_eq_div_mul, Nat.mul_div_cancel _ hj]
    have e3 : m * 2 ^ j % 2 ^ (k + j) = m % 2 ^ k * 2 ^ j := by
      rw [Nat.pow_add, Nat.mul_mod_mul_right]
    rw [e1, e2, e3]
    have e4 : (m % 2 ^ k * 2 ^ j ≠ 0) = (m % 2 ^ k ≠ 0) := by
      apply propext
      constructor
      · intro h h0; apply h; rw [h0, Nat.zero_mul]
      · intro h h0; rcases Nat.mul_eq_zero.1 h0 with h' | h'
        · exact h h'
        · omega
    simp only [e4]
  · by_cases h2 : 0 < d + (j : Int)
    · obtain ⟨k, hk⟩ : ∃ k : Nat, d + (j : Int) = ((k + 1 : Nat) : Int) := ⟨(d + (j : Int) - 1).toNat, by omega⟩
      obtain ⟨i, hi⟩ := Int.eq_ofNat_of_zero_le (by omega : 0 ≤ -d)
      have hji : j = k + 1 + i := by omega
      rw [hk, rKept_succ]
      have e1 : m * 2 ^ j / 2 ^ (k + 1) = m * 2 ^ i := by
        rw [hji, Nat.pow_add, Nat.mul_comm (2 ^ (k + 1)), ← Nat.mul_assoc, Nat.mul_div_cancel _ (Nat.two_pow_pos _)]
      have e2 : m * 2 ^ j / 2 ^ k % 2 = 0 := by
        rw [hji, show k + 1 + i = k + (i + 1) by omega, Nat.pow_add, Nat.mul_comm (2 ^ k), ← Nat.mul_assoc, Nat.mul_div_cancel _ (Nat.two_pow_pos _), Nat.pow_succ, ← Nat.mul_assoc]; omega
      rw [e1, if_neg (by rw [e2]; omega)]
      unfold rKept
      rw [if_neg h1, hi, Int.toNat_natCast, Nat.add_zero]
    · unfold rKept
      rw [if_neg h1, if_neg h2]
      obtain ⟨i, hi⟩ := Int.eq_ofNat_of_zero_le (by omega : 0 ≤ -(d + (j : Int)))
      rw [show (-d).toNat = i + j by omega, show (-(d + (j : Int))).toNat = i by omega, Nat.pow_add, Nat.mul_assoc, Nat.mul_comm (2 ^ j)]
theorem bitlen_scale {m : Nat} (hm : m ≠ 0) (j : Nat) : bitlen (m * 2 ^ j) = bitlen m + j := by
  obtain ⟨h1, h2, h3⟩ := bitlen_spec hm
  have e := bitlen_of (m := m * 2 ^ j) (k := bitlen m - 1 + j) (by rw [Nat.pow_add]; exact Nat.mul_le_mul_right _ h1)
    (by rw [show bitlen m - 1 + j + 1 = bitlen m + j by omega, Nat.pow_add]; exact (Nat.mul_lt_mul_right (Nat.two_pow_pos j)).2 h2)
  omega
theorem write_scale (fr ex bias top : Nat) (hf : IsForm fr ex bias top) (s : Bool) (m j : Nat) (p : Int) (hm : m ≠ 0) : (fmt fr ex).write (.number s (m * 2 ^ j) (p - (j : Int))) = (fmt fr ex).write (.number s m p) := by
  rw [write_num fr ex bias top hf, write_num fr ex bias top hf]
  have ht : rTo fr bias (m * 2 ^ j) (p - (j : Int)) = rTo fr bias m p := by unfold rTo; rw [bitlen_scale hm]; omega
  rw [ht, show rTo fr bias m p - (p - (j : Int)) = (rTo fr bias m p - p) + (j : Int) by omega, rKept_scale _ _ _ _ rfl]
theorem write_zero (fr ex bias top : Nat) (hf : IsForm fr ex bias top) (s : Bool) (p : Int) : (fmt fr ex).write (.number s 0 p) = rSign fr ex s := by
  rw [write_num fr ex bias top hf]
  have h1 : ∀ d, rKept 0 d false = 0 := fun d => by unfold rKept; split <;> simp
  rw [h1]
  have h2 : ∀ t, rRung fr bias top t 0 = 0 := fun t => by
    unfold rRung
    rw [if_neg (by simp [bitlen]), if_pos (Nat.two_pow_pos fr)]
  rw [h2, Nat.add_zero]

/-- What is written is no NaN. -/
theorem rRung_le (fr bias top : Nat) (tt : Int) (m0 : Nat) (htop : 1 ≤ top) (hm : m0 ≤ 2 ^ (fr + 1)) : rRung fr bias top tt m0 ≤ top * 2 ^ fr := by
  have hP := Nat.two_pow_pos fr
  have h1 : 1 * 2 ^ fr ≤ top * 2 ^ fr := Nat.mul_le_mul_right _ htop
  unfold rRung
  by_cases hb : fr + 1 < bitlen m0
  · rw [if_pos hb]
    split
    · exact Nat.le_refl _
    · exact Nat.mul_le_mul_right _ (by omega)
  · rw [if_neg hb]
    have h2 := (bitlen_lt m0 (fr + 1)).1 (by omega)
    rw [Nat.pow_succ] at h2
    split
    · omega
    · split
      · exact Nat.le_refl _
      · have : ((tt + (bias : Int)).toNat + 1) * 2 ^ fr ≤ top * 2 ^ fr := Nat.mul_le_mul_right _ (by omega)
        rw [Nat.add_mul] at this; omega
theorem read_rung (fr ex bias top : Nat) (hf : IsForm fr ex bias top) (s : Bool) (r : Nat) (hr : r ≤ top * 2 ^ fr) :
    (rSign fr ex s + r) / 2 ^ (fr + ex) % 2 = s.toNat ∧ (rSign fr ex s + r) / 2 ^ fr % 2 ^ ex = r / 2 ^ fr ∧ (rSign fr ex s + r) % 2 ^ fr = r % 2 ^ fr := by
  have hP := Nat.two_pow_pos fr
  have hE := Nat.two_pow_pos ex
  have htop : top + 1 = 2 ^ ex := by rcases hf with ⟨rfl, rfl, rfl, rfl⟩ | ⟨rfl, rfl, rfl, rfl⟩ <;> decide
  have hlt : r < 2 ^ (fr + ex) := by
    have : top * 2 ^ fr < 2 ^ ex * 2 ^ fr := (Nat.mul_lt_mul_right hP).2 (by omega)
    rw [← Nat.pow_add, Nat.add_comm ex] at this; omega
  have hq : r / 2 ^ fr < 2 ^ ex := by rw [Nat.div_lt_iff_lt_mul hP, ← Nat.pow_add, Nat.add_comm ex]; exact hlt
  unfold rSign
  cases s
  · simp only [Bool.false_eq_true, if_false, Nat.zero_add]
    exact ⟨by rw [Nat.div_eq_of_lt hlt]; rfl, Nat.mod_eq_of_lt hq, trivial⟩
  · simp only [if_true]
    refine ⟨?_, ?_, ?_⟩
    · rw [Nat.add_div_left _ (Nat.two_pow_pos _), Nat.div_eq_of_lt hlt]; rfl
    · rw [Nat.pow_add, Nat.mul_comm (2 ^ fr), Nat.add_comm, Nat.add_mul_div_right _ _ hP, Nat.add_mod_right, Nat.mod_eq_of_lt hq]
    · rw [Nat.pow_add, Nat.add_comm, Nat.add_mul_mod_self_left]
theorem read_not_nan (fr ex bias top : Nat) (hf : IsForm fr ex bias top) (s : Bool) (r : Nat) (hr : r ≤ top * 2 ^ fr) : ((fmt fr ex).read (rSign fr ex s + r)).isNaN = false := by
  obtain ⟨h1, h2, h3⟩ := read_rung fr ex bias top hf s r hr
  have hP := Nat.two_pow_pos fr
  rw [read_parts fr ex bias top hf, h1, h2, h3]
  by_cases hx : r / 2 ^ fr = top
  · rw [if_pos hx]
    have : r % 2 ^ fr = 0 := by
      have := Nat.div_add_mod r (2 ^ fr)
      rw [hx, Nat.mul_comm] at this; omega
    rw [if_pos this]; rfl
  · rw [if_neg hx]
    split <;> rfl
theorem write_not_nan (fr ex bias top : Nat) (hf : IsForm fr ex bias top) (d : Ieee.Datum) (hd : d.isNaN = false) : ((fmt fr ex).read ((fmt fr ex).write d)).isNaN = false := by
  have htop : 1 ≤ top := (form_facts fr ex bias top hf).2.2
  cases d with
  | nan s t => cases hd
  | infinity s => rw [write_inf fr ex bias top hf]; exact read_not_nan fr ex bias top hf s _ (Nat.le_refl _)
  | number s m p =>
    rw [write_num fr ex bias top hf]
    refine read_not_nan fr ex bias top hf s _ (rRung_le _ _ _ _ _ htop ?_)
    by_cases hm : m = 0
    · rw [hm]; unfold rKept; split <;> simp
    · exact (rKept_bd hm false).1
end Go.Proofs.Ytdcpeeolfgohmaa

namespace Go.Proofs.Ytdcpeeolfgohmaa
open Go.RowKit
set_option linter.unusedSimpArgs false
set_option linter.unusedVariables false

theorem read_write_exact (fr ex bias top : Nat) (hf : IsForm fr ex bias top) (s : Bool) (m : Nat) (p : Int) (j : Nat) (hm : m ≠ 0) (hj : bitlen m + j = fr + 1) (h1 : 1 - (bias : Int) ≤ p - (j : Int)) (h2 : p - (j : Int) + (bias : Int) < (top : Int)) :
    (fmt fr ex).read ((fmt fr ex).write (.number s m p)) = .number s (m * 2 ^ j) (p - (j : Int)) := by
  have ht : rTo fr bias m p = p - (j : Int) := by unfold rTo; omega
  have hk : rKept m (p - (j : Int) - p) false = m * 2 ^ j := by
    unfold rKept
    rw [if_neg (by omega), show (-(p - (j : Int) - p)).toNat = j by omega]
  have hb := bitlen_scale hm j
  obtain ⟨k, ek⟩ : ∃ k, k = m * 2 ^ j := ⟨_, rfl⟩
  have hk0 : k ≠ 0 := by rw [ek]; exact Nat.mul_ne_zero hm (Nat.pos_iff_ne_zero.1 (Nat.two_pow_pos j))
  obtain ⟨b1, b2, _⟩ := bitlen_spec hk0
  rw [← ek] at hb hk ⊢
  rw [hb, hj] at b1 b2
  rw [show fr + 1 - 1 = fr by omega] at b1
  rw [Nat.pow_succ] at b2
  obtain ⟨xp, hxp⟩ := Int.eq_ofNat_of_zero_le (by omega : 0 ≤ p - (j : Int) + (bias : Int))
  have hP := Nat.two_pow_pos fr
  rw [write_num fr ex bias top hf, ht, hk]
  have hr : rRung fr bias top (p - (j : Int)) k = xp * 2 ^ fr + (k - 2 ^ fr) := by
    unfold rRung
    rw [if_neg (by omega), if_neg (by omega), if_neg (by omega), hxp, Int.toNat_natCast]
  rw [hr]
  have hle : xp * 2 ^ fr + (k - 2 ^ fr) ≤ top * 2 ^ fr := by
    have : (xp + 1) * 2 ^ fr ≤ top * 2 ^ fr := Nat.mul_le_mul_right _ (by omega)
    rw [Nat.add_mul] at this; omega
  obtain ⟨q1, q2, q3⟩ := read_rung fr ex bias top hf s _ hle
  have q4 : (xp * 2 ^ fr + (k - 2 ^ fr)) / 2 ^ fr = xp := by
    rw [Nat.add_comm, Nat.add_mul_div_right _ _ hP, Nat.div_eq_of_lt (by omega), Nat.zero_add]
  have q5 : (xp * 2 ^ fr + (k - 2 ^ fr)) % 2 ^ fr = k - 2 ^ fr := by
    rw [Nat.add_comm, Nat.add_mul_mod_self_right, Nat.mod_eq_of_lt (by omega)]
  rw [read_parts fr ex bias top hf, q1, q2, q3, q4, q5, if_neg (by omega), if_neg (by omega)]
  rw [show 2 ^ fr + (k - 2 ^ fr) = k by omega, show (xp : Int) - (bias : Int) = p - (j : Int) by omega]
  congr 1
  cases s <;> rfl
theorem read_zero (fr ex bias top : Nat) (hf : IsForm fr ex bias top) (s : Bool) (p : Int) : (fmt fr ex).read ((fmt fr ex).write (.number s 0 p)) = .number s 0 (1 - (bias : Int)) := by
  rw [write_zero fr ex bias top hf]
  obtain ⟨q1, q2, q3⟩ := read_rung fr ex bias top hf s 0 (Nat.zero_le _)
  rw [Nat.add_zero] at q1 q2 q3
  have htop : 1 ≤ top := (form_facts fr ex bias top hf).2.2
  rw [read_parts fr ex bias top hf, q1, q2, q3]
  rw [Nat.zero_div, if_neg (by omega), if_pos rfl, Nat.zero_mod]
  congr 1
  cases s <;> rfl
theorem read_inf (fr ex bias top : Nat) (hf : IsForm fr ex bias top) (s : Bool) : (fmt fr ex).read ((fmt fr ex).write (.infinity s)) = .infinity s := by
  rw [write_inf fr ex bias top hf]
  obtain ⟨q1, q2, q3⟩ := read_rung fr ex bias top hf s (top * 2 ^ fr) (Nat.le_refl _)
  have hP := Nat.two_pow_pos fr
  rw [read_parts fr ex bias top hf, q1, q2, q3, Nat.mul_div_cancel _ hP, if_pos rfl, Nat.mul_mod_left, if_pos rfl]
  congr 1
  cases s <;> rfl

/-- A word of 32 bits, read in 64. -/
theorem read32_bd (a : Nat) : ∀ s m p, rd32 a = .number s m p → m < 16777216 ∧ -149 ≤ p ∧ p ≤ 104 := fun s m p h => by
  have hm := Nat.mod_lt a (Nat.two_pow_pos 23)
  have hx := Nat.mod_lt (a / 2 ^ 23) (Nat.two_pow_pos 8)
  rw [rd32, read_parts 23 8 150 255 isF32] at h
  by_cases h1 : a / 2 ^ 23 % 2 ^ 8 = 255
  · rw [if_pos h1] at h; split at h <;> cases h
  · rw [if_neg h1] at h
    split at h
    · injection h with _ h2 h3; omega
    · injection h with _ h2 h3; omega
theorem wide_read (a : Nat) (hn : (rd32 a).isNaN = false) : (∃ s, rd32 a = .infinity s ∧ rd64 (wide64 a) = .infinity s) ∨ (∃ s p, rd32 a = .number s 0 p ∧ rd64 (wide64 a) = .number s 0 (-1074)) ∨
    ∃ (s : Bool) (m : Nat) (p : Int) (j : Nat), m ≠ 0 ∧ m < 16777216 ∧ -149 ≤ p ∧ p ≤ 104 ∧ j ≤ 53 ∧ rd32 a = .number s m p ∧ rd64 (wide64 a) = .number s (m * 2 ^ j) (p - (j : Int)) := by
  have hbd := read32_bd a
  unfold wide64 told64
  cases h : rd32 a with
  | nan s t => rw [h] at hn; cases hn
  | infinity s => exact .inl ⟨s, rfl, read_inf 52 11 1075 2047 isF64 s⟩
  | number s m p =>
    obtain ⟨b1, b2, b3⟩ := hbd s m p h
    by_cases hm : m = 0
    · subst hm; exact .inr (.inl ⟨s, p, rfl, read_zero 52 11 1075 2047 isF64 s p⟩)
    · have hb1 : bitlen m ≤ 24 := (bitlen_lt m 24).2 b1
      have hb2 := (bitlen_spec hm).2.2
      refine .inr (.inr ⟨s, m, p, 53 - bitlen m, hm, b1, b2, b3, by omega, rfl, ?_⟩)
      exact read_write_exact 52 11 1075 2047 isF64 s m p (53 - bitlen m) hm (by omega) (by omega) (by omega)
theorem first_eq (a : Nat) (ha : a < 4294967296) : first32 a = told32 (rd32 a) := by
  unfold first32
  cases h : (rd32 a).isNaN with
  | true =>
    rw [if_pos rfl]
    cases hd : rd32 a with
    | nan s t => rfl
    | infinity s => rw [hd] at h; cases h
    | number s m p => rw [hd] at h; cases h
  | false =>
    rw [if_neg (by decide)]
    have hw := write_read 23 8 150 255 isF32 a ha h
    cases hd : rd32 a with
    | nan s t => rw [hd] at h; cases h
    | infinity s => rw [show rd32 a = (fmt 23 8).read a from rfl] at hd; rw [hd] at hw; exact hw.symm
    | number s m p => rw [show rd32 a = (fmt 23 8).read a from rfl] at hd; rw [hd] at hw; exact hw.symm
theorem told_finer (a : Nat) (hn : (rd32 a).isNaN = false) : told32 (rd64 (wide64 a)) = told32 (rd32 a) := by
  rcases wide_read a hn with ⟨s, h1, h2⟩ | ⟨s, p, h1, h2⟩ | ⟨s, m, p, j, hm, _, _, _, _, h1, h2⟩
  · rw [h1, h2]
  · rw [h1, h2]
    exact (write_zero 23 8 150 255 isF32 s _).trans (write_zero 23 8 150 255 isF32 s _).symm
  · rw [h1, h2]
    exact write_scale 23 8 150 255 isF32 s m j p hm

/-- A float's bits, a NaN's made one. -/
def canon32 (r : Nat) : Nat := if (rd32 r).isNaN then 2143289344 else r
def canon64 (r : Nat) : Nat := if (rd64 r).isNaN then 9221120237041090560 else r
theorem sum_not_nan {a b d : Ieee.Datum} (h : a.sum b = some d) : d.isNaN = false := by
  cases a with
  | nan s t => cases h
  | infinity s =>
    cases b with
    | nan s t => cases h
    | infinity t =>
      unfold Ieee.Datum.sum at h
      dsimp only at h
      split at h
      · injection h with h; subst h; rfl
      · cases h
    | number t m p => injection h with h; subst h; rfl
  | number s m p =>
    cases b with
    | nan s t => cases h
    | infinity t => injection h with h; subst h; rfl
    | number t n q => injection h with h; subst h; rfl
theorem told_write (fr ex top : Nat) {d : Ieee.Datum} (h : d.isNaN = false) : toldW fr ex top d = (fmt fr ex).write d := by
  cases d with
  | nan s t => cases h
  | infinity s => rfl
  | number s m p => rfl
theorem fadd32_some {a b r : Nat} (h : FloatKind.f32.format.add a b = some r) : add32 a b = r ∧ (rd32 r).isNaN = false := by
  have h' : ((rd32 a).sum (rd32 b)).map (fmt 23 8).write = some r := h
  cases hs : (rd32 a).sum (rd32 b) with
  | none => rw [hs] at h'; cases h'
  | some d =>
    rw [hs] at h'
    injection h' with h'
    have hd := sum_not_nan hs
    unfold add32 plusD
    rw [hs, Option.getD_some]
    exact ⟨(told_write 23 8 255 hd).trans h', by rw [← h']; exact write_not_nan 23 8 150 255 isF32 d hd⟩
theorem fadd32_none {a b : Nat} (h : FloatKind.f32.format.add a b = none) : add32 a b = 2143289344 := by
  have h' : ((rd32 a).sum (rd32 b)).map (fmt 23 8).write = none := h
  cases hs : (rd32 a).sum (rd32 b) with
  | some d => rw [hs] at h'; cases h'
  | none => unfold add32 plusD; rw [hs]; rfl
theorem fsub32_some {a b r : Nat} (h : FloatKind.f32.format.sub a b = some r) : sub32 a b = r ∧ (rd32 r).isNaN = false := by
  have h' : ((rd32 a).sum (rd32 b).opposite).map (fmt 23 8).write = some r := h
  cases hs : (rd32 a).sum (rd32 b).opposite with
  | none => rw [hs] at h'; cases h'
  | some d =>
    rw [hs] at h'
    injection h' with h'
    have hd := sum_not_nan hs
    unfold sub32 plusD
    rw [hs, Option.getD_some]
    exact ⟨(told_write 23 8 255 hd).trans h', by rw [← h']; exact write_not_nan 23 8 150 255 isF32 d hd⟩
theorem fsub32_none {a b : Nat} (h : FloatKind.f32.format.sub a b = none) : sub32 a b = 2143289344 := by
  have h' : ((rd32 a).sum (rd32 b).opposite).map (fmt 23 8).write = none := h
  cases hs : (rd32 a).sum (rd32 b).opposite with
  | some d => rw [hs] at h'; cases h'
  | none => unfold sub32 plusD; rw [hs]; rfl
theorem fadd64_some {a b r : Nat} (h : FloatKind.f64.format.add a b = some r) : add64 a b = r ∧ (rd64 r).isNaN = false := by
  have h' : ((rd64 a).sum (rd64 b)).map (fmt 52 11).write = some r := h
  cases hs : (rd64 a).sum (rd64 b) with
  | none => rw [hs] at h'; cases h'
  | some d =>
    rw [hs] at h'
    injection h' with h'
    have hd := sum_not_nan hs
    unfold add64 plusD
    rw [hs, Option.getD_some]
    exact ⟨(told_write 52 11 2047 hd).trans h', by rw [← h']; exact write_not_nan 52 11 1075 2047 isF64 d hd⟩
theorem fadd64_none {a b : Nat} (h : FloatKind.f64.format.add a b = none) : add64 a b = 9221120237041090560 := by
  have h' : ((rd64 a).sum (rd64 b)).map (fmt 52 11).write = none := h
  cases hs : (rd64 a).sum (rd64 b) with
  | some d => rw [hs] at h'; cases h'
  | none => unfold add64 plusD; rw [hs]; rfl
theorem order_self (d : Ieee.Datum) : (d.order d != some .eq) = d.isNaN := by
  cases d with
  | nan s t => rfl
  | infinity s => cases s <;> rfl
  | number s m p =>
    show (some (compare (Ieee.signed s m (p - min p p).toNat) (Ieee.signed s m (p - min p p).toNat)) != some Ordering.eq) = false
    have : compare (Ieee.signed s m (p - min p p).toNat) (Ieee.signed s m (p - min p p).toNat) = Ordering.eq := by
      simp [compare, compareOfLessAndEq]
    rw [this]; rfl
end Go.Proofs.Ytdcpeeolfgohmaa
