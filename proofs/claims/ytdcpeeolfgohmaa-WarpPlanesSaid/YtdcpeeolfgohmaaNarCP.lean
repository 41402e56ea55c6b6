/- Plain: rounding does not pass what can be written: sums of products with weights that sum to 65536 never overflow the narrowing. Plain: products of one sample with weights that sum to 65536, summed: exact; the answer is the sample. -/
import Derived.Test.YtdcpeeolfgohmaaDot
namespace Go.Proofs.Ytdcpeeolfgohmaa
open Go.RowKit
set_option linter.unusedSimpArgs false
set_option linter.unusedVariables false

theorem kept_le {n X : Nat} {d : Int} (h1 : 0 < d → n ≤ X * 2 ^ d.toNat) (h2 : d ≤ 0 → n * 2 ^ (-d).toNat ≤ X) : rKept n d false ≤ X := by
  unfold rKept
  by_cases hd : 0 < d
  · rw [if_pos hd]
    have h := h1 hd
    obtain ⟨k, ek⟩ : ∃ k : Nat, d.toNat = k + 1 := ⟨d.toNat - 1, by omega⟩
    rw [ek] at h ⊢
    rw [show k + 1 - 1 = k by omega]
    have hP := Nat.two_pow_pos k
    have hP2 := Nat.two_pow_pos (k + 1)
    have hq : n / 2 ^ (k + 1) ≤ X := by
      rw [Nat.div_le_iff_le_mul_add_pred hP2]
      rw [Nat.mul_comm]
      omega
    rcases Nat.lt_or_ge (n / 2 ^ (k + 1)) X with hl | hl
    · split <;> omega
    · have he : n / 2 ^ (k + 1) = X := by omega
      have hn : n = X * 2 ^ (k + 1) := by
        have := Nat.div_mul_le_self n (2 ^ (k + 1))
        rw [he] at this
        omega
      rw [if_neg, he]
      · omega
      · rintro ⟨h3, -⟩
        rw [hn, Nat.pow_succ, ← Nat.mul_assoc, Nat.mul_comm (X * 2 ^ k), Nat.mul_comm X, ← Nat.mul_assoc, Nat.mul_comm 2 (2 ^ k), Nat.mul_assoc, Nat.mul_div_cancel_left _ hP] at h3
        omega
  · rw [if_neg hd]
    exact h2 (by omega)
/-- The place of the last digit, where the number is not above C units of 2^104; what is kept. -/
theorem kept_small (fr bias c : Nat) (hc : (bias : Int) - 1 ≤ c) {m C : Nat} {p : Int} (hm : m ≠ 0) (hp : -(c : Int) ≤ p) (hC : C < 2 ^ (fr + 1)) (hv : m * 2 ^ (p + c).toNat ≤ C * 2 ^ (104 + c)) :
    rTo fr bias m p ≤ 104 ∧ rKept m (rTo fr bias m p - p) false ≤ C * 2 ^ (104 - rTo fr bias m p).toNat := by
  obtain ⟨b1, b2, b3⟩ := bitlen_spec hm
  have hl : 1 - (bias : Int) ≤ rTo fr bias m p := by unfold rTo; omega
  have ht : rTo fr bias m p ≤ 104 := by
    rcases Int.lt_or_le 104 (rTo fr bias m p) with g | g
    · exfalso
      have hbl : rTo fr bias m p = (bitlen m : Int) + p - ((fr : Int) + 1) := by
        have : 1 - (bias : Int) ≤ 104 := by omega
        unfold rTo at g ⊢
        omega
      have h1 : 2 ^ (bitlen m - 1) * 2 ^ (p + c).toNat ≤ C * 2 ^ (104 + c) := Nat.le_trans (Nat.mul_le_mul_right _ b1) hv
      rw [← Nat.pow_add] at h1
      have h2 : C * 2 ^ (104 + c) < 2 ^ (fr + 1) * 2 ^ (104 + c) := (Nat.mul_lt_mul_right (Nat.two_pow_pos _)).2 hC
      rw [← Nat.pow_add] at h2
      have h3 : 2 ^ (fr + 1 + (104 + c)) ≤ 2 ^ (bitlen m - 1 + (p + c).toNat) := Nat.pow_le_pow_right (by decide) (by omega)
      omega
    · exact g
  refine ⟨ht, ?_⟩
  obtain ⟨t, et⟩ : ∃ t, t = rTo fr bias m p := ⟨_, rfl⟩
  rw [← et] at ht hl ⊢
  have hX : C * 2 ^ (104 - t).toNat * 2 ^ (t + c).toNat = C * 2 ^ (104 + c) := by
    rw [Nat.mul_assoc, ← Nat.pow_add]
    congr 2
    omega
  refine kept_le (fun hd => ?_) (fun hd => ?_)
  · have h1 : (t + c).toNat = (t - p).toNat + (p + c).toNat := by omega
    rw [h1, Nat.pow_add, ← Nat.mul_assoc] at hX
    rw [← hX] at hv
    exact Nat.le_of_mul_le_mul_right hv (Nat.two_pow_pos _)
  · have h1 : (p + c).toNat = (-(t - p)).toNat + (t + c).toNat := by omega
    rw [h1, Nat.pow_add, ← Nat.mul_assoc, ← hX] at hv
    exact Nat.le_of_mul_le_mul_right hv (Nat.two_pow_pos _)
section
variable (fr ex bias top : Nat) (hf : IsForm fr ex bias top) (c : Nat) (hc : (c : Int) = bias - 1)
include hf hc
/-- What a number is, written and read. -/
theorem rw_value {s : Bool} {m : Nat} {p : Int} (hm : m ≠ 0) {s' : Bool} {m' : Nat} {p' : Int} (h : (fmt fr ex).read ((fmt fr ex).write (.number s m p)) = .number s' m' p') :
    -(c : Int) ≤ p' ∧ m' * 2 ^ (p' + c).toNat = rKept m (rTo fr bias m p - p) false * 2 ^ (rTo fr bias m p + c).toNat := by
  obtain ⟨k1, k2⟩ := rKept_bd (fr := fr) (bias := bias) (e := p) hm false
  have hl : 1 - (bias : Int) ≤ rTo fr bias m p := by unfold rTo; omega
  have htop : 1 ≤ top := (form_facts fr ex bias top hf).2.2
  rw [write_num fr ex bias top hf, rRung_eq hl k1 k2 htop] at h
  obtain ⟨m0, em0⟩ : ∃ m0, m0 = rKept m (rTo fr bias m p - p) false := ⟨_, rfl⟩
  obtain ⟨t, et⟩ : ∃ t, t = rTo fr bias m p := ⟨_, rfl⟩
  rw [← em0] at h k1 k2 ⊢
  rw [← et] at h k2 hl ⊢
  obtain ⟨a, ea⟩ := Int.eq_ofNat_of_zero_le (show 0 ≤ t - (1 - (bias : Int)) by omega)
  have ea2 : (t - (1 - (bias : Int))).toNat = a := by omega
  have ea3 : (t + c).toNat = a := by omega
  rw [ea2] at h
  rw [ea3]
  have hP := Nat.two_pow_pos fr
  have hp2 : 2 ^ (fr + 1) = 2 * 2 ^ fr := by rw [Nat.pow_succ, Nat.mul_comm]
  obtain ⟨r, er⟩ : ∃ r, r = min (a * 2 ^ fr + m0) (top * 2 ^ fr) := ⟨_, rfl⟩
  rw [← er] at h
  have hrt : r ≤ top * 2 ^ fr := by omega
  obtain ⟨q1, q2, q3⟩ := read_rung fr ex bias top hf s r hrt
  rw [read_parts fr ex bias top hf, q1, q2, q3] at h
  have hlt : r < top * 2 ^ fr := by
    rcases Nat.lt_or_ge r (top * 2 ^ fr) with g | g
    · exact g
    · have : r = top * 2 ^ fr := by omega
      rw [this, Nat.mul_div_cancel _ hP, if_pos rfl, Nat.mul_mod_left, if_pos rfl] at h
      cases h
  have hr : r = a * 2 ^ fr + m0 := by omega
  have hne : ¬ (r / 2 ^ fr = top) := by
    have := (Nat.div_lt_iff_lt_mul hP).2 hlt
    omega
  rw [if_neg hne] at h
  by_cases h0 : m0 < 2 ^ fr
  · have ha0 : a = 0 := by
      rcases Nat.eq_zero_or_pos a with g | g
      · exact g
      · have := k2 (by omega); omega
    subst ha0
    rw [Nat.zero_mul, Nat.zero_add] at hr
    rw [hr, Nat.div_eq_of_lt h0, if_pos rfl, Nat.mod_eq_of_lt h0] at h
    injection h with h1 h2 h3
    subst h2 h3
    refine ⟨by omega, ?_⟩
    rw [show (1 - (bias : Int) + c).toNat = 0 by omega]
  · have hx : ∃ f, m0 = 2 ^ fr + f := ⟨m0 - 2 ^ fr, by omega⟩
    obtain ⟨f, ef⟩ := hx
    by_cases h1 : f < 2 ^ fr
    · have hr2 : r = f + (a + 1) * 2 ^ fr := by rw [hr, ef, Nat.add_mul]; omega
      rw [hr2, Nat.add_mul_div_right _ _ hP, Nat.div_eq_of_lt h1, Nat.zero_add, if_neg (by omega), Nat.add_mul_mod_self_right, Nat.mod_eq_of_lt h1] at h
      injection h with _ h2 h3
      subst h2 h3
      refine ⟨by omega, ?_⟩
      rw [show (((a + 1 : Nat) : Int) - bias + c).toNat = a by omega, ef]
    · have hfe : f = 2 ^ fr := by omega
      have hr2 : r = 0 + (a + 2) * 2 ^ fr := by rw [hr, ef, hfe, Nat.add_mul]; omega
      rw [hr2, Nat.add_mul_div_right _ _ hP, Nat.zero_div, Nat.zero_add, if_neg (by omega), Nat.add_mul_mod_self_right, Nat.zero_mod] at h
      injection h with _ h2 h3
      subst h2 h3
      refine ⟨by omega, ?_⟩
      rw [show (((a + 2 : Nat) : Int) - bias + c).toNat = a + 1 by omega, ef, hfe, Nat.pow_succ]
      rw [Nat.add_zero, ← Nat.two_mul, Nat.mul_comm (2 ^ a) 2, ← Nat.mul_assoc, Nat.mul_comm (2 ^ fr) 2]
/-- Written and read, a number is not above C units of 2^104, where it was not. -/
theorem rw_small (K : Nat) (hK : (bias : Int) - 1 ≤ K) {s : Bool} {m C : Nat} {p : Int} (hm : m ≠ 0) (hp : -(K : Int) ≤ p) (hC : C < 2 ^ (fr + 1)) (hv : m * 2 ^ (p + K).toNat ≤ C * 2 ^ (104 + K)) {s' : Bool} {m' : Nat} {p' : Int} (h : (fmt fr ex).read ((fmt fr ex).write (.number s m p)) = .number s' m' p') :
    -(c : Int) ≤ p' ∧ m' * 2 ^ (p' + c).toNat ≤ C * 2 ^ (104 + c) := by
  obtain ⟨h1, h2⟩ := rw_value fr ex bias top hf c hc hm h
  obtain ⟨t1, t2⟩ := kept_small fr bias K hK hm hp hC hv
  have hl : 1 - (bias : Int) ≤ rTo fr bias m p := by unfold rTo; omega
  refine ⟨h1, ?_⟩
  rw [h2]
  refine Nat.le_trans (Nat.mul_le_mul_right _ t2) (Nat.le_of_eq ?_)
  rw [Nat.mul_assoc, ← Nat.pow_add]
  congr 2
  omega
end

/-! ### binary64 words of small numbers -/
/-- A word that tells, if it tells a number, one that is not above C units of 2^104 (in units of 2^-c, c = 1074). -/
def SmW (c C b : Nat) : Prop := ∀ s m p, rd64 b = .number s m p → -(c : Int) ≤ p ∧ m * 2 ^ (p + c).toNat ≤ C * 2 ^ (104 + c)
theorem told_num64 (s : Bool) (m : Nat) (p : Int) : told64 (.number s m p) = (fmt 52 11).write (.number s m p) := rfl
theorem SmW.told (K : Nat) {c C : Nat} (hc : (c : Int) = 1074) (hK : c ≤ K) (hC : C < 2 ^ 53) {d : Ieee.Datum} (h : ∀ s m p, d = .number s m p → m ≠ 0 → -(K : Int) ≤ p ∧ m * 2 ^ (p + K).toNat ≤ C * 2 ^ (104 + K)) : SmW c C (told64 d) := fun s m p hr => by
  cases d with
  | nan t u =>
    have h2 : rd64 (told64 (.nan t u)) = .nan false (2 ^ 51) := (show rd64 (2047 * 2 ^ 52 + 2 ^ (52 - 1)) = .nan false (2 ^ 51) from by decide +kernel)
    rw [h2] at hr
    cases hr
  | infinity t =>
    have h2 : rd64 (told64 (.infinity t)) = .infinity t := read_inf 52 11 1075 2047 isF64 t
    rw [h2] at hr
    cases hr
  | number t n e =>
    by_cases hn : n = 0
    · subst hn
      rw [show rd64 (told64 (.number t 0 e)) = .number t 0 (1 - ((1075 : Nat) : Int)) from read_zero 52 11 1075 2047 isF64 t e] at hr
      injection hr with _ e2 e3
      subst e2 e3
      exact ⟨by omega, by rw [Nat.zero_mul]; exact Nat.zero_le _⟩
    · obtain ⟨h1, h2⟩ := h _ _ _ rfl hn
      exact rw_small 52 11 1075 2047 isF64 c (by omega) K (by omega) hn h1 hC h2 hr
theorem SmW.more {c C D b : Nat} (h : SmW c C b) (hD : C ≤ D) : SmW c D b := fun s m p hr => ⟨(h s m p hr).1, Nat.le_trans (h s m p hr).2 (Nat.mul_le_mul_right _ hD)⟩
/-- A sum. -/
theorem SmW.add {c C D a b : Nat} (hc : (c : Int) = 1074) (hCD : C + D < 2 ^ 53) (h : SmW c C a) (k : SmW c D b) : SmW c (C + D) (add64 a b) := by
  refine SmW.told c hc (Nat.le_refl _) hCD fun s m p hd hm0 => ?_
  unfold plusD at hd
  cases ha : rd64 a with
  | nan t u => rw [ha] at hd; cases hb : rd64 b <;> rw [hb] at hd <;> cases hd
  | infinity t =>
    rw [ha] at hd
    cases hb : rd64 b with
    | nan t u => rw [hb] at hd; cases hd
    | infinity u =>
      rw [hb] at hd
      simp only [Ieee.Datum.sum] at hd
      split at hd <;> cases hd
    | number u n e => rw [hb] at hd; cases hd
  | number t n e =>
    obtain ⟨h1, h2⟩ := h _ _ _ ha
    cases hb : rd64 b with
    | nan t u => rw [ha, hb] at hd; cases hd
    | infinity u => rw [ha, hb] at hd; cases hd
    | number u l f =>
      obtain ⟨k1, k2⟩ := k _ _ _ hb
      rw [ha, hb] at hd
      simp only [Ieee.Datum.sum, Option.getD_some] at hd
      injection hd with e1 e2 e3
      subst e2 e3
      refine ⟨by omega, ?_⟩
      obtain ⟨q, eq⟩ : ∃ q : Nat, (q : Int) = min e f + c := ⟨(min e f + c).toNat, by omega⟩
      have g1 : (e + c).toNat = (e - min e f).toNat + q := by omega
      have g2 : (f + c).toNat = (f - min e f).toNat + q := by omega
      have g3 : (min e f + c).toNat = q := by omega
      rw [g1, Nat.pow_add, ← Nat.mul_assoc] at h2
      rw [g2, Nat.pow_add, ← Nat.mul_assoc] at k2
      rw [g3]
      have sg : ∀ (s : Bool) (m k : Nat), (Ieee.signed s m k).natAbs = m * 2 ^ k := fun s m k => by
        unfold Ieee.signed
        cases s
        · rw [if_neg (by decide), Int.natAbs_natCast, Nat.shiftLeft_eq]
        · rw [if_pos rfl, Int.natAbs_neg, Int.natAbs_natCast, Nat.shiftLeft_eq]
      have tri : (Ieee.signed t n (e - min e f).toNat + Ieee.signed u l (f - min e f).toNat).natAbs ≤ n * 2 ^ (e - min e f).toNat + l * 2 ^ (f - min e f).toNat := by
        rw [← sg t n, ← sg u l]
        exact Int.natAbs_add_le _ _
      refine Nat.le_trans (Nat.mul_le_mul_right _ tri) ?_
      rw [Nat.add_mul, Nat.add_mul]
      omega

/-- A whole number from 1 to 2^17 as a binary64. -/
theorem flt64_read (n : Nat) (hn : n ≠ 0) (h : n < 131072) : ∃ j : Nat, j ≤ 52 ∧ rd64 (flt64 (n : Int)) = .number false (n * 2 ^ j) (-(j : Int)) := by
  have e0 : flt64 (n : Int) = told64 (.number (decide ((n : Int) < 0)) (n : Int).natAbs 0) := (told_write 52 11 2047 (d := .number (decide ((n : Int) < 0)) (n : Int).natAbs 0) rfl).symm
  have e : flt64 (n : Int) = (fmt 52 11).write (.number false n 0) := by
    rw [e0, decide_eq_false (by omega), Int.natAbs_natCast]
    rfl
  have hb : bitlen n ≤ 17 := (bitlen_lt n 17).2 h
  have hb2 := (bitlen_spec hn).2.2
  refine ⟨53 - bitlen n, by omega, ?_⟩
  rw [e]
  have := read_write_exact 52 11 1075 2047 isF64 false n 0 (53 - bitlen n) hn (by omega) (by omega) (by omega)
  rw [show (0 : Int) - ((53 - bitlen n : Nat) : Int) = -((53 - bitlen n : Nat) : Int) by omega] at this
  exact this
/-- A product with a weight. -/
theorem SmW.mul {c : Nat} (hc : (c : Int) = 1074) (n x : Nat) (hn : n ≠ 0) (h : n < 131072) : SmW c (n * 16777215) (mul64 (flt64 (n : Int)) (wide64 x)) := by
  obtain ⟨j, hj, hr⟩ := flt64_read n hn h
  refine SmW.told c hc (Nat.le_refl _) (by have := Nat.mul_le_mul_right 16777215 (show n ≤ 131071 by omega); omega) fun s m p hd hm0 => ?_
  unfold prodD at hd
  rw [hr] at hd
  by_cases hnan : (rd32 x).isNaN = true
  · rw [wide64_nan x hnan] at hd
    rw [show rd64 9221120237041090560 = .nan false (2 ^ 51) from by decide +kernel] at hd
    cases hd
  · rcases wide_read x (by simpa using hnan) with ⟨t, h1, h2⟩ | ⟨t, q, h1, h2⟩ | ⟨t, k, q, i, hk, hk2, hq1, hq2, hi, h1, h2⟩
    · rw [h2] at hd
      simp only [Ieee.Datum.product] at hd
      split at hd <;> cases hd
    · rw [h2] at hd
      simp only [Ieee.Datum.product, Option.getD_some] at hd
      injection hd with e1 e2 e3
      subst e2 e3
      exact absurd (Nat.mul_zero _) hm0
    · rw [h2] at hd
      simp only [Ieee.Datum.product, Option.getD_some] at hd
      injection hd with e1 e2 e3
      subst e2 e3
      refine ⟨by omega, ?_⟩
      have g1 : (q + c).toNat = j + i + (-(j : Int) + (q - (i : Int)) + c).toNat := by omega
      have g2 : (104 + c) = (104 - q).toNat + (q + c).toNat := by omega
      have g3 : n * 2 ^ j * (k * 2 ^ i) * 2 ^ (-(j : Int) + (q - (i : Int)) + c).toNat = n * k * 2 ^ (q + c).toNat := by
        rw [g1, Nat.pow_add, Nat.pow_add]
        generalize 2 ^ j = J
        generalize 2 ^ i = I
        generalize 2 ^ (-(j : Int) + (q - (i : Int)) + c).toNat = Z
        grind
      rw [g3, g2, Nat.pow_add, ← Nat.mul_assoc]
      refine Nat.mul_le_mul_right _ ?_
      have h3 := Nat.mul_le_mul_left n (show k ≤ 16777215 by omega)
      have h4 := Nat.two_pow_pos (104 - q).toNat
      exact Nat.le_trans h3 (Nat.le_mul_of_pos_right _ h4)

theorem k65536_read : rd64 k65536 = .number false 4503599627370496 (-36) := by decide +kernel
theorem read64_bd (a : Nat) : ∀ s m p, rd64 a = .number s m p → m < 9007199254740992 := fun s m p h => by
  have hm := Nat.mod_lt a (Nat.two_pow_pos 52)
  rw [rd64, read_parts 52 11 1075 2047 isF64] at h
  by_cases h1 : a / 2 ^ 52 % 2 ^ 11 = 2047
  · rw [if_pos h1] at h; split at h <;> cases h
  · rw [if_neg h1] at h
    split at h
    · injection h with _ h2 h3; omega
    · injection h with _ h2 h3; omega
/-- A quotient by 65536. -/
theorem SmW.div {c : Nat} (hc : (c : Int) = 1074) {C a : Nat} (hC : C ≤ 65536 * 16777215) (h : SmW c C a) : SmW c 16777215 (div64 a k65536) := by
  refine SmW.told (c + 200) hc (by omega) (by decide) fun s m p hd hm0 => ?_
  rw [k65536_read] at hd
  unfold quotD at hd
  cases ha : rd64 a with
  | nan t u => rw [ha] at hd; cases hd
  | infinity t => rw [ha] at hd; cases hd
  | number t n e =>
    obtain ⟨h1, h2⟩ := h _ _ _ ha
    have hbd := read64_bd a _ _ _ ha
    rw [ha] at hd
    simp only [Ieee.Datum.quotient] at hd
    rw [if_neg (by decide)] at hd
    simp only [Option.getD_some] at hd
    injection hd with e1 e2 e3
    have hl : (4503599627370496 : Nat).log2 = 52 := by decide +kernel
    rw [hl] at e2 e3
    have hlog : n.log2 ≤ 52 := by
      rcases Nat.eq_zero_or_pos n with h0 | h0
      · rw [h0]; decide
      · have : n.log2 < 53 := (Nat.log2_lt (by omega)).2 (by omega)
        omega
    obtain ⟨k, ek⟩ : ∃ k, 54 + 52 - n.log2 = 52 + k := ⟨54 - n.log2, by omega⟩
    have hk : k ≤ 54 := by omega
    rw [ek] at e2 e3
    have hP : 0 < 2 ^ 52 := by decide
    rw [Nat.shiftLeft_eq, Nat.pow_add, show (4503599627370496 : Nat) = 2 ^ 52 by decide, Nat.mul_comm (2 ^ 52) (2 ^ k), ← Nat.mul_assoc, Nat.mul_div_cancel _ hP, Nat.mul_mod_left] at e2
    simp only [bne_self_eq_false, Bool.toNat_false, Nat.add_zero] at e2
    subst e2
    have ep : p = e - 17 - (k : Int) := by omega
    subst ep
    refine ⟨by omega, ?_⟩
    have g1 : (e - 17 - (k : Int) + ((c + 200 : Nat) : Int)).toNat + k = (e + c).toNat + 183 := by omega
    obtain ⟨z, ez⟩ : ∃ z, z = (e - 17 - (k : Int) + ((c + 200 : Nat) : Int)).toNat := ⟨_, rfl⟩
    rw [← ez] at g1 ⊢
    have g2 : 2 * (n * 2 ^ k) * 2 ^ z = n * 2 ^ (e + c).toNat * 2 ^ 184 := by
      have : 2 ^ z * 2 ^ k = 2 ^ (e + c).toNat * 2 ^ 183 := by rw [← Nat.pow_add, g1, Nat.pow_add]
      have h184 : (2 : Nat) ^ 184 = 2 * 2 ^ 183 := by rw [show 184 = 183 + 1 from rfl, Nat.pow_succ, Nat.mul_comm]
      rw [h184]
      generalize 2 ^ 183 = Y at this ⊢
      generalize 2 ^ z = Z at this ⊢
      generalize 2 ^ k = KK at this ⊢
      generalize 2 ^ (e + c).toNat = EE at this ⊢
      have h3 : 2 * (n * KK) * Z = 2 * n * (Z * KK) := by grind
      rw [h3, this]
      grind
    rw [g2]
    have g3 : 16777215 * 2 ^ (104 + (c + 200)) = 65536 * 16777215 * 2 ^ (104 + c) * 2 ^ 184 := by
      rw [show 104 + (c + 200) = (104 + c) + (16 + 184) by omega, Nat.pow_add 2 (104 + c), Nat.pow_add 2 16]
      rw [show (2 : Nat) ^ 16 = 65536 by decide]
      generalize 2 ^ 184 = Y
      generalize 2 ^ (104 + c) = Z
      grind
    rw [g3]
    exact Nat.mul_le_mul_right _ (Nat.le_trans h2 (Nat.mul_le_mul_right _ hC))
/-- Then the narrowing does not overflow. -/
theorem SmW.narrow {c b : Nat} (hc : (c : Int) = 1074) (h : SmW c 16777215 b) : NarrowOk b := fun s m p hr => by
  obtain ⟨h1, h2⟩ := h s m p hr
  rw [hr]
  by_cases hm : m = 0
  · subst hm
    rw [show rd32 (told32 (.number s 0 p)) = .number s 0 (1 - ((150 : Nat) : Int)) from read_zero 23 8 150 255 isF32 s p]
    rfl
  · obtain ⟨t1, t2⟩ := kept_small 23 150 c (by omega) hm h1 (by decide) h2
    obtain ⟨k1, k2⟩ := rKept_bd (fr := 23) (bias := 150) (e := p) hm false
    have hl : 1 - ((150 : Nat) : Int) ≤ rTo 23 150 m p := by unfold rTo; omega
    have hw : told32 (.number s m p) = rSign 23 8 s + rRung 23 150 255 (rTo 23 150 m p) (rKept m (rTo 23 150 m p - p) false) := write_num 23 8 150 255 isF32 s m p
    rw [hw, rRung_eq hl k1 k2 (by decide)]
    obtain ⟨t, et⟩ : ∃ t, t = rTo 23 150 m p := ⟨_, rfl⟩
    obtain ⟨m0, em0⟩ : ∃ m0, m0 = rKept m (rTo 23 150 m p - p) false := ⟨_, rfl⟩
    rw [← em0] at t2 k1 ⊢
    rw [← et] at t1 t2 hl ⊢
    have hlt : (t - (1 - ((150 : Nat) : Int))).toNat * 2 ^ 23 + m0 < 255 * 2 ^ 23 := by
      rcases Int.lt_or_le t 104 with g | g
      · have : (t - (1 - ((150 : Nat) : Int))).toNat ≤ 252 := by omega
        have := Nat.mul_le_mul_right (2 ^ 23) this
        omega
      · have e : t = 104 := by omega
        subst e
        rw [show ((104 : Int) - 104).toNat = 0 from rfl] at t2
        omega
    rw [Nat.min_eq_left (by omega)]
    obtain ⟨r, er⟩ : ∃ r, r = (t - (1 - ((150 : Nat) : Int))).toNat * 2 ^ 23 + m0 := ⟨_, rfl⟩
    rw [← er] at hlt ⊢
    obtain ⟨q1, q2, q3⟩ := read_rung 23 8 150 255 isF32 s r (by omega)
    rw [rd32, read_parts 23 8 150 255 isF32, q1, q2, q3]
    have hne : ¬ (r / 2 ^ 23 = 255) := by
      have := (Nat.div_lt_iff_lt_mul (Nat.two_pow_pos 23)).2 hlt
      omega
    rw [if_neg hne]
    split <;> rfl
/-- Sums of products with weights. -/
theorem dots_small {c : Nat} (hc : (c : Int) = 1074) (y : Nat → Int) (x : Nat → Nat) (S : Nat → Nat) (hS : ∀ k, S (k + 1) = S k + (y k).toNat) : ∀ k, (∀ i, i ≤ k → 1 ≤ y i ∧ y i < 131072) → S (k + 1) ≤ 65536 → SmW c (S (k + 1) * 16777215) (dots y x k)
  | 0, h, hs => by
    have h0 := h 0 (Nat.le_refl _)
    obtain ⟨n, en⟩ : ∃ n : Nat, y 0 = n := ⟨(y 0).toNat, by omega⟩
    have hm := SmW.mul hc n (x 0) (by omega) (by omega)
    show SmW c _ (mul64 (flt64 (y 0)) (wide64 (x 0)))
    rw [en]
    refine hm.more (Nat.mul_le_mul_right _ ?_)
    rw [hS, en, Int.toNat_natCast]
    omega
  | k + 1, h, hs => by
    have h0 := h (k + 1) (Nat.le_refl _)
    obtain ⟨n, en⟩ : ∃ n : Nat, y (k + 1) = n := ⟨(y (k + 1)).toNat, by omega⟩
    have hm := SmW.mul hc n (x (k + 1)) (by omega) (by omega)
    have e : S (k + 1 + 1) = S (k + 1) + n := by rw [hS (k + 1), en, Int.toNat_natCast]
    rw [e] at hs ⊢
    have ih := dots_small hc y x S hS k (fun i hi => h i (by omega)) (by omega)
    show SmW c _ (add64 (dots y x k) (mul64 (flt64 (y (k + 1))) (wide64 (x (k + 1)))))
    rw [en, Nat.add_mul]
    refine SmW.add hc ?_ ih hm
    rw [← Nat.add_mul]
    have := Nat.mul_le_mul_right 16777215 hs
    omega
theorem narrow_dot (y : Nat → Int) (x : Nat → Nat) (S : Nat → Nat) (hS : ∀ k, S (k + 1) = S k + (y k).toNat) (n : Nat) (h : ∀ i, i < n → 1 ≤ y i ∧ y i < 131072) (hs : S n ≤ 65536) : NarrowOk (dotB y x n) := by
  obtain ⟨c, hc⟩ : ∃ c : Nat, (c : Int) = 1074 := ⟨1074, rfl⟩
  refine SmW.narrow hc (SmW.div hc (C := S n * 16777215) (Nat.mul_le_mul_right _ hs) ?_)
  cases n with
  | zero =>
    intro s m p hr
    rw [show rd64 (dotOf64 y x 0) = .number false 0 (-1074) from by rw [show dotOf64 y x 0 = 0 from rfl]; decide +kernel] at hr
    injection hr with _ e2 e3
    subst e2 e3
    exact ⟨by omega, by rw [Nat.zero_mul]; exact Nat.zero_le _⟩
  | succ k => exact dots_small hc y x S hS k (fun i hi => h i (by omega)) hs
end Go.Proofs.Ytdcpeeolfgohmaa

namespace Go.Proofs.Ytdcpeeolfgohmaa
open Go.RowKit
set_option linter.unusedSimpArgs false
set_option linter.unusedVariables false

theorem w64_read (s : Bool) {m : Nat} {p : Int} (hm : m ≠ 0) (h : m < 9007199254740992) (hp : -149 ≤ p ∧ p ≤ 200) : ∃ j : Nat, j ≤ 53 ∧ rd64 (told64 (.number s m p)) = .number s (m * 2 ^ j) (p - (j : Int)) := by
  have hb : bitlen m ≤ 53 := (bitlen_lt m 53).2 h
  exact ⟨53 - bitlen m, by omega, read_write_exact 52 11 1075 2047 isF64 s m p (53 - bitlen m) hm (by omega) (by omega) (by omega)⟩
theorem w64_scale (s : Bool) {m j : Nat} {p : Int} (hm : m ≠ 0) : told64 (.number s (m * 2 ^ j) (p - (j : Int))) = told64 (.number s m p) := write_scale 52 11 1075 2047 isF64 s m j p hm
theorem sgn_at (s : Bool) (m a k : Nat) : Ieee.signed s (m * 2 ^ a) k = if s then -((m * 2 ^ (a + k) : Nat) : Int) else ((m * 2 ^ (a + k) : Nat) : Int) := by
  unfold Ieee.signed
  rw [Nat.shiftLeft_eq, Nat.mul_assoc, ← Nat.pow_add]
/-- One more of the same. -/
theorem w64_add (s : Bool) {A B : Nat} {p : Int} (hA : A ≠ 0) (hB : B ≠ 0) (h : A + B < 9007199254740992) (hp : -149 ≤ p ∧ p ≤ 200) : add64 (told64 (.number s A p)) (told64 (.number s B p)) = told64 (.number s (A + B) p) := by
  obtain ⟨a, ha, ra⟩ := w64_read s hA (by omega) hp
  obtain ⟨b, hb, rb⟩ := w64_read s hB (by omega) hp
  show told64 (plusD (rd64 (told64 (.number s A p))) (rd64 (told64 (.number s B p)))) = _
  rw [ra, rb]
  unfold plusD
  simp only [Ieee.Datum.sum, Option.getD_some]
  obtain ⟨c, ec⟩ : ∃ c, c = max a b := ⟨_, rfl⟩
  have e0 : min (p - (a : Int)) (p - (b : Int)) = p - (c : Int) := by omega
  rw [e0, sgn_at, sgn_at, show a + (p - (a : Int) - (p - (c : Int))).toNat = c by omega, show b + (p - (b : Int) - (p - (c : Int))).toNat = c by omega]
  have hP := Nat.two_pow_pos c
  have h1 : 0 < A * 2 ^ c := Nat.mul_pos (by omega) hP
  have h2 : 0 < B * 2 ^ c := Nat.mul_pos (by omega) hP
  rw [← w64_scale s (j := c) (show A + B ≠ 0 by omega), Nat.add_mul]
  generalize A * 2 ^ c = X at *
  generalize B * 2 ^ c = Y at *
  cases s
  · simp only [Bool.false_eq_true, if_false]
    rw [if_neg (by omega), show ((X : Int) + (Y : Int)).natAbs = X + Y by omega, decide_eq_false (by omega)]
  · simp only [if_true]
    rw [if_neg (by omega), show (-(X : Int) + -(Y : Int)).natAbs = X + Y by omega, decide_eq_true (by omega)]
/-- A product with a weight. -/
theorem w64_mul (s : Bool) {n m : Nat} {p : Int} (hn : n ≠ 0) (hn2 : n < 131072) (hm : m ≠ 0) (h : m < 9007199254740992) (hp : -149 ≤ p ∧ p ≤ 200) : mul64 (flt64 (n : Int)) (told64 (.number s m p)) = told64 (.number s (n * m) p) := by
  obtain ⟨a, ha, ra⟩ := flt64_read n hn hn2
  obtain ⟨b, hb, rb⟩ := w64_read s hm h hp
  show told64 (prodD (rd64 (flt64 (n : Int))) (rd64 (told64 (.number s m p)))) = _
  rw [ra, rb]
  unfold prodD
  simp only [Ieee.Datum.product, Option.getD_some, Bool.false_bne]
  rw [← w64_scale s (j := a + b) (Nat.mul_ne_zero hn hm)]
  rw [show -(a : Int) + (p - (b : Int)) = p - ((a + b : Nat) : Int) by omega, show n * 2 ^ a * (m * 2 ^ b) = n * m * 2 ^ (a + b) by rw [Nat.pow_add]; grind]
/-- Divided by 65536. -/
theorem w64_div (s : Bool) {m : Nat} {p : Int} (hm : m ≠ 0) (h : m < 16777216) (hp : -149 ≤ p ∧ p ≤ 104) : div64 (told64 (.number s (65536 * m) p)) k65536 = told64 (.number s m p) := by
  obtain ⟨b, hb, rb⟩ := w64_read s (m := 65536 * m) (p := p) (by omega) (by omega) ⟨hp.1, by omega⟩
  show told64 (quotD (rd64 (told64 (.number s (65536 * m) p))) (rd64 k65536)) = _
  have hl : (4503599627370496 : Nat).log2 = 52 := by decide +kernel
  have hbd := read64_bd _ _ _ _ rb
  rw [rb, k65536_read]
  unfold quotD
  simp only [Ieee.Datum.quotient]
  rw [if_neg (by decide), hl]
  simp only [Option.getD_some, Bool.bne_false]
  obtain ⟨n, en⟩ : ∃ n, n = 65536 * m * 2 ^ b := ⟨_, rfl⟩
  rw [← en] at hbd ⊢
  have hlog : n.log2 ≤ 52 := by
    rcases Nat.eq_zero_or_pos n with h0 | h0
    · rw [h0]; decide
    · have : n.log2 < 53 := (Nat.log2_lt (by omega)).2 (by omega)
      omega
  obtain ⟨k, ek⟩ : ∃ k, 54 + 52 - n.log2 = 52 + k := ⟨54 - n.log2, by omega⟩
  rw [ek]
  have hP : 0 < 2 ^ 52 := by decide
  rw [Nat.shiftLeft_eq, Nat.pow_add, show (4503599627370496 : Nat) = 2 ^ 52 by decide, Nat.mul_comm (2 ^ 52) (2 ^ k), ← Nat.mul_assoc, Nat.mul_div_cancel _ hP, Nat.mul_mod_left]
  simp only [bne_self_eq_false, Bool.toNat_false, Nat.add_zero]
  rw [← w64_scale s (j := b + k + 17) hm]
  rw [show p - (b : Int) - -36 - ((52 + k : Nat) : Int) - 1 = p - ((b + k + 17 : Nat) : Int) by omega, en]
  rw [show 2 * (65536 * m * 2 ^ b * 2 ^ k) = m * 2 ^ (b + k + 17) by rw [Nat.pow_add, Nat.pow_add]; have : (2 : Nat) ^ 17 = 131072 := by decide
                                                                     rw [this]; grind]
/-- Noughts. -/
theorem z64_read (s : Bool) (p : Int) : rd64 (told64 (.number s 0 p)) = .number s 0 (-1074) := read_zero 52 11 1075 2047 isF64 s p
theorem z64_same (s : Bool) (p q : Int) : told64 (.number s 0 p) = told64 (.number s 0 q) := (write_zero 52 11 1075 2047 isF64 s p).trans (write_zero 52 11 1075 2047 isF64 s q).symm
theorem z64_add (s : Bool) (p q : Int) : add64 (told64 (.number s 0 p)) (told64 (.number s 0 q)) = told64 (.number s 0 0) := by
  show told64 (plusD (rd64 (told64 (.number s 0 p))) (rd64 (told64 (.number s 0 q)))) = _
  rw [z64_read, z64_read]
  cases s <;> exact z64_same _ _ _
theorem z64_mul (s : Bool) {n : Nat} (hn : n ≠ 0) (hn2 : n < 131072) (p : Int) : mul64 (flt64 (n : Int)) (told64 (.number s 0 p)) = told64 (.number s 0 0) := by
  obtain ⟨a, ha, ra⟩ := flt64_read n hn hn2
  show told64 (prodD (rd64 (flt64 (n : Int))) (rd64 (told64 (.number s 0 p)))) = _
  rw [ra, z64_read]
  unfold prodD
  simp only [Ieee.Datum.product, Option.getD_some, Bool.false_bne, Nat.mul_zero]
  exact z64_same _ _ _
theorem z64_div (s : Bool) (p : Int) : div64 (told64 (.number s 0 p)) k65536 = told64 (.number s 0 0) := by
  show told64 (quotD (rd64 (told64 (.number s 0 p))) (rd64 k65536)) = _
  rw [z64_read, k65536_read]
  unfold quotD
  simp only [Ieee.Datum.quotient]
  rw [if_neg (by decide)]
  simp only [Option.getD_some, Bool.bne_false, Nat.zero_shiftLeft, Nat.zero_div, Nat.zero_mod, bne_self_eq_false, Bool.toNat_false, Nat.add_zero, Nat.mul_zero]
  exact z64_same _ _ _
/-- Sums of products of one finite sample. -/
theorem dots_const (y : Nat → Int) (x : Nat → Nat) (a : Nat) (s : Bool) (m : Nat) (p : Int) (ha : rd32 a = .number s m p) (S : Nat → Nat) (h0 : S 0 = 0) (hS : ∀ k, S (k + 1) = S k + (y k).toNat) : ∀ k, (∀ i, i ≤ k → x i = a) → (∀ i, i ≤ k → 1 ≤ y i ∧ y i < 131072) → S (k + 1) ≤ 65536 → (m = 0 → dots y x k = told64 (.number s 0 0)) ∧ (m ≠ 0 → dots y x k = told64 (.number s (S (k + 1) * m) p))
  | 0, hx, h, hs => by
    have hb := read32_bd a _ _ _ ha
    have hy := h 0 (Nat.le_refl _)
    obtain ⟨n, en⟩ : ∃ n : Nat, y 0 = n := ⟨(y 0).toNat, by omega⟩
    have e1 : S 1 = n := by rw [hS, h0, en, Int.toNat_natCast, Nat.zero_add]
    have e2 : dots y x 0 = mul64 (flt64 (n : Int)) (told64 (.number s m p)) := by
      show mul64 (flt64 (y 0)) (wide64 (x 0)) = _
      rw [en, hx 0 (Nat.le_refl _)]
      unfold wide64
      rw [ha]
    rw [e2]
    refine ⟨fun hm => ?_, fun hm => ?_⟩
    · rw [hm]; exact z64_mul s (by omega) (by omega) p
    · rw [show S (0 + 1) = n from e1]
      exact w64_mul s (by omega) (by omega) hm (by omega) ⟨hb.2.1, by omega⟩
  | k + 1, hx, h, hs => by
    have hb := read32_bd a _ _ _ ha
    have hy := h (k + 1) (Nat.le_refl _)
    obtain ⟨n, en⟩ : ∃ n : Nat, y (k + 1) = n := ⟨(y (k + 1)).toNat, by omega⟩
    have e1 : S (k + 1 + 1) = S (k + 1) + n := by rw [hS (k + 1), en, Int.toNat_natCast]
    rw [e1] at hs
    have hpos : 1 ≤ S (k + 1) := by rw [hS]; have := h k (by omega); omega
    obtain ⟨i0, i1⟩ := dots_const y x a s m p ha S h0 hS k (fun i hi => hx i (by omega)) (fun i hi => h i (by omega)) (by omega)
    have e2 : dots y x (k + 1) = add64 (dots y x k) (mul64 (flt64 (n : Int)) (told64 (.number s m p))) := by
      show add64 (dots y x k) (mul64 (flt64 (y (k + 1))) (wide64 (x (k + 1)))) = _
      rw [en, hx (k + 1) (Nat.le_refl _)]
      unfold wide64
      rw [ha]
    rw [e2]
    refine ⟨fun hm => ?_, fun hm => ?_⟩
    · rw [i0 hm, hm, z64_mul s (by omega) (by omega) p]
      exact z64_add s 0 0
    · rw [i1 hm, w64_mul s (by omega) (by omega) hm (by omega) ⟨hb.2.1, by omega⟩, e1, Nat.add_mul]
      have g1 := Nat.mul_le_mul_right m hs
      rw [Nat.add_mul] at g1
      exact w64_add s (Nat.mul_ne_zero (by omega) hm) (Nat.mul_ne_zero (by omega) hm) (by omega) ⟨hb.2.1, by omega⟩
/-- One finite sample, its weights: the answer is the sample. -/
theorem dotOf_const (y : Nat → Int) (x : Nat → Nat) (a : Nat) (ha : a < 4294967296) (hf : (∃ s m p, rd32 a = .number s m p)) (S : Nat → Nat) (h0 : S 0 = 0) (hS : ∀ k, S (k + 1) = S k + (y k).toNat) (n : Nat) (hx : ∀ i, i < n → x i = a) (h : ∀ i, i < n → 1 ≤ y i ∧ y i < 131072) (hs : S n = 65536) : dotOf y x n = a := by
  obtain ⟨s, m, p, e⟩ := hf
  have hb := read32_bd a _ _ _ e
  have hw : dotB y x n = wide64 a := by
    cases n with
    | zero => omega
    | succ k =>
      obtain ⟨i0, i1⟩ := dots_const y x a s m p e S h0 hS k (fun i hi => hx i (by omega)) (fun i hi => h i (by omega)) (by omega)
      show div64 (dots y x k) k65536 = told64 (rd32 a)
      rw [e]
      by_cases hm : m = 0
      · rw [i0 hm, hm, z64_div]
        exact z64_same _ _ _
      · rw [i1 hm, hs]
        exact w64_div s hm hb.1 hb.2
  unfold dotOf
  rw [hw, first_narrow a ha]
  unfold first32
  rw [e]
  rfl
/-- One sample of the weight 65536, whatever it is. -/
theorem dotOf_one (y : Nat → Int) (x : Nat → Nat) (hy : y 0 = 65536) (ha : x 0 < 4294967296) : NarrowOk (dotB y x 1) ∧ dotOf y x 1 = first32 (x 0) := by
  have hw : dotB y x 1 = wide64 (x 0) := by
    show div64 (mul64 (flt64 (y 0)) (wide64 (x 0))) k65536 = _
    rw [hy]
    cases e : rd32 (x 0) with
    | nan s t => 
      rw [wide64_nan (x 0) (by rw [e]; rfl)]
      decide +kernel
    | infinity s =>
      unfold wide64
      rw [e]
      cases s <;> decide +kernel
    | number s m p =>
      have hb := read32_bd _ _ _ _ e
      unfold wide64
      rw [e]
      by_cases hm : m = 0
      · rw [hm, show (65536 : Int) = ((65536 : Nat) : Int) from rfl, z64_mul s (by omega) (by omega), z64_div]
        exact z64_same _ _ _
      · rw [show (65536 : Int) = ((65536 : Nat) : Int) from rfl, w64_mul s (by omega) (by omega) hm (by omega) ⟨hb.2.1, by omega⟩]
        exact w64_div s hm hb.1 hb.2
  unfold dotOf
  rw [hw]
  exact ⟨narrow_wide _ ha, first_narrow _ ha⟩
end Go.Proofs.Ytdcpeeolfgohmaa
