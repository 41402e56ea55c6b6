/- Plain: rounding rises: a number that is not above another one is written as a word that is not above the other's. Plain: sums of products with weights rise with their samples, and lie between the least and the greatest. Plain law of WarpKeeps: machine floats in order; the least and the greatest of spots; what is told of them lies between. -/
import Derived.Test.YtdcpeeolfgohmaaFlPQ
import Derived.Test.YtdcpeeolfgohmaaNarCP
import Derived.Test.YtdcpeeolfgohmaaNarQ
namespace Go.Proofs.Ytdcpeeolfgohmaa
open Go.RowKit
set_option linter.unusedSimpArgs false
set_option linter.unusedVariables false

/-- Half to even rises. -/
theorem kept_mono {N M : Nat} (d : Nat) (h : N ≤ M) : rKept N (d : Int) false ≤ rKept M (d : Int) false := by
  unfold rKept
  by_cases hd : 0 < (d : Int)
  · rw [if_pos hd, if_pos hd, Int.toNat_natCast]
    obtain ⟨k, rfl⟩ : ∃ k, d = k + 1 := ⟨d - 1, by omega⟩
    rw [show k + 1 - 1 = k by omega]
    have hP := Nat.two_pow_pos k
    have hP2 := Nat.two_pow_pos (k + 1)
    have hq : N / 2 ^ (k + 1) ≤ M / 2 ^ (k + 1) := Nat.div_le_div_right h
    rcases Nat.lt_or_ge (N / 2 ^ (k + 1)) (M / 2 ^ (k + 1)) with hl | hl
    · split <;> split <;> omega
    · have he : N / 2 ^ (k + 1) = M / 2 ^ (k + 1) := by omega
      have e1 : N / 2 ^ (k + 1) = N / 2 ^ k / 2 := by rw [Nat.pow_succ, Nat.div_div_eq_div_mul]
      have e2 : M / 2 ^ (k + 1) = M / 2 ^ k / 2 := by rw [Nat.pow_succ, Nat.div_div_eq_div_mul]
      have hb : N / 2 ^ k ≤ M / 2 ^ k := Nat.div_le_div_right h
      have m1 := Nat.div_add_mod N (2 ^ k)
      have m2 := Nat.div_add_mod M (2 ^ k)
      rw [he]
      by_cases c1 : N / 2 ^ k % 2 = 1 ∧ (false = true ∨ N % 2 ^ k ≠ 0 ∨ N / 2 ^ (k + 1) % 2 = 1)
      · have hb2 : M / 2 ^ k = N / 2 ^ k := by omega
        have hmm : N % 2 ^ k ≤ M % 2 ^ k := by rw [hb2] at m2; omega
        rw [he] at c1
        rw [if_pos c1, if_pos]
        · omega
        · obtain ⟨u1, u2⟩ := c1
          refine ⟨by omega, ?_⟩
          rcases u2 with u | u | u
          · exact .inl u
          · exact .inr (.inl (by omega))
          · exact .inr (.inr u)
      · rw [he] at c1
        rw [if_neg c1]
        omega
  · rw [if_neg hd, if_neg hd]
    exact Nat.mul_le_mul_right _ h
/-- Values in units of 2^-c; the place of the last digit kept. -/
theorem rTo_mono {fr bias n m : Nat} {e f : Int} {c : Nat} (he : -(c : Int) ≤ e) (hf : -(c : Int) ≤ f) (hn : n ≠ 0) (h : n * 2 ^ (e + c).toNat ≤ m * 2 ^ (f + c).toNat) : rTo fr bias n e ≤ rTo fr bias m f := by
  have hP := Nat.two_pow_pos (e + c).toNat
  have hm : m ≠ 0 := by
    rintro rfl
    have := Nat.mul_pos (show 0 < n by omega) hP
    omega
  have b1 := bitlen_scale hn (e + c).toNat
  have b2 := bitlen_scale hm (f + c).toNat
  have hb : bitlen (n * 2 ^ (e + c).toNat) ≤ bitlen (m * 2 ^ (f + c).toNat) := by
    rw [bitlen_lt]
    exact Nat.lt_of_le_of_lt h (bitlen_spec (Nat.mul_ne_zero hm (Nat.ne_of_gt (Nat.two_pow_pos _)))).2.1
  unfold rTo
  omega
theorem keep_scaled {n c : Nat} {e t : Int} (he : -(c : Int) ≤ e) : rKept n (t - e) false = rKept (n * 2 ^ (e + c).toNat) (t + c) false := by
  rw [← rKept_scale n (e + c).toNat (t - e) false rfl]
  congr 1
  omega
/-- The rung rises. -/
theorem rung_mono {fr bias top n m : Nat} {e f : Int} {c : Nat} (htop : 1 ≤ top) (hc : (bias : Int) - 1 ≤ c) (he : -(c : Int) ≤ e) (hf : -(c : Int) ≤ f) (hn : n ≠ 0) (h : n * 2 ^ (e + c).toNat ≤ m * 2 ^ (f + c).toNat) :
    rRung fr bias top (rTo fr bias n e) (rKept n (rTo fr bias n e - e) false) ≤ rRung fr bias top (rTo fr bias m f) (rKept m (rTo fr bias m f - f) false) := by
  have hm : m ≠ 0 := by
    rintro rfl
    have := Nat.mul_pos (show 0 < n by omega) (Nat.two_pow_pos (e + c).toNat)
    omega
  obtain ⟨k1, k2⟩ := rKept_bd (fr := fr) (bias := bias) (e := e) hn false
  obtain ⟨l1, l2⟩ := rKept_bd (fr := fr) (bias := bias) (e := f) hm false
  have hl1 : 1 - (bias : Int) ≤ rTo fr bias n e := by unfold rTo; omega
  have hl2 : 1 - (bias : Int) ≤ rTo fr bias m f := by unfold rTo; omega
  have ht := rTo_mono (fr := fr) (bias := bias) he hf hn h
  rw [rRung_eq hl1 k1 k2 htop, rRung_eq hl2 l1 l2 htop]
  have key : (rTo fr bias n e - (1 - (bias : Int))).toNat * 2 ^ fr + rKept n (rTo fr bias n e - e) false ≤ (rTo fr bias m f - (1 - (bias : Int))).toNat * 2 ^ fr + rKept m (rTo fr bias m f - f) false := by
    rcases Int.lt_or_le (rTo fr bias n e) (rTo fr bias m f) with hlt | hge
    · have h2 := l2 (by omega)
      have h3 : ((rTo fr bias n e - (1 - (bias : Int))).toNat + 1) * 2 ^ fr ≤ (rTo fr bias m f - (1 - (bias : Int))).toNat * 2 ^ fr := Nat.mul_le_mul_right _ (by omega)
      rw [Nat.add_mul] at h3
      rw [Nat.pow_succ] at k1
      omega
    · have heq : rTo fr bias n e = rTo fr bias m f := by omega
      rw [heq] at hl1 ⊢
      refine Nat.add_le_add_left ?_ _
      rw [keep_scaled he, keep_scaled hf]
      obtain ⟨d, ed⟩ := Int.eq_ofNat_of_zero_le (show 0 ≤ rTo fr bias m f + c by omega)
      rw [ed]
      exact kept_mono d h
  omega
/-- A word's place in order: its size, its sign. -/
def keyW (fr ex b : Nat) : Int := if 2 ^ (fr + ex) ≤ b then -((b - 2 ^ (fr + ex) : Nat) : Int) else (b : Int)
theorem keyW_sign (fr ex bias top : Nat) (hf : IsForm fr ex bias top) (s : Bool) (r : Nat) (hr : r ≤ top * 2 ^ fr) : keyW fr ex (rSign fr ex s + r) = if s then -(r : Int) else (r : Int) := by
  have hP := Nat.two_pow_pos fr
  have htop : top + 1 = 2 ^ ex := by rcases hf with ⟨rfl, rfl, rfl, rfl⟩ | ⟨rfl, rfl, rfl, rfl⟩ <;> decide
  have hlt : r < 2 ^ (fr + ex) := by
    have : top * 2 ^ fr < 2 ^ ex * 2 ^ fr := (Nat.mul_lt_mul_right hP).2 (by omega)
    rw [← Nat.pow_add, Nat.add_comm ex] at this; omega
  unfold keyW rSign
  cases s
  · simp only [Bool.false_eq_true, if_false, Nat.zero_add]
    rw [if_neg (by omega)]
  · simp only [if_true]
    rw [if_pos (by omega), Nat.add_sub_cancel_left]
/-- A number's value in units of 2^-c. -/
def valK (c : Nat) (s : Bool) (m : Nat) (e : Int) : Int := if s then -((m * 2 ^ (e + c).toNat : Nat) : Int) else ((m * 2 ^ (e + c).toNat : Nat) : Int)
theorem keep_of_zero (d : Int) : rKept 0 d false = 0 := by unfold rKept; split <;> simp
section
variable (fr ex bias top : Nat) (hf : IsForm fr ex bias top) (c : Nat) (hc : (bias : Int) - 1 ≤ c)
include hf
theorem write_rung (s : Bool) (m : Nat) (e : Int) : ∃ r, r ≤ top * 2 ^ fr ∧ (fmt fr ex).write (.number s m e) = rSign fr ex s + r ∧ (m = 0 → r = 0) ∧ r = rRung fr bias top (rTo fr bias m e) (rKept m (rTo fr bias m e - e) false) := by
  have htop : 1 ≤ top := (form_facts fr ex bias top hf).2.2
  refine ⟨_, ?_, write_num fr ex bias top hf s m e, fun h0 => ?_, rfl⟩
  · refine rRung_le _ _ _ _ _ htop ?_
    by_cases hm : m = 0
    · rw [hm, keep_of_zero]; exact Nat.zero_le _
    · exact (rKept_bd hm false).1
  · rw [h0, keep_of_zero]
    unfold rRung
    rw [if_neg (by simp [bitlen]), if_pos (Nat.two_pow_pos fr)]
include hc
/-- What is written rises. -/
theorem key_mono {s t : Bool} {m n : Nat} {e f : Int} (he : -(c : Int) ≤ e) (hf' : -(c : Int) ≤ f) (h : valK c s m e ≤ valK c t n f) :
    keyW fr ex ((fmt fr ex).write (.number s m e)) ≤ keyW fr ex ((fmt fr ex).write (.number t n f)) := by
  have htop : 1 ≤ top := (form_facts fr ex bias top hf).2.2
  obtain ⟨r, hr, er, r0, rr⟩ := write_rung fr ex bias top hf s m e
  obtain ⟨q, hq, eq, q0, qq⟩ := write_rung fr ex bias top hf t n f
  rw [er, eq, keyW_sign fr ex bias top hf s r hr, keyW_sign fr ex bias top hf t q hq]
  unfold valK at h
  have hP1 := Nat.two_pow_pos (e + c).toNat
  have hP2 := Nat.two_pow_pos (f + c).toNat
  have zm : m * 2 ^ (e + c).toNat = 0 → r = 0 := fun h0 => r0 (by rcases Nat.mul_eq_zero.1 h0 with h1 | h1 <;> omega)
  have zn : n * 2 ^ (f + c).toNat = 0 → q = 0 := fun h0 => q0 (by rcases Nat.mul_eq_zero.1 h0 with h1 | h1 <;> omega)
  have up : m ≠ 0 → m * 2 ^ (e + c).toNat ≤ n * 2 ^ (f + c).toNat → r ≤ q := fun h0 h1 => by rw [rr, qq]; exact rung_mono htop hc he hf' h0 h1
  have dn : n ≠ 0 → n * 2 ^ (f + c).toNat ≤ m * 2 ^ (e + c).toNat → q ≤ r := fun h0 h1 => by rw [rr, qq]; exact rung_mono htop hc hf' he h0 h1
  cases s <;> cases t <;> simp only [Bool.false_eq_true, if_false, if_true] at h ⊢
  · by_cases h0 : m = 0
    · rw [r0 h0]; omega
    · have := up h0 (by omega); omega
  · have h1 := zm (by omega)
    have h2 := zn (by omega)
    omega
  · omega
  · by_cases h0 : n = 0
    · rw [q0 h0]; omega
    · have := dn h0 (by omega); omega
end
/-- What is read rises. -/
theorem read_val_mono {fr r q : Nat} (h : r ≤ q) :
    (if r / 2 ^ fr = 0 then r % 2 ^ fr else (2 ^ fr + r % 2 ^ fr) * 2 ^ (r / 2 ^ fr - 1)) ≤ (if q / 2 ^ fr = 0 then q % 2 ^ fr else (2 ^ fr + q % 2 ^ fr) * 2 ^ (q / 2 ^ fr - 1)) := by
  have hP := Nat.two_pow_pos fr
  have m1 := Nat.div_add_mod r (2 ^ fr)
  have m2 := Nat.div_add_mod q (2 ^ fr)
  have l1 := Nat.mod_lt r hP
  have l2 := Nat.mod_lt q hP
  have hx : r / 2 ^ fr ≤ q / 2 ^ fr := Nat.div_le_div_right h
  generalize r / 2 ^ fr = x at *
  generalize q / 2 ^ fr = y at *
  generalize r % 2 ^ fr = a at *
  generalize q % 2 ^ fr = b at *
  by_cases hxy : x = y
  · subst hxy
    have hab : a ≤ b := by omega
    by_cases h0 : x = 0
    · rw [if_pos h0, if_pos h0]; exact hab
    · rw [if_neg h0, if_neg h0]; exact Nat.mul_le_mul_right _ (by omega)
  · have hlt : x < y := by omega
    rw [if_neg (show ¬ y = 0 by omega)]
    have h1 : 2 ^ fr * 2 ^ (y - 1) ≤ (2 ^ fr + b) * 2 ^ (y - 1) := Nat.mul_le_mul_right _ (by omega)
    refine Nat.le_trans ?_ h1
    by_cases h0 : x = 0
    · rw [if_pos h0]
      have := Nat.le_mul_of_pos_right (2 ^ fr) (Nat.two_pow_pos (y - 1))
      omega
    · rw [if_neg h0]
      have h2 : (2 ^ fr + a) * 2 ^ (x - 1) ≤ 2 ^ (fr + 1) * 2 ^ (x - 1) := Nat.mul_le_mul_right _ (by rw [Nat.pow_succ]; omega)
      refine Nat.le_trans h2 ?_
      rw [← Nat.pow_add, ← Nat.pow_add]
      exact Nat.pow_le_pow_right (by decide) (by omega)
section
variable (fr ex bias top : Nat) (hf : IsForm fr ex bias top) (c : Nat) (hc : (c : Int) = bias - 1)
include hf
/-- A word that is read as a number: its parts. -/
theorem read_rung_val (s : Bool) (r : Nat) (hr : r < top * 2 ^ fr) (hc : (c : Int) = bias - 1) : ∃ m p, (fmt fr ex).read (rSign fr ex s + r) = .number s m p ∧ -(c : Int) ≤ p ∧ m * 2 ^ (p + c).toNat = (if r / 2 ^ fr = 0 then r % 2 ^ fr else (2 ^ fr + r % 2 ^ fr) * 2 ^ (r / 2 ^ fr - 1)) := by
  have hP := Nat.two_pow_pos fr
  obtain ⟨q1, q2, q3⟩ := read_rung fr ex bias top hf s r (by omega)
  have hne : ¬ (r / 2 ^ fr = top) := by
    have := (Nat.div_lt_iff_lt_mul hP).2 hr
    omega
  rw [read_parts fr ex bias top hf, q1, q2, q3, if_neg hne]
  by_cases h0 : r / 2 ^ fr = 0
  · rw [if_pos h0, if_pos h0]
    refine ⟨_, _, by cases s <;> rfl, by omega, ?_⟩
    rw [show (1 - (bias : Int) + c).toNat = 0 by omega, Nat.pow_zero, Nat.mul_one]
  · rw [if_neg h0, if_neg h0]
    refine ⟨_, _, by cases s <;> rfl, by omega, ?_⟩
    congr 2
    omega
/-- Each word that is read as a number is a sign and a rung. -/
theorem rung_of_read {b : Nat} (hb : b < 2 ^ (1 + ex + fr)) {s : Bool} {m : Nat} {p : Int} (h : (fmt fr ex).read b = .number s m p) : ∃ r, r < top * 2 ^ fr ∧ b = rSign fr ex s + r := by
  have hP := Nat.two_pow_pos fr
  have hp := word_parts fr ex b hb
  have hm := Nat.mod_lt b hP
  have hx := Nat.mod_lt (b / 2 ^ fr) (Nat.two_pow_pos ex)
  have htop : top + 1 = 2 ^ ex := by rcases hf with ⟨rfl, rfl, rfl, rfl⟩ | ⟨rfl, rfl, rfl, rfl⟩ <;> decide
  rw [read_parts fr ex bias top hf] at h
  by_cases h1 : b / 2 ^ fr % 2 ^ ex = top
  · rw [if_pos h1] at h; split at h <;> cases h
  · rw [if_neg h1] at h
    have hs : (b / 2 ^ (fr + ex) % 2 == 1) = s := by
      split at h <;> (injection h with h2)
    rw [hs] at hp
    refine ⟨b / 2 ^ fr % 2 ^ ex * 2 ^ fr + b % 2 ^ fr, ?_, by omega⟩
    have : (b / 2 ^ fr % 2 ^ ex + 1) * 2 ^ fr ≤ top * 2 ^ fr := Nat.mul_le_mul_right _ (by omega)
    rw [Nat.add_mul] at this
    omega
include hc
theorem read_mono {b d : Nat} (hb : b < 2 ^ (1 + ex + fr)) (hd : d < 2 ^ (1 + ex + fr)) {s t : Bool} {m n : Nat} {p q : Int} (h1 : (fmt fr ex).read b = .number s m p) (h2 : (fmt fr ex).read d = .number t n q) (h : keyW fr ex b ≤ keyW fr ex d) :
    valK c s m p ≤ valK c t n q := by
  obtain ⟨r, hr, er⟩ := rung_of_read fr ex bias top hf hb h1
  obtain ⟨u, hu, eu⟩ := rung_of_read fr ex bias top hf hd h2
  obtain ⟨m', p', e1, -, v1⟩ := read_rung_val fr ex bias top hf c s r hr hc
  obtain ⟨n', q', e2, -, v2⟩ := read_rung_val fr ex bias top hf c t u hu hc
  rw [er] at h1 h
  rw [eu] at h2 h
  rw [e1] at h1
  rw [e2] at h2
  injection h1 with _ i2 i3
  injection h2 with _ j2 j3
  subst i2 i3 j2 j3
  rw [keyW_sign fr ex bias top hf s r (by omega), keyW_sign fr ex bias top hf t u (by omega)] at h
  unfold valK
  rw [v1, v2]
  have g1 : ∀ a b : Nat, a ≤ b → _ := fun a b => read_val_mono (fr := fr) (r := a) (q := b)
  have z : (if (0 : Nat) / 2 ^ fr = 0 then 0 % 2 ^ fr else (2 ^ fr + 0 % 2 ^ fr) * 2 ^ (0 / 2 ^ fr - 1)) = 0 := by
    rw [Nat.zero_div, if_pos rfl, Nat.zero_mod]
  cases s <;> cases t <;> simp only [Bool.false_eq_true, if_false, if_true] at h ⊢
  · have := g1 r u (by omega); omega
  · have hr0 : r = 0 := by omega
    have hu0 : u = 0 := by omega
    subst hr0 hu0
    rw [z]; omega
  · omega
  · have := g1 u r (by omega); omega
end
end Go.Proofs.Ytdcpeeolfgohmaa

namespace Go.Proofs.Ytdcpeeolfgohmaa
open Go.RowKit
set_option linter.unusedSimpArgs false
set_option linter.unusedVariables false

/-- Two finite words of 64 bits, the first not above the second. -/
def LeW (a b : Nat) : Prop := ∃ s m p t n q, rd64 a = .number s m p ∧ rd64 b = .number t n q ∧ -1074 ≤ p ∧ -1074 ≤ q ∧ valK 1074 s m p ≤ valK 1074 t n q
theorem LeW.refl_of {a : Nat} {s : Bool} {m : Nat} {p : Int} (h : rd64 a = .number s m p) (hp : -1074 ≤ p) : LeW a a := ⟨s, m, p, s, m, p, h, h, hp, hp, Int.le_refl _⟩
theorem valK_more (c k : Nat) {s : Bool} {m : Nat} {e : Int} (he : -(c : Int) ≤ e) : valK (c + k) s m e = valK c s m e * 2 ^ k := by
  unfold valK
  rw [show (e + ((c + k : Nat) : Int)).toNat = (e + c).toNat + k by omega, Nat.pow_add, ← Nat.mul_assoc]
  have h : ((2 ^ k : Nat) : Int) = (2 : Int) ^ k := by rw [Int.natCast_pow]; rfl
  cases s
  · simp only [Bool.false_eq_true, if_false]; rw [Int.natCast_mul, h]
  · simp only [if_true]; rw [Int.natCast_mul, h, Int.neg_mul]
theorem two_pow_posI (k : Nat) : 0 < (2 : Int) ^ k := by
  have h : ((2 ^ k : Nat) : Int) = (2 : Int) ^ k := by rw [Int.natCast_pow]; rfl
  have := Nat.two_pow_pos k
  omega
theorem valK_more_le {c k : Nat} {s t : Bool} {m n : Nat} {e f : Int} (he : -(c : Int) ≤ e) (hf : -(c : Int) ≤ f) (h : valK c s m e ≤ valK c t n f) : valK (c + k) s m e ≤ valK (c + k) t n f := by
  rw [valK_more c k he, valK_more c k hf]
  exact Int.mul_le_mul_of_nonneg_right h (Int.le_of_lt (two_pow_posI k))
section
variable (fr ex bias top : Nat) (hf : IsForm fr ex bias top) (c : Nat) (hc : (bias : Int) - 1 ≤ c)
include hf
/-- A word written is read as a number, where its key is within. -/
theorem read_of_key {s : Bool} {m : Nat} {e : Int} (h : -((top * 2 ^ fr : Nat) : Int) < keyW fr ex ((fmt fr ex).write (.number s m e)) ∧ keyW fr ex ((fmt fr ex).write (.number s m e)) < ((top * 2 ^ fr : Nat) : Int)) : ∃ t n q, (fmt fr ex).read ((fmt fr ex).write (.number s m e)) = .number t n q := by
  obtain ⟨r, hr, er, -, -⟩ := write_rung fr ex bias top hf s m e
  rw [er, keyW_sign fr ex bias top hf s r hr] at h
  have hlt : r < top * 2 ^ fr := by cases s <;> simp only [Bool.false_eq_true, if_false, if_true] at h <;> omega
  obtain ⟨n, q, e1, -, -⟩ := read_rung_val fr ex bias top hf (bias - 1) s r hlt (by rcases hf with ⟨rfl, rfl, rfl, rfl⟩ | ⟨rfl, rfl, rfl, rfl⟩ <;> rfl)
  exact ⟨_, _, _, by rw [er]; exact e1⟩
theorem key_of_read {s : Bool} {m : Nat} {e : Int} {t : Bool} {n : Nat} {q : Int} (h : (fmt fr ex).read ((fmt fr ex).write (.number s m e)) = .number t n q) : -((top * 2 ^ fr : Nat) : Int) < keyW fr ex ((fmt fr ex).write (.number s m e)) ∧ keyW fr ex ((fmt fr ex).write (.number s m e)) < ((top * 2 ^ fr : Nat) : Int) := by
  obtain ⟨r, hr, er, -, -⟩ := write_rung fr ex bias top hf s m e
  rw [er] at h ⊢
  rw [keyW_sign fr ex bias top hf s r hr]
  have hlt : r < top * 2 ^ fr := by
    rcases Nat.lt_or_ge r (top * 2 ^ fr) with g | g
    · exact g
    · exfalso
      have e2 : r = top * 2 ^ fr := by omega
      have := read_inf fr ex bias top hf s
      rw [write_inf fr ex bias top hf, ← e2, h] at this
      cases this
  cases s <;> simp only [Bool.false_eq_true, if_false, if_true] <;> omega
include hc
/-- Between finite ones all is finite. -/
theorem read_between {s0 s s1 : Bool} {m0 m m1 : Nat} {e0 e e1 : Int} (h0 : -(c : Int) ≤ e0) (h : -(c : Int) ≤ e) (h1 : -(c : Int) ≤ e1) (v0 : valK c s0 m0 e0 ≤ valK c s m e) (v1 : valK c s m e ≤ valK c s1 m1 e1) {t0 t1 : Bool} {n0 n1 : Nat} {q0 q1 : Int} (r0 : (fmt fr ex).read ((fmt fr ex).write (.number s0 m0 e0)) = .number t0 n0 q0) (r1 : (fmt fr ex).read ((fmt fr ex).write (.number s1 m1 e1)) = .number t1 n1 q1) :
    ∃ t n q, (fmt fr ex).read ((fmt fr ex).write (.number s m e)) = .number t n q := by
  have k0 := key_of_read fr ex bias top hf r0
  have k1 := key_of_read fr ex bias top hf r1
  have u0 := key_mono fr ex bias top hf c hc h0 h v0
  have u1 := key_mono fr ex bias top hf c hc h h1 v1
  exact read_of_key fr ex bias top hf (by omega)
end
theorem read64_low (a : Nat) : ∀ s m p, rd64 a = .number s m p → -1074 ≤ p := fun s m p h => by
  rw [rd64, read_parts 52 11 1075 2047 isF64] at h
  by_cases h1 : a / 2 ^ 52 % 2 ^ 11 = 2047
  · rw [if_pos h1] at h; split at h <;> cases h
  · rw [if_neg h1] at h
    split at h
    · injection h with _ h2 h3; omega
    · injection h with _ h2 h3; omega
theorem told64_num (s : Bool) (m : Nat) (p : Int) : told64 (.number s m p) = (fmt 52 11).write (.number s m p) := rfl
theorem write64_lt (s : Bool) (m : Nat) (p : Int) : (fmt 52 11).write (.number s m p) < 2 ^ (1 + 11 + 52) := told64_lt (.number s m p)
/-- Numbers in order are written in order. -/
theorem LeW.told (k : Nat) {s t : Bool} {m n : Nat} {e f : Int} (he : -((1074 + k : Nat) : Int) ≤ e) (hf : -((1074 + k : Nat) : Int) ≤ f) (h : valK (1074 + k) s m e ≤ valK (1074 + k) t n f) {s' t' : Bool} {m' n' : Nat} {p' q' : Int} (r1 : rd64 (told64 (.number s m e)) = .number s' m' p') (r2 : rd64 (told64 (.number t n f)) = .number t' n' q') :
    LeW (told64 (.number s m e)) (told64 (.number t n f)) := by
  have hk := key_mono 52 11 1075 2047 isF64 (1074 + k) (by omega) he hf h
  exact ⟨_, _, _, _, _, _, r1, r2, read64_low _ _ _ _ r1, read64_low _ _ _ _ r2, read_mono 52 11 1075 2047 isF64 1074 (by decide) (write64_lt s m e) (write64_lt t n f) r1 r2 hk⟩
/-- Four words in order. -/
def C4 (a b c d : Nat) : Prop := LeW a b ∧ LeW b c ∧ LeW c d
/-- Four numbers in order, the outer ones finite, are written in order. -/
theorem C4.told (k : Nat) {s1 s2 s3 s4 : Bool} {m1 m2 m3 m4 : Nat} {e1 e2 e3 e4 : Int} (b1 : -((1074 + k : Nat) : Int) ≤ e1) (b2 : -((1074 + k : Nat) : Int) ≤ e2) (b3 : -((1074 + k : Nat) : Int) ≤ e3) (b4 : -((1074 + k : Nat) : Int) ≤ e4)
    (h1 : valK (1074 + k) s1 m1 e1 ≤ valK (1074 + k) s2 m2 e2) (h2 : valK (1074 + k) s2 m2 e2 ≤ valK (1074 + k) s3 m3 e3) (h3 : valK (1074 + k) s3 m3 e3 ≤ valK (1074 + k) s4 m4 e4)
    (r1 : ∃ t n q, rd64 (told64 (.number s1 m1 e1)) = .number t n q) (r4 : ∃ t n q, rd64 (told64 (.number s4 m4 e4)) = .number t n q) :
    C4 (told64 (.number s1 m1 e1)) (told64 (.number s2 m2 e2)) (told64 (.number s3 m3 e3)) (told64 (.number s4 m4 e4)) := by
  obtain ⟨t1, n1, q1, r1⟩ := r1
  obtain ⟨t4, n4, q4, r4⟩ := r4
  obtain ⟨t2, n2, q2, r2⟩ := read_between 52 11 1075 2047 isF64 (1074 + k) (by omega) b1 b2 b4 h1 (Int.le_trans h2 h3) r1 r4
  obtain ⟨t3, n3, q3, r3⟩ := read_between 52 11 1075 2047 isF64 (1074 + k) (by omega) b1 b3 b4 (Int.le_trans h1 h2) h3 r1 r4
  exact ⟨LeW.told k b1 b2 h1 r1 r2, LeW.told k b2 b3 h2 r2 r3, LeW.told k b3 b4 h3 r3 r4⟩
theorem signed_val (s : Bool) (m k b : Nat) : (Ieee.signed s m k) * ((2 ^ b : Nat) : Int) = if s then -((m * 2 ^ (k + b) : Nat) : Int) else ((m * 2 ^ (k + b) : Nat) : Int) := by
  unfold Ieee.signed
  rw [Nat.shiftLeft_eq, Nat.pow_add, ← Nat.mul_assoc]
  cases s
  · simp only [Bool.false_eq_true, if_false]; rw [← Int.natCast_mul]
  · simp only [if_true]; rw [Int.neg_mul, ← Int.natCast_mul]
theorem plus_K (c : Nat) (s t : Bool) (m n : Nat) (p q : Int) (hp : -(c : Int) ≤ p) (hq : -(c : Int) ≤ q) : ∃ s' m', plusD (.number s m p) (.number t n q) = .number s' m' (min p q) ∧ valK c s' m' (min p q) = valK c s m p + valK c t n q := by
  obtain ⟨b, eb⟩ : ∃ b : Nat, (b : Int) = min p q + c := ⟨(min p q + c).toNat, by omega⟩
  have h1 : (p + c).toNat = (p - min p q).toNat + b := by omega
  have h2 : (q + c).toNat = (q - min p q).toNat + b := by omega
  have h3 : (min p q + c).toNat = b := by omega
  refine ⟨_, _, rfl, ?_⟩
  unfold valK
  rw [h1, h2, h3, ← signed_val, ← signed_val, ← Int.add_mul]
  obtain ⟨T, eT⟩ : ∃ T, T = Ieee.signed s m (p - min p q).toNat + Ieee.signed t n (q - min p q).toNat := ⟨_, rfl⟩
  rw [← eT]
  have hP := Nat.two_pow_pos b
  by_cases h0 : T = 0
  · rw [h0]; simp
  · rw [if_neg h0]
    by_cases hneg : T < 0
    · rw [if_pos (decide_eq_true hneg), Int.natCast_mul, ← Int.neg_mul]
      congr 1
      omega
    · rw [if_neg (by simpa using hneg), Int.natCast_mul]
      congr 1
      omega
/-- Sums. -/
theorem C4.add {a1 a2 a3 a4 b1 b2 b3 b4 : Nat} (h : C4 a1 a2 a3 a4) (k : C4 b1 b2 b3 b4) (r1 : ∃ t n q, rd64 (add64 a1 b1) = .number t n q) (r4 : ∃ t n q, rd64 (add64 a4 b4) = .number t n q) : C4 (add64 a1 b1) (add64 a2 b2) (add64 a3 b3) (add64 a4 b4) := by
  obtain ⟨⟨s1, m1, p1, s2, m2, p2, e1, e2, l1, l2, v1⟩, ⟨s2', m2', p2', s3, m3, p3, e2', e3, -, l3, v2⟩, s3', m3', p3', s4, m4, p4, e3', e4, -, l4, v3⟩ := h
  obtain ⟨⟨t1, n1, q1, t2, n2, q2, f1, f2, g1, g2, w1⟩, ⟨t2', n2', q2', t3, n3, q3, f2', f3, -, g3, w2⟩, t3', n3', q3', t4, n4, q4, f3', f4, -, g4, w3⟩ := k
  rw [e2] at e2'; injection e2' with i1 i2 i3; subst i1 i2 i3
  rw [e3] at e3'; injection e3' with i1 i2 i3; subst i1 i2 i3
  rw [f2] at f2'; injection f2' with i1 i2 i3; subst i1 i2 i3
  rw [f3] at f3'; injection f3' with i1 i2 i3; subst i1 i2 i3
  obtain ⟨x1, y1, d1, z1⟩ := plus_K 1074 s1 t1 m1 n1 p1 q1 l1 g1
  obtain ⟨x2, y2, d2, z2⟩ := plus_K 1074 s2 t2 m2 n2 p2 q2 l2 g2
  obtain ⟨x3, y3, d3, z3⟩ := plus_K 1074 s3 t3 m3 n3 p3 q3 l3 g3
  obtain ⟨x4, y4, d4, z4⟩ := plus_K 1074 s4 t4 m4 n4 p4 q4 l4 g4
  unfold add64 at *
  rw [e1, f1, d1] at r1 ⊢
  rw [e4, f4, d4] at r4 ⊢
  rw [e2, f2, d2, e3, f3, d3]
  exact C4.told 0 (by omega) (by omega) (by omega) (by omega) (by rw [Nat.add_zero, z1, z2]; omega) (by rw [Nat.add_zero, z2, z3]; omega) (by rw [Nat.add_zero, z3, z4]; omega) r1 r4
/-- Products with a weight. -/
theorem prod_K {n m j : Nat} {s : Bool} {p : Int} (hp : -1074 ≤ p) : prodD (.number false (n * 2 ^ j) (-(j : Int))) (.number s m p) = .number s (n * 2 ^ j * m) (-(j : Int) + p) ∧ valK (1074 + j) s (n * 2 ^ j * m) (-(j : Int) + p) = valK 1074 s m p * ((n * 2 ^ j : Nat) : Int) := by
  refine ⟨by unfold prodD; simp only [Ieee.Datum.product, Option.getD_some, Bool.false_bne], ?_⟩
  unfold valK
  rw [show (-(j : Int) + p + ((1074 + j : Nat) : Int)).toNat = (p + ((1074 : Nat) : Int)).toNat by omega, Nat.mul_assoc]
  cases s
  · simp only [Bool.false_eq_true, if_false]; rw [← Int.natCast_mul, Nat.mul_comm]
  · simp only [if_true]; rw [Int.neg_mul, ← Int.natCast_mul, Nat.mul_comm]
theorem C4.mul {n : Nat} (hn : n ≠ 0) (h : n < 131072) {b1 b2 b3 b4 : Nat} (k : C4 b1 b2 b3 b4) (r1 : ∃ t n' q, rd64 (mul64 (flt64 (n : Int)) b1) = .number t n' q) (r4 : ∃ t n' q, rd64 (mul64 (flt64 (n : Int)) b4) = .number t n' q) :
    C4 (mul64 (flt64 (n : Int)) b1) (mul64 (flt64 (n : Int)) b2) (mul64 (flt64 (n : Int)) b3) (mul64 (flt64 (n : Int)) b4) := by
  obtain ⟨j, hj, hr⟩ := flt64_read n hn h
  obtain ⟨⟨t1, n1, q1, t2, n2, q2, f1, f2, g1, g2, w1⟩, ⟨t2', n2', q2', t3, n3, q3, f2', f3, -, g3, w2⟩, t3', n3', q3', t4, n4, q4, f3', f4, -, g4, w3⟩ := k
  rw [f2] at f2'; injection f2' with i1 i2 i3; subst i1 i2 i3
  rw [f3] at f3'; injection f3' with i1 i2 i3; subst i1 i2 i3
  obtain ⟨d1, z1⟩ := prod_K (n := n) (j := j) (m := n1) (s := t1) g1
  obtain ⟨d2, z2⟩ := prod_K (n := n) (j := j) (m := n2) (s := t2) g2
  obtain ⟨d3, z3⟩ := prod_K (n := n) (j := j) (m := n3) (s := t3) g3
  obtain ⟨d4, z4⟩ := prod_K (n := n) (j := j) (m := n4) (s := t4) g4
  have hk : 0 ≤ ((n * 2 ^ j : Nat) : Int) := by omega
  unfold mul64 at *
  rw [hr] at r1 r4 ⊢
  rw [f1, d1] at r1 ⊢
  rw [f4, d4] at r4 ⊢
  rw [f2, d2, f3, d3]
  exact C4.told j (by omega) (by omega) (by omega) (by omega) (by rw [z1, z2]; exact Int.mul_le_mul_of_nonneg_right w1 hk) (by rw [z2, z3]; exact Int.mul_le_mul_of_nonneg_right w2 hk) (by rw [z3, z4]; exact Int.mul_le_mul_of_nonneg_right w3 hk) r1 r4
/-- Quotients by 65536. -/
theorem quot_K {a : Nat} {s : Bool} {m : Nat} {p : Int} (h : rd64 a = .number s m p) : ∃ m' p', quotD (rd64 a) (rd64 k65536) = .number s m' p' ∧ -((1074 + 200 : Nat) : Int) ≤ p' ∧ valK (1074 + 200) s m' p' = valK 1074 s m p * 2 ^ 184 := by
  have hbd := read64_bd _ _ _ _ h
  have hlo := read64_low _ _ _ _ h
  have hl : (4503599627370496 : Nat).log2 = 52 := by decide +kernel
  rw [h, k65536_read]
  unfold quotD
  simp only [Ieee.Datum.quotient]
  rw [if_neg (by decide), hl]
  simp only [Option.getD_some, Bool.bne_false]
  have hlog : m.log2 ≤ 52 := by
    rcases Nat.eq_zero_or_pos m with h0 | h0
    · rw [h0]; decide
    · have : m.log2 < 53 := (Nat.log2_lt (by omega)).2 (by omega)
      omega
  obtain ⟨k, ek⟩ : ∃ k, 54 + 52 - m.log2 = 52 + k := ⟨54 - m.log2, by omega⟩
  rw [ek]
  have hP : 0 < 2 ^ 52 := by decide
  rw [Nat.shiftLeft_eq, Nat.pow_add, show (4503599627370496 : Nat) = 2 ^ 52 by decide, Nat.mul_comm (2 ^ 52) (2 ^ k), ← Nat.mul_assoc, Nat.mul_div_cancel _ hP, Nat.mul_mod_left]
  simp only [bne_self_eq_false, Bool.toNat_false, Nat.add_zero]
  refine ⟨_, _, rfl, by omega, ?_⟩
  have e1 : valK (1074 + 200) s (2 * (m * 2 ^ k)) (p - -36 - ((52 + k : Nat) : Int) - 1) = valK (1074 + 184) s m p := by
    unfold valK
    have : 2 * (m * 2 ^ k) * 2 ^ (p - -36 - ((52 + k : Nat) : Int) - 1 + ((1074 + 200 : Nat) : Int)).toNat = m * 2 ^ (p + ((1074 + 184 : Nat) : Int)).toNat := by
      rw [show (p + ((1074 + 184 : Nat) : Int)).toNat = 1 + k + (p - -36 - ((52 + k : Nat) : Int) - 1 + ((1074 + 200 : Nat) : Int)).toNat by omega, Nat.pow_add, Nat.pow_add, Nat.pow_one]
      generalize 2 ^ k = K
      generalize 2 ^ (p - -36 - ((52 + k : Nat) : Int) - 1 + ((1074 + 200 : Nat) : Int)).toNat = Z
      grind
    rw [this]
  rw [e1]
  exact valK_more 1074 184 hlo
theorem C4.div {a1 a2 a3 a4 : Nat} (h : C4 a1 a2 a3 a4) (r1 : ∃ t n' q, rd64 (div64 a1 k65536) = .number t n' q) (r4 : ∃ t n' q, rd64 (div64 a4 k65536) = .number t n' q) : C4 (div64 a1 k65536) (div64 a2 k65536) (div64 a3 k65536) (div64 a4 k65536) := by
  obtain ⟨⟨s1, m1, p1, s2, m2, p2, e1, e2, l1, l2, v1⟩, ⟨s2', m2', p2', s3, m3, p3, e2', e3, -, l3, v2⟩, s3', m3', p3', s4, m4, p4, e3', e4, -, l4, v3⟩ := h
  rw [e2] at e2'; injection e2' with i1 i2 i3; subst i1 i2 i3
  rw [e3] at e3'; injection e3' with i1 i2 i3; subst i1 i2 i3
  obtain ⟨x1, y1, d1, b1, z1⟩ := quot_K e1
  obtain ⟨x2, y2, d2, b2, z2⟩ := quot_K e2
  obtain ⟨x3, y3, d3, b3, z3⟩ := quot_K e3
  obtain ⟨x4, y4, d4, b4, z4⟩ := quot_K e4
  unfold div64 at *
  rw [d1] at r1 ⊢
  rw [d4] at r4 ⊢
  rw [d2, d3]
  have hk : (0 : Int) ≤ 2 ^ 184 := Int.le_of_lt (two_pow_posI 184)
  exact C4.told 200 b1 b2 b3 b4 (by rw [z1, z2]; exact Int.mul_le_mul_of_nonneg_right v1 hk) (by rw [z2, z3]; exact Int.mul_le_mul_of_nonneg_right v2 hk) (by rw [z3, z4]; exact Int.mul_le_mul_of_nonneg_right v3 hk) r1 r4
/-- A finite sample. -/
def Fin32 (a : Nat) : Prop := a < 4294967296 ∧ ∃ s m p, rd32 a = .number s m p
def key32 (a : Nat) : Int := keyW 23 8 a
theorem wide_fin {a : Nat} (h : Fin32 a) : ∃ t n q, rd64 (wide64 a) = .number t n q := by
  obtain ⟨ha, s, m, p, e⟩ := h
  rcases wide_read a (by rw [e]; rfl) with ⟨t, h1, h2⟩ | ⟨t, q, h1, h2⟩ | ⟨t, n, q, j, -, -, -, -, -, h1, h2⟩
  · rw [e] at h1; cases h1
  · exact ⟨_, _, _, h2⟩
  · exact ⟨_, _, _, h2⟩
theorem LeW.wide {a b : Nat} (ha : Fin32 a) (hb : Fin32 b) (h : key32 a ≤ key32 b) : LeW (wide64 a) (wide64 b) := by
  obtain ⟨t1, n1, q1, r1⟩ := wide_fin ha
  obtain ⟨t2, n2, q2, r2⟩ := wide_fin hb
  obtain ⟨ha1, s, m, p, e⟩ := ha
  obtain ⟨hb1, t, n, q, f⟩ := hb
  have hv : valK 149 s m p ≤ valK 149 t n q := read_mono 23 8 150 255 isF32 149 (by decide) ha1 hb1 e f h
  have h1 := (read32_bd a _ _ _ e).2.1
  have h2 := (read32_bd b _ _ _ f).2.1
  have hw := valK_more_le (k := 925) h1 h2 hv
  unfold wide64 at *
  rw [e] at r1 ⊢
  rw [f] at r2 ⊢
  exact LeW.told 0 (by omega) (by omega) hw r1 r2
/-- One sample throughout: finite all along. -/
theorem const_fin (y : Nat → Int) (a : Nat) (h : Fin32 a) (S : Nat → Nat) (h0 : S 0 = 0) (hS : ∀ k, S (k + 1) = S k + (y k).toNat) (k : Nat) (hy : ∀ i, i ≤ k → 1 ≤ y i ∧ y i < 131072) (hs : S (k + 1) ≤ 65536) :
    (∃ t n q, rd64 (dots y (fun _ => a) k) = .number t n q) ∧ ∃ t n q, rd64 (mul64 (flt64 (y k)) (wide64 a)) = .number t n q := by
  obtain ⟨ha, s, m, p, e⟩ := h
  have hb := read32_bd a _ _ _ e
  obtain ⟨i0, i1⟩ := dots_const y (fun _ => a) a s m p e S h0 hS k (fun _ _ => rfl) hy hs
  obtain ⟨n, en⟩ : ∃ n : Nat, y k = n := ⟨(y k).toNat, by have := hy k (Nat.le_refl _); omega⟩
  have hn := hy k (Nat.le_refl _)
  have ew : wide64 a = told64 (.number s m p) := by unfold wide64; rw [e]
  rw [ew, en]
  by_cases hm : m = 0
  · rw [i0 hm, hm, z64_mul s (by omega) (by omega)]
    exact ⟨⟨_, _, _, z64_read s 0⟩, _, _, _, z64_read s 0⟩
  · have hpos : 1 ≤ S (k + 1) := by rw [hS]; omega
    have g1 := Nat.mul_le_mul_right m hs
    rw [i1 hm, w64_mul s (by omega) (by omega) hm (by omega) ⟨hb.2.1, by omega⟩]
    obtain ⟨j, -, r1⟩ := w64_read s (m := S (k + 1) * m) (p := p) (Nat.mul_ne_zero (by omega) hm) (by omega) ⟨hb.2.1, by omega⟩
    have g2 := Nat.mul_le_mul_right m (show n ≤ 131072 by omega)
    obtain ⟨i, -, r2⟩ := w64_read s (m := n * m) (p := p) (Nat.mul_ne_zero (by omega) hm) (by omega) ⟨hb.2.1, by omega⟩
    exact ⟨⟨_, _, _, r1⟩, _, _, _, r2⟩
/-- Sums of products in order. -/
theorem dots_order (y : Nat → Int) (x z : Nat → Nat) (l h : Nat) (hl : Fin32 l) (hh : Fin32 h) (S : Nat → Nat) (h0 : S 0 = 0) (hS : ∀ k, S (k + 1) = S k + (y k).toNat) : ∀ k, (∀ i, i ≤ k → 1 ≤ y i ∧ y i < 131072) → S (k + 1) ≤ 65536 → (∀ i, i ≤ k → Fin32 (x i) ∧ Fin32 (z i) ∧ key32 l ≤ key32 (x i) ∧ key32 (x i) ≤ key32 (z i) ∧ key32 (z i) ≤ key32 h) →
    C4 (dots y (fun _ => l) k) (dots y x k) (dots y z k) (dots y (fun _ => h) k) := fun k => by
  induction k with
  | zero =>
    intro hy hs hx
    obtain ⟨n, en⟩ : ∃ n : Nat, y 0 = n := ⟨(y 0).toNat, by have := hy 0 (Nat.le_refl _); omega⟩
    have hn := hy 0 (Nat.le_refl _)
    obtain ⟨f1, f2, k1, k2, k3⟩ := hx 0 (Nat.le_refl _)
    have c1 := (const_fin y l hl S h0 hS 0 hy hs).2
    have c2 := (const_fin y h hh S h0 hS 0 hy hs).2
    show C4 (mul64 (flt64 (y 0)) (wide64 l)) (mul64 (flt64 (y 0)) (wide64 (x 0))) (mul64 (flt64 (y 0)) (wide64 (z 0))) (mul64 (flt64 (y 0)) (wide64 h))
    rw [en] at c1 c2 ⊢
    exact C4.mul (by omega) (by omega) ⟨LeW.wide hl f1 k1, LeW.wide f1 f2 k2, LeW.wide f2 hh k3⟩ c1 c2
  | succ k ih =>
    intro hy hs hx
    have hs1 : S (k + 1) ≤ 65536 := by rw [hS (k + 1)] at hs; omega
    have i1 := ih (fun i hi => hy i (by omega)) hs1 (fun i hi => hx i (by omega))
    obtain ⟨n, en⟩ : ∃ n : Nat, y (k + 1) = n := ⟨(y (k + 1)).toNat, by have := hy (k + 1) (Nat.le_refl _); omega⟩
    have hn := hy (k + 1) (Nat.le_refl _)
    obtain ⟨f1, f2, k1, k2, k3⟩ := hx (k + 1) (Nat.le_refl _)
    obtain ⟨d1, c1⟩ := const_fin y l hl S h0 hS (k + 1) hy hs
    obtain ⟨d2, c2⟩ := const_fin y h hh S h0 hS (k + 1) hy hs
    have i2 : C4 (mul64 (flt64 (y (k + 1))) (wide64 l)) (mul64 (flt64 (y (k + 1))) (wide64 (x (k + 1)))) (mul64 (flt64 (y (k + 1))) (wide64 (z (k + 1)))) (mul64 (flt64 (y (k + 1))) (wide64 h)) := by
      rw [en] at c1 c2 ⊢
      exact C4.mul (by omega) (by omega) ⟨LeW.wide hl f1 k1, LeW.wide f1 f2 k2, LeW.wide f2 hh k3⟩ c1 c2
    exact C4.add i1 i2 d1 d2
/-- The sample told lies between; it rises. -/
theorem dot_order (y : Nat → Int) (x z : Nat → Nat) (l h : Nat) (hl : Fin32 l) (hh : Fin32 h) (S : Nat → Nat) (h0 : S 0 = 0) (hS : ∀ k, S (k + 1) = S k + (y k).toNat) (n : Nat) (hy : ∀ i, i < n → 1 ≤ y i ∧ y i < 131072) (hs : S n = 65536) (hx : ∀ i, i < n → Fin32 (x i) ∧ Fin32 (z i) ∧ key32 l ≤ key32 (x i) ∧ key32 (x i) ≤ key32 (z i) ∧ key32 (z i) ≤ key32 h) :
    key32 l ≤ key32 (dotOf y x n) ∧ key32 (dotOf y x n) ≤ key32 (dotOf y z n) ∧ key32 (dotOf y z n) ≤ key32 h := by
  cases n with
  | zero => omega
  | succ k =>
    have h4 := dots_order y x z l h hl hh S h0 hS k (fun i hi => hy i (by omega)) (by omega) (fun i hi => hx i (by omega))
    have cl := dotOf_const y (fun _ => l) l hl.1 hl.2 S h0 hS (k + 1) (fun _ _ => rfl) hy hs
    have ch := dotOf_const y (fun _ => h) h hh.1 hh.2 S h0 hS (k + 1) (fun _ _ => rfl) hy hs
    have fin : ∀ a, Fin32 a → ∃ t n' q, rd64 (dotB y (fun _ => a) (k + 1)) = .number t n' q := fun a ha => by
      have hw : dotB y (fun _ => a) (k + 1) = wide64 a := by
        obtain ⟨ha1, s, m, p, e⟩ := ha
        have hb := read32_bd a _ _ _ e
        obtain ⟨i0, i1⟩ := dots_const y (fun _ => a) a s m p e S h0 hS k (fun _ _ => rfl) (fun i hi => hy i (by omega)) (by omega)
        show div64 (dots y (fun _ => a) k) k65536 = told64 (rd32 a)
        rw [e]
        by_cases hm : m = 0
        · rw [i0 hm, hm, z64_div]
          exact z64_same _ _ _
        · rw [i1 hm, hs]
          exact w64_div s hm hb.1 hb.2
      rw [hw]
      exact wide_fin ha
    obtain ⟨⟨s1, m1, p1, s2, m2, p2, e1, e2, l1, l2, v1⟩, ⟨s2', m2', p2', s3, m3, p3, e2', e3, -, l3, v2⟩, s3', m3', p3', s4, m4, p4, e3', e4, -, l4, v3⟩ : C4 (dotB y (fun _ => l) (k + 1)) (dotB y x (k + 1)) (dotB y z (k + 1)) (dotB y (fun _ => h) (k + 1)) := C4.div h4 (fin l hl) (fin h hh)
    rw [e2] at e2'; injection e2' with i1 i2 i3; subst i1 i2 i3
    rw [e3] at e3'; injection e3' with i1 i2 i3; subst i1 i2 i3
    have key : ∀ {s t : Bool} {m n : Nat} {p q : Int}, -1074 ≤ p → -1074 ≤ q → valK 1074 s m p ≤ valK 1074 t n q → key32 (told32 (.number s m p)) ≤ key32 (told32 (.number t n q)) := fun hp hq hv => key_mono 23 8 150 255 isF32 1074 (by decide) hp hq hv
    have g1 := key l1 l2 v1
    have g2 := key l2 l3 v2
    have g3 := key l3 l4 v3
    rw [← e1, ← e2] at g1
    rw [← e2, ← e3] at g2
    rw [← e3, ← e4] at g3
    rw [show told32 (rd64 (dotB y (fun _ => l) (k + 1))) = l from cl] at g1
    rw [show told32 (rd64 (dotB y (fun _ => h) (k + 1))) = h from ch] at g3
    exact ⟨g1, g2, g3⟩
end Go.Proofs.Ytdcpeeolfgohmaa

namespace Go.Proofs.Ytdcpeeolfgohmaa
open Go.RowKit
set_option linter.unusedSimpArgs false
set_option linter.unusedVariables false

theorem fin_of_exp {a : Nat} (ha : a < 4294967296) (h : expN a ≠ 255) : Fin32 a := by
  refine ⟨ha, ?_⟩
  have e1 : a / 2 ^ 23 % 2 ^ 8 = expN a := by unfold expN; rfl
  rw [rd32, read_parts 23 8 150 255 isF32, e1, if_neg h]
  split <;> exact ⟨_, _, _, rfl⟩
theorem fin_exp {a : Nat} (h : Fin32 a) : expN a ≠ 255 := fun hx => by
  obtain ⟨ha, s, m, p, e⟩ := h
  have e1 : a / 2 ^ 23 % 2 ^ 8 = expN a := by unfold expN; rfl
  rw [rd32, read_parts 23 8 150 255 isF32, e1, if_pos hx] at e
  split at e <;> cases e
theorem fin_not_nan {a : Nat} (h : Fin32 a) : (rd32 a).isNaN = false := by
  obtain ⟨ha, s, m, p, e⟩ := h
  rw [e]; rfl
/-- A finite sample in binary64, written back. -/
theorem back_fin {a : Nat} (h : Fin32 a) : told32 (rd64 (wide64 a)) = a := by
  rw [told_finer a (fin_not_nan h), ← first_eq a h.1]
  unfold first32
  rw [fin_not_nan h]
  rfl
/-- Two finite samples: their values in order as their keys. -/
theorem wide_order {a b : Nat} (ha : Fin32 a) (hb : Fin32 b) {s t : Bool} {m n : Nat} {p q : Int} (h1 : rd64 (wide64 a) = .number s m p) (h2 : rd64 (wide64 b) = .number t n q) : valK 1074 s m p ≤ valK 1074 t n q ↔ key32 a ≤ key32 b := by
  constructor
  · intro h
    have k := key_mono 23 8 150 255 isF32 1074 (by decide) (read64_low _ _ _ _ h1) (read64_low _ _ _ _ h2) h
    have e1 := back_fin ha
    have e2 := back_fin hb
    rw [h1] at e1
    rw [h2] at e2
    have f1 : (fmt 23 8).write (.number s m p) = a := e1
    have f2 : (fmt 23 8).write (.number t n q) = b := e2
    rw [f1, f2] at k
    exact k
  · intro h
    obtain ⟨s', m', p', t', n', q', r1, r2, -, -, hv⟩ := LeW.wide ha hb h
    rw [h1] at r1
    rw [h2] at r2
    injection r1 with i1 i2 i3
    injection r2 with j1 j2 j3
    subst i1 i2 i3 j1 j2 j3
    exact hv
theorem cmp_lt {a b : Int} (h : a < b) : compare a b = .lt := by
  show compareOfLessAndEq a b = .lt
  unfold compareOfLessAndEq
  rw [if_pos h]
theorem cmp_eq {a b : Int} (h : a = b) : compare a b = .eq := by
  show compareOfLessAndEq a b = .eq
  unfold compareOfLessAndEq
  rw [if_neg (by omega), if_pos h]
theorem cmp_gt {a b : Int} (h : b < a) : compare a b = .gt := by
  show compareOfLessAndEq a b = .gt
  unfold compareOfLessAndEq
  rw [if_neg (by omega), if_neg (by omega)]
theorem cmp_scale {a b : Int} {k : Nat} : compare (a * ((2 ^ k : Nat) : Int)) (b * ((2 ^ k : Nat) : Int)) = compare a b := by
  have hP : 0 < ((2 ^ k : Nat) : Int) := by have := Nat.two_pow_pos k; omega
  rcases Int.lt_trichotomy a b with h | h | h
  · rw [cmp_lt h, cmp_lt (Int.mul_lt_mul_of_pos_right h hP)]
  · rw [h, cmp_eq rfl, cmp_eq rfl]
  · rw [cmp_gt h, cmp_gt (Int.mul_lt_mul_of_pos_right h hP)]
theorem order_num {s t : Bool} {m n : Nat} {p q : Int} (hp : -1074 ≤ p) (hq : -1074 ≤ q) : (Ieee.Datum.number s m p).order (.number t n q) = some (compare (valK 1074 s m p) (valK 1074 t n q)) := by
  obtain ⟨b, eb⟩ : ∃ b : Nat, (b : Int) = min p q + 1074 := ⟨(min p q + 1074).toNat, by omega⟩
  have h1 : (p + ((1074 : Nat) : Int)).toNat = (p - min p q).toNat + b := by omega
  have h2 : (q + ((1074 : Nat) : Int)).toNat = (q - min p q).toNat + b := by omega
  unfold valK
  rw [h1, h2, ← signed_val, ← signed_val, cmp_scale]
  rfl
theorem cmp_iff {a b c d : Int} (h : a ≤ b ↔ c ≤ d) (k : b ≤ a ↔ d ≤ c) : compare a b = compare c d := by
  rcases Int.lt_trichotomy a b with g | g | g
  · rw [cmp_lt g, cmp_lt (by omega)]
  · rw [cmp_eq g, cmp_eq (by omega)]
  · rw [cmp_gt g, cmp_gt (by omega)]
theorem wide_cmp {a b : Nat} (ha : Fin32 a) (hb : Fin32 b) : FloatKind.f64.format.order (wide64 a) (wide64 b) = some (compare (key32 a) (key32 b)) := by
  obtain ⟨s, m, p, e⟩ := wide_fin ha
  obtain ⟨t, n, q, f⟩ := wide_fin hb
  show (rd64 (wide64 a)).order (rd64 (wide64 b)) = _
  rw [e, f, order_num (read64_low _ _ _ _ e) (read64_low _ _ _ _ f)]
  rw [cmp_iff (wide_order ha hb e f) (wide_order hb ha f e)]
def pInf : Nat := 9218868437227405312
def nInf : Nat := 18442240474082181120
theorem pInf_read : rd64 pInf = .infinity false := by decide +kernel
theorem nInf_read : rd64 nInf = .infinity true := by decide +kernel
/-- The least so far, the greatest so far. -/
def LoIs (z : Nat → Nat) (i u : Nat) : Prop := (i = 0 ∧ u = pInf) ∨ ∃ j, j < i ∧ u = wide64 (z j) ∧ ∀ k, k < i → key32 (z j) ≤ key32 (z k)
def HiIs (z : Nat → Nat) (i u : Nat) : Prop := (i = 0 ∧ u = nInf) ∨ ∃ j, j < i ∧ u = wide64 (z j) ∧ ∀ k, k < i → key32 (z k) ≤ key32 (z j)
theorem LoIs.step {z : Nat → Nat} {i u : Nat} (h : LoIs z i u) (hz : ∀ k, k ≤ i → Fin32 (z k)) : ∃ u', (∀ (P : Program) (ts : Array TypeId) (t : TypeId) (w : World), (Builtin.min_ ts t #[.float .f64 u, .float .f64 (wide64 (z i))]).run P w = .ok (.float .f64 u') w) ∧ LoIs z (i + 1) u' := by
  obtain ⟨s, m, p, e⟩ := wide_fin (hz i (Nat.le_refl _))
  rcases h with ⟨rfl, rfl⟩ | ⟨j, hj, rfl, hk⟩
  · have ho : FloatKind.f64.format.order pInf (wide64 (z 0)) = some .gt := by
      show (rd64 pInf).order (rd64 (wide64 (z 0))) = _
      rw [pInf_read, e]; rfl
    refine ⟨wide64 (z 0), fun P ts t w => by simp [Builtin.min_, Builtin.min2, ho], .inr ⟨0, by omega, rfl, fun k hk => ?_⟩⟩
    have : k = 0 := by omega
    rw [this]; omega
  · have ho := wide_cmp (hz j (by omega)) (hz i (Nat.le_refl _))
    rcases Int.lt_trichotomy (key32 (z j)) (key32 (z i)) with g | g | g
    · rw [cmp_lt g] at ho
      refine ⟨wide64 (z j), fun P ts t w => by simp [Builtin.min_, Builtin.min2, ho], .inr ⟨j, by omega, rfl, fun k hk' => ?_⟩⟩
      rcases Nat.lt_or_ge k i with h1 | h1
      · exact hk k h1
      · have : k = i := by omega
        rw [this]; omega
    · rw [cmp_eq g] at ho
      refine ⟨if (FloatKind.f64.decode (wide64 (z j))).neg then wide64 (z j) else wide64 (z i), fun P ts t w => by simp [Builtin.min_, Builtin.min2, ho], ?_⟩
      split
      · refine .inr ⟨j, by omega, rfl, fun k hk' => ?_⟩
        rcases Nat.lt_or_ge k i with h1 | h1
        · exact hk k h1
        · have : k = i := by omega
          rw [this]; omega
      · refine .inr ⟨i, by omega, rfl, fun k hk' => ?_⟩
        rcases Nat.lt_or_ge k i with h1 | h1
        · have := hk k h1; omega
        · have : k = i := by omega
          rw [this]; omega
    · rw [cmp_gt g] at ho
      refine ⟨wide64 (z i), fun P ts t w => by simp [Builtin.min_, Builtin.min2, ho], .inr ⟨i, by omega, rfl, fun k hk' => ?_⟩⟩
      rcases Nat.lt_or_ge k i with h1 | h1
      · have := hk k h1; omega
      · have : k = i := by omega
        rw [this]; omega
theorem HiIs.step {z : Nat → Nat} {i u : Nat} (h : HiIs z i u) (hz : ∀ k, k ≤ i → Fin32 (z k)) : ∃ u', (∀ (P : Program) (ts : Array TypeId) (t : TypeId) (w : World), (Builtin.max_ ts t #[.float .f64 u, .float .f64 (wide64 (z i))]).run P w = .ok (.float .f64 u') w) ∧ HiIs z (i + 1) u' := by
  obtain ⟨s, m, p, e⟩ := wide_fin (hz i (Nat.le_refl _))
  rcases h with ⟨rfl, rfl⟩ | ⟨j, hj, rfl, hk⟩
  · have ho : FloatKind.f64.format.order nInf (wide64 (z 0)) = some .lt := by
      show (rd64 nInf).order (rd64 (wide64 (z 0))) = _
      rw [nInf_read, e]; rfl
    refine ⟨wide64 (z 0), fun P ts t w => by simp [Builtin.max_, Builtin.max2, ho], .inr ⟨0, by omega, rfl, fun k hk => ?_⟩⟩
    have : k = 0 := by omega
    rw [this]; omega
  · have ho := wide_cmp (hz j (by omega)) (hz i (Nat.le_refl _))
    rcases Int.lt_trichotomy (key32 (z j)) (key32 (z i)) with g | g | g
    · rw [cmp_lt g] at ho
      refine ⟨wide64 (z i), fun P ts t w => by simp [Builtin.max_, Builtin.max2, ho], .inr ⟨i, by omega, rfl, fun k hk' => ?_⟩⟩
      rcases Nat.lt_or_ge k i with h1 | h1
      · have := hk k h1; omega
      · have : k = i := by omega
        rw [this]; omega
    · rw [cmp_eq g] at ho
      refine ⟨if (FloatKind.f64.decode (wide64 (z j))).neg then wide64 (z i) else wide64 (z j), fun P ts t w => by simp [Builtin.max_, Builtin.max2, ho], ?_⟩
      split
      · refine .inr ⟨i, by omega, rfl, fun k hk' => ?_⟩
        rcases Nat.lt_or_ge k i with h1 | h1
        · have := hk k h1; omega
        · have : k = i := by omega
          rw [this]; omega
      · refine .inr ⟨j, by omega, rfl, fun k hk' => ?_⟩
        rcases Nat.lt_or_ge k i with h1 | h1
        · exact hk k h1
        · have : k = i := by omega
          rw [this]; omega
    · rw [cmp_gt g] at ho
      refine ⟨wide64 (z j), fun P ts t w => by simp [Builtin.max_, Builtin.max2, ho], .inr ⟨j, by omega, rfl, fun k hk' => ?_⟩⟩
      rcases Nat.lt_or_ge k i with h1 | h1
      · exact hk k h1
      · have : k = i := by omega
        rw [this]; omega
theorem fin_of_key {l s h : Nat} (hl : Fin32 l) (hh : Fin32 h) (hs : s < 4294967296) (h1 : key32 l ≤ key32 s) (h2 : key32 s ≤ key32 h) : Fin32 s := by
  have bd : ∀ {a : Nat}, Fin32 a → -2139095040 < key32 a ∧ key32 a < 2139095040 := fun {a} ha => by
    obtain ⟨ha1, t, m, p, e⟩ := ha
    obtain ⟨r, hr, er⟩ := rung_of_read 23 8 150 255 isF32 (show a < 2 ^ (1 + 8 + 23) from ha1) e
    have hk := keyW_sign 23 8 150 255 isF32 t r (by omega)
    rw [← er] at hk
    unfold key32
    have : 255 * 2 ^ 23 = 2139095040 := by decide
    cases t <;> simp only [Bool.false_eq_true, if_false, if_true] at hk <;> omega
  have b1 := bd hl
  have b2 := bd hh
  have hk : key32 s = if 2147483648 ≤ s then -((s - 2147483648 : Nat) : Int) else (s : Int) := rfl
  refine fin_of_exp hs fun hx => ?_
  unfold expN at hx
  split at hk <;> omega
/-- The weights of a place's spots. -/
theorem spots_wts {kind border : Int} {t : Wp} {W H x y : Int} {L : List Spt} (hq : 1 ≤ t.Q) (hk : kind ≠ 1) (h : IsSpots kind border t W H x y L) : (∀ i, i < L.length → 1 ≤ spN L i ∧ spN L i < 131072) ∧ wtTo L L.length = 65536 := by
  rcases h with ⟨e, _⟩ | ⟨_, res, hs, rfl⟩
  · exact absurd e hk
  have hf := Int.emod_nonneg (fromU t x y) (show t.Q ≠ 0 by omega)
  have hf2 := Int.emod_lt_of_pos (fromU t x y) (show 0 < t.Q by omega)
  have hg := Int.emod_nonneg (fromV t x y) (show t.Q ≠ 0 by omega)
  have hg2 := Int.emod_lt_of_pos (fromV t x y) (show 0 < t.Q by omega)
  have hb := shared4_in hq ⟨hf, hf2⟩ ⟨hg, hg2⟩ hs
  refine ⟨fun i hi => ?_, ?_⟩
  · unfold spN
    rw [List.getD_eq_getElem?_getD, List.getElem?_eq_getElem hi, Option.getD_some]
    obtain ⟨a, ha, h0, e⟩ := spotsTo_pos 4 _ (List.getElem_mem hi)
    have := hb a ha
    omega
  · unfold wtTo
    rw [List.take_length]
    have := spotsTo_sum (border := border) (W := W) (H := H) (i := fromU t x y / t.Q) (j := fromV t x y / t.Q) 4 fun a ha => (hb a ha).1
    rw [shared4_sum hq hs] at this
    omega
/-- What is told lies between. -/
theorem px_between {L : List Spt} {z : Nat → Nat} (hw : ∀ i, i < L.length → 1 ≤ spN L i ∧ spN L i < 131072) (hs : wtTo L L.length = 65536) (hz : ∀ i, i < L.length → Fin32 (z i)) {u v : Nat} (hu : LoIs z L.length u) (hv : HiIs z L.length v) :
    Fin32 (dotOf (spN L) z L.length) ∧ (∃ o, (o = Ordering.gt ∨ o = Ordering.eq) ∧ FloatKind.f64.format.order (wide64 (dotOf (spN L) z L.length)) u = some o) ∧ ∃ o, (o = Ordering.lt ∨ o = Ordering.eq) ∧ FloatKind.f64.format.order (wide64 (dotOf (spN L) z L.length)) v = some o := by
  have hn : 0 < L.length := by
    rcases Nat.eq_zero_or_pos L.length with h0 | h0
    · rw [h0] at hs; exact absurd hs (by unfold wtTo; simp)
    · exact h0
  rcases hu with ⟨h0, _⟩ | ⟨j, hj, rfl, hk⟩
  · omega
  rcases hv with ⟨h0, _⟩ | ⟨i, hi, rfl, hm⟩
  · omega
  obtain ⟨h1, -, h2⟩ := dot_order (spN L) z z (z j) (z i) (hz j hj) (hz i hi) (wtTo L) (by unfold wtTo; simp) (wtTo_succ L) L.length hw hs (fun k hk' => ⟨hz k hk', hz k hk', hk k hk', Int.le_refl _, hm k hk'⟩)
  have hlt : dotOf (spN L) z L.length < 4294967296 := told32_lt _
  have hf : Fin32 (dotOf (spN L) z L.length) := fin_of_key (hz j hj) (hz i hi) hlt h1 h2
  refine ⟨hf, ?_, ?_⟩
  · have ho := wide_cmp hf (hz j hj)
    rcases Int.lt_or_eq_of_le h1 with g | g
    · rw [cmp_gt g] at ho; exact ⟨_, .inl rfl, ho⟩
    · rw [cmp_eq g.symm] at ho; exact ⟨_, .inr rfl, ho⟩
  · have ho := wide_cmp hf (hz i hi)
    rcases Int.lt_or_eq_of_le h2 with g | g
    · rw [cmp_lt g] at ho; exact ⟨_, .inl rfl, ho⟩
    · rw [cmp_eq g] at ho; exact ⟨_, .inr rfl, ho⟩
/-- One sample throughout stays. -/
theorem px_const {border : Int} {t : Wp} {W H : Int} {s : Nat} (hs : Fin32 s) (hq : 1 ≤ t.Q) {w : Int} {i r : Nat} (h : IsPx 2 border t W H (fun _ => s) w i r) : r = s := by
  obtain ⟨L, hL, e⟩ := h
  obtain ⟨hw, hsum⟩ := spots_wts hq (by decide) hL
  rw [e]
  unfold pxOf
  rw [if_neg (by decide)]
  exact dotOf_const (spN L) (spX (fun _ => s) W L) s hs.1 hs.2 (wtTo L) (by unfold wtTo; simp) (wtTo_succ L) L.length (fun _ _ => rfl) hw hsum
end Go.Proofs.Ytdcpeeolfgohmaa
