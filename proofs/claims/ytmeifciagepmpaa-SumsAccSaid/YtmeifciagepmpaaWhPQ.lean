/- For SumsWhole: sums and products of small whole numbers in units of 2^p are exact, in binary32 and binary64. For SumsWhole: the exact sum of small whole numbers; products with weights in binary64. -/
import Derived.Test.YtmeifciagepmpaaLgPW
namespace Go.Proofs.Ytmeifciagepmpaa
open Go.RowKit Go.Proofs.YtmeifciagepmpaaW.PrintWords
set_option linter.unusedSimpArgs false
set_option linter.unusedVariables false

/-- The value of a number in units of 2^-c. -/
def valU (c : Nat) (s : Bool) (m : Nat) (e : Int) : Int := if s then -((m : Int) * 2 ^ (e + c).toNat) else (m : Int) * 2 ^ (e + c).toNat
theorem valU_plus (c : Nat) (s t : Bool) (m n : Nat) (p q : Int) (hp : -(c : Int) ≤ p) (hq : -(c : Int) ≤ q) : ∃ s' m', plusD (.number s m p) (.number t n q) = .number s' m' (min p q) ∧ valU c s' m' (min p q) = valU c s m p + valU c t n q ∧ (valU c s m p + valU c t n q = 0 → s' = (s && t)) := by
  obtain ⟨b, eb⟩ : ∃ b : Nat, (b : Int) = min p q + c := ⟨(min p q + c).toNat, by omega⟩
  have h1 : (p + c).toNat = (p - min p q).toNat + b := by omega
  have h2 : (q + c).toNat = (q - min p q).toNat + b := by omega
  have h3 : (min p q + c).toNat = b := by omega
  refine ⟨_, _, rfl, ?_⟩
  unfold valU
  rw [h1, h2, h3, Int.pow_add, Int.pow_add]
  obtain ⟨i, ei⟩ : ∃ i, i = (p - min p q).toNat := ⟨_, rfl⟩
  obtain ⟨j, ej⟩ : ∃ i, i = (q - min p q).toNat := ⟨_, rfl⟩
  rw [← ei, ← ej]
  have hS : ∀ (s : Bool) (m k : Nat), (if s = true then -((m : Int) * (2 ^ k * 2 ^ b)) else (m : Int) * (2 ^ k * 2 ^ b)) = Ieee.signed s m k * 2 ^ b := fun s m k => by
    unfold Ieee.signed
    rw [Nat.shiftLeft_eq]
    cases s
    · simp [Int.mul_assoc]
    · simp [Int.mul_assoc, Int.neg_mul]
  rw [hS, hS, ← Int.add_mul]
  obtain ⟨T, eT⟩ : ∃ T, T = Ieee.signed s m i + Ieee.signed t n j := ⟨_, rfl⟩
  rw [← eT]
  by_cases h0 : T = 0
  · refine ⟨?_, fun _ => if_pos h0⟩
    rw [h0]; simp
  · refine ⟨?_, fun h => ?_⟩
    · rw [if_neg h0]
      by_cases hneg : T < 0
      · rw [if_pos (decide_eq_true hneg), ← Int.neg_mul]
        congr 1
        omega
      · rw [if_neg (by simpa using hneg)]
        congr 1
        omega
    · have h2 : (2 : Int) ^ b ≠ 0 := by rw [← cast_two]; have := Nat.two_pow_pos b; omega
      rcases Int.mul_eq_zero.1 h with h | h
      · exact absurd h h0
      · exact absurd h h2
theorem valU_zero (c : Nat) (s : Bool) (e : Int) : valU c s 0 e = 0 := by unfold valU; simp
theorem valU_flip (c : Nat) (s : Bool) (m : Nat) (e : Int) : valU c (!s) m e = - valU c s m e := by unfold valU; cases s <;> simp
theorem valU_ne {c : Nat} {s : Bool} {m : Nat} {e : Int} (h : m ≠ 0) : valU c s m e ≠ 0 ∧ (decide (valU c s m e < 0) = s) := by
  have h2 : 0 < (m : Int) * 2 ^ (e + c).toNat := by
    have h3 : 0 < (2 : Int) ^ (e + c).toNat := by rw [← cast_two]; have := Nat.two_pow_pos (e + c).toNat; omega
    exact Int.mul_pos (by omega) h3
  unfold valU
  cases s
  · rw [if_neg (by decide)]; exact ⟨by omega, by rw [decide_eq_false_iff_not]; omega⟩
  · rw [if_pos rfl]; exact ⟨by omega, by rw [decide_eq_true_iff]; omega⟩
theorem valU_abs (c : Nat) (s : Bool) (m : Nat) (e : Int) : (valU c s m e).natAbs = m * 2 ^ (e + c).toNat := by
  have h : ((m : Int) * 2 ^ (e + c).toNat).natAbs = m * 2 ^ (e + c).toNat := by rw [← cast_two, ← Int.natCast_mul, Int.natAbs_natCast]
  unfold valU
  cases s
  · rw [if_neg (by decide)]; exact h
  · rw [if_pos rfl, Int.natAbs_neg]; exact h
/-- A number in units of 2^p, written. -/
def TW (fr ex : Nat) (p : Int) (A : Int) : Nat := (fmt fr ex).write (.number (decide (A < 0)) A.natAbs p)
/-- The value of A units of 2^p in units of 2^-c. -/
def unitU (c : Nat) (p : Int) (A : Int) : Int := A * 2 ^ (p + c).toNat
theorem unitU_zero {c : Nat} {p A : Int} : unitU c p A = 0 ↔ A = 0 := by
  unfold unitU
  have h3 : (2 : Int) ^ (p + c).toNat ≠ 0 := by rw [← cast_two]; have := Nat.two_pow_pos (p + c).toNat; omega
  rw [Int.mul_eq_zero]
  exact ⟨fun h => h.resolve_right h3, .inl⟩
theorem unitU_add (c : Nat) (p A B : Int) : unitU c p (A + B) = unitU c p A + unitU c p B := Int.add_mul _ _ _
theorem unitU_neg (c : Nat) (p A : Int) : unitU c p (-A) = - unitU c p A := Int.neg_mul _ _
theorem unitU_val (c : Nat) (p A : Int) : unitU c p A = valU c (decide (A < 0)) A.natAbs p := by
  unfold unitU valU
  by_cases h : A < 0
  · rw [decide_eq_true h, if_pos rfl, show (A.natAbs : Int) = -A by omega, Int.neg_mul, Int.neg_neg]
  · rw [decide_eq_false h, if_neg (by decide), show (A.natAbs : Int) = A by omega]

section
variable (fr ex bias top : Nat) (hf : IsForm fr ex bias top) (c : Nat)
include hf
/-- A value that isn't 0 is written in one way. -/
theorem write_val {s : Bool} {m : Nat} {e p A : Int} (he : -(c : Int) ≤ e) (hp : -(c : Int) ≤ p) (hA : A ≠ 0) (h : valU c s m e = unitU c p A) : (fmt fr ex).write (.number s m e) = TW fr ex p A := by
  have hm : m ≠ 0 := by
    intro h0
    rw [h0, valU_zero] at h
    exact hA (unitU_zero.1 h.symm)
  have hs := (valU_ne (c := c) (s := s) (e := e) hm).2
  rw [unitU_val] at h
  have hs2 := (valU_ne (c := c) (s := decide (A < 0)) (m := A.natAbs) (e := p) (by omega)).2
  rw [h, hs2] at hs
  have ha := valU_abs c s m e
  rw [h, valU_abs] at ha
  have w1 := write_scale fr ex bias top hf s m (e + c).toNat e hm
  have w2 := write_scale fr ex bias top hf s A.natAbs (p + c).toNat p (by omega)
  rw [show e - (((e + c).toNat : Nat) : Int) = -(c : Int) by omega] at w1
  rw [show p - (((p + c).toNat : Nat) : Int) = -(c : Int) by omega] at w2
  unfold TW
  rw [hs, ← w1, ← w2, ha]
/-- A number that fits is read as it was written. -/
theorem read_val {s : Bool} {m : Nat} {e p A : Int} (hc : (c : Int) = bias - 1) (he : -(c : Int) ≤ e) (hp : -(c : Int) + fr ≤ p) (hA : A.natAbs ≤ 2 ^ (fr + 1)) (hp2 : p + 1 + bias < top) (h : valU c s m e = unitU c p A) :
    ∃ s' m' e', (fmt fr ex).read ((fmt fr ex).write (.number s m e)) = .number s' m' e' ∧ -(c : Int) ≤ e' ∧ valU c s' m' e' = unitU c p A ∧ (A = 0 → s' = s) ∧ (A ≠ 0 → p - (fr : Int) ≤ e') := by
  by_cases h0 : A = 0
  · have hm : m = 0 := by
      rcases Nat.eq_zero_or_pos m with hm | hm
      · exact hm
      · exact absurd (h.trans (unitU_zero.2 h0)) (valU_ne (by omega)).1
    subst hm
    refine ⟨s, 0, 1 - (bias : Int), read_zero fr ex bias top hf s e, by omega, ?_, fun _ => rfl, fun k => absurd h0 k⟩
    rw [valU_zero, unitU_zero.2 h0]
  · rw [write_val fr ex bias top hf c he (by omega) h0 h]
    unfold TW
    have hn : A.natAbs ≠ 0 := by omega
    by_cases hb : A.natAbs = 2 ^ (fr + 1)
    · have w := write_scale fr ex bias top hf (decide (A < 0)) (2 ^ fr) 1 (p + 1) (Nat.ne_of_gt (Nat.two_pow_pos _))
      rw [← Nat.pow_succ, show p + 1 - ((1 : Nat) : Int) = p by omega] at w
      have hbl : bitlen (2 ^ fr) = fr + 1 := bitlen_of (Nat.le_refl _) (by rw [Nat.pow_succ]; have := Nat.two_pow_pos fr; omega)
      have r := read_write_exact fr ex bias top hf (decide (A < 0)) (2 ^ fr) (p + 1) 0 (Nat.ne_of_gt (Nat.two_pow_pos _)) (by omega) (by omega) (by omega)
      rw [hb, w, r]
      refine ⟨_, _, _, rfl, by omega, ?_, fun k => absurd k h0, fun _ => by omega⟩
      rw [unitU_val, hb, Nat.pow_zero, Nat.mul_one]
      unfold valU
      rw [show (p + 1 - ((0 : Nat) : Int) + c).toNat = (p + c).toNat + 1 by omega]
      obtain ⟨k, ek⟩ : ∃ k, k = (p + c).toNat := ⟨_, rfl⟩
      rw [← ek, cast_two, cast_two, Int.pow_succ, Int.pow_succ, Int.mul_assoc, Int.mul_comm 2]
    · have hlt : A.natAbs < 2 ^ (fr + 1) := by omega
      have hbl := (bitlen_lt A.natAbs (fr + 1)).2 hlt
      obtain ⟨_, _, hb1⟩ := bitlen_spec hn
      obtain ⟨j, ej⟩ : ∃ j, bitlen A.natAbs + j = fr + 1 := ⟨fr + 1 - bitlen A.natAbs, by omega⟩
      have r := read_write_exact fr ex bias top hf (decide (A < 0)) A.natAbs p j hn ej (by omega) (by omega)
      rw [r]
      refine ⟨_, _, _, rfl, by omega, ?_, fun k => absurd k h0, fun _ => by omega⟩
      rw [unitU_val]
      unfold valU
      have e1 : (p + c).toNat = j + (p - (j : Int) + c).toNat := by omega
      rw [e1, Int.pow_add, Int.natCast_mul, cast_two, Int.mul_assoc]
end
/-- Two numbers of known values, added and written. -/
theorem plus_val (c : Nat) {s t : Bool} {m n : Nat} {e f p A B : Int} (he : -(c : Int) ≤ e) (hf' : -(c : Int) ≤ f) (hp : -(c : Int) ≤ p) (h1 : valU c s m e = unitU c p A) (h2 : valU c t n f = unitU c p B) :
    ∃ s' m', plusD (.number s m e) (.number t n f) = .number s' m' (min e f) ∧ valU c s' m' (min e f) = unitU c p (A + B) ∧ (A + B = 0 → s' = (s && t)) := by
  obtain ⟨s', m', k1, k2, k3⟩ := valU_plus c s t m n e f he hf'
  rw [h1, h2, ← unitU_add] at k2 k3
  exact ⟨s', m', k1, k2, fun h => k3 (unitU_zero.2 h)⟩

/-! ### Whole numbers at most 2^24 in binary32 -/
theorem fi_TW (v : Int) : fi v = TW 23 8 0 v := by unfold fi TW; exact told_write 23 8 255 rfl
theorem fi_read (v : Int) (h : v.natAbs ≤ 2 ^ 24) : ∃ s m e, rd32 (fi v) = .number s m e ∧ -149 ≤ e ∧ valU 149 s m e = unitU 149 0 v ∧ (v = 0 → s = false) := by
  obtain ⟨s, m, e, h1, h2, h3, h4, -⟩ := read_val 23 8 150 255 isF32 149 (s := decide (v < 0)) (m := v.natAbs) (e := 0) (p := 0) (A := v) (by decide) (by decide) (by decide) h (by decide) (unitU_val 149 0 v).symm
  refine ⟨s, m, e, ?_, h2, h3, fun k => ?_⟩
  · rw [fi_TW]; exact h1
  · rw [h4 k, k]; rfl
theorem sign_of {c : Nat} {s : Bool} {m : Nat} {e p A : Int} (h : valU c s m e = unitU c p A) (h0 : A ≠ 0) : s = decide (A < 0) := by
  have hm : m ≠ 0 := by
    intro k
    rw [k, valU_zero] at h
    exact h0 (unitU_zero.1 h.symm)
  have h1 := (valU_ne (c := c) (s := s) (e := e) hm).2
  rw [unitU_val] at h
  rw [h, (valU_ne (c := c) (s := decide (A < 0)) (m := A.natAbs) (e := p) (by omega)).2] at h1
  exact h1.symm
theorem zero_of {c : Nat} {s : Bool} {m : Nat} {e p A : Int} (h : valU c s m e = unitU c p A) (h0 : A = 0) : m = 0 := by
  rcases Nat.eq_zero_or_pos m with hm | hm
  · exact hm
  · exact absurd (h.trans (unitU_zero.2 h0)) (valU_ne (by omega)).1
theorem told_fi {s : Bool} {m : Nat} {e v : Int} (he : -149 ≤ e) (h : valU 149 s m e = unitU 149 0 v) (h0 : v = 0 → s = false) : told32 (.number s m e) = fi v := by
  have w : told32 (.number s m e) = (fmt 23 8).write (.number s m e) := told_write 23 8 255 rfl
  by_cases k : v = 0
  · have hm := zero_of h k
    subst hm
    rw [h0 k, k, fi_zero]
    exact told_zero e
  · rw [w, write_val 23 8 150 255 isF32 149 he (by decide) k h, fi_TW]
theorem add_fi (a b : Int) (ha : a.natAbs ≤ 2 ^ 24) (hb : b.natAbs ≤ 2 ^ 24) : add32 (fi a) (fi b) = fi (a + b) := by
  obtain ⟨s, m, e, h1, h2, h3, h4⟩ := fi_read a ha
  obtain ⟨t, n, f, k1, k2, k3, k4⟩ := fi_read b hb
  obtain ⟨s', m', r1, r2, r3⟩ := plus_val 149 h2 k2 (by decide) h3 k3
  unfold add32
  rw [h1, k1, r1]
  refine told_fi (by omega) r2 fun h => ?_
  rw [r3 h]
  by_cases h0 : a = 0
  · rw [h4 h0]; rfl
  · rw [sign_of h3 h0, sign_of k3 (by omega)]
    by_cases hn : a < 0
    · rw [decide_eq_false (show ¬ b < 0 by omega), Bool.and_false]
    · rw [decide_eq_false hn, Bool.false_and]
theorem sub_fi (a b : Int) (ha : a.natAbs ≤ 2 ^ 24) (hb : b.natAbs ≤ 2 ^ 24) : sub32 (fi a) (fi b) = fi (a - b) := by
  obtain ⟨s, m, e, h1, h2, h3, h4⟩ := fi_read a ha
  obtain ⟨t, n, f, k1, k2, k3, k4⟩ := fi_read b hb
  have k5 : valU 149 (!t) n f = unitU 149 0 (-b) := by rw [valU_flip, k3, unitU_neg]
  obtain ⟨s', m', r1, r2, r3⟩ := plus_val 149 h2 k2 (by decide) h3 k5
  unfold sub32
  rw [h1, k1, show (Ieee.Datum.number t n f).opposite = .number (!t) n f from rfl, r1]
  rw [show a + -b = a - b by omega] at r2 r3
  refine told_fi (by omega) r2 fun h => ?_
  rw [r3 h]
  by_cases h0 : a = 0
  · rw [h4 h0]; rfl
  · rw [sign_of h3 h0, sign_of k3 (by omega), show b = a by omega]
    cases decide (a < 0) <;> rfl
theorem first_fi (v : Int) (h : v.natAbs ≤ 2 ^ 24) : first32 (fi v) = fi v := by
  obtain ⟨s, m, e, h1, _⟩ := fi_read v h
  have hn : (rd32 (fi v)).isNaN = false := by rw [h1]; rfl
  unfold first32
  rw [hn, if_neg (by decide)]
def isum (v : Nat → Int) : Nat → Int
  | 0 => 0
  | k + 1 => isum v k + v k
def asum (v : Nat → Int) : Nat → Nat
  | 0 => 0
  | k + 1 => asum v k + (v k).natAbs
theorem isum_abs (v : Nat → Int) : ∀ k, (isum v k).natAbs ≤ asum v k
  | 0 => Nat.le_refl _
  | k + 1 => by have := isum_abs v k; rw [isum, asum]; omega
theorem asum_mono (v : Nat → Int) {i n : Nat} (h : i ≤ n) : asum v i ≤ asum v n := by
  induction n with
  | zero => rw [show i = 0 by omega]; exact Nat.le_refl _
  | succ n ih =>
    by_cases e : i = n + 1
    · rw [e]; exact Nat.le_refl _
    · rw [asum]; have := ih (by omega); omega
theorem asum_at (v : Nat → Int) {i n : Nat} (h : i < n) : (v i).natAbs ≤ asum v n := by
  have := asum_mono v (show i + 1 ≤ n by omega)
  rw [asum] at this
  omega
theorem isum_split (v : Nat → Int) (a : Nat) : ∀ b, isum v (a + b) = isum v a + isum (fun k => v (k + a)) b
  | 0 => by rw [Nat.add_zero, isum]; omega
  | b + 1 => by
    rw [← Nat.add_assoc, isum, isum, isum_split v a b, Nat.add_comm b a]; omega
theorem asum_split (v : Nat → Int) (a : Nat) : ∀ b, asum v (a + b) = asum v a + asum (fun k => v (k + a)) b
  | 0 => by rw [Nat.add_zero, asum]; omega
  | b + 1 => by
    rw [← Nat.add_assoc, asum, asum, asum_split v a b, Nat.add_comm b a]; omega
theorem left_whole (v : Nat → Int) (x : Nat → Nat) (n : Nat) (hx : ∀ k, k < n → x k = fi (v k)) (hs : asum v n ≤ 2 ^ 24) : leftOf x n = fi (isum v n) := by
  cases n with
  | zero => rw [leftOf_zero]; exact fi_zero.symm
  | succ n =>
    rw [leftOf_succ]
    have key : ∀ k, k ≤ n → left32 x k = fi (isum v (k + 1)) := by
      intro k
      induction k with
      | zero =>
        intro _
        show first32 (x 0) = fi (0 + v 0)
        rw [hx 0 (by omega), Int.zero_add]
        exact first_fi _ (Nat.le_trans (asum_at v (by omega)) hs)
      | succ k ih =>
        intro hk
        rw [left32, ih (by omega), hx (k + 1) (by omega), add_fi _ _ (Nat.le_trans (isum_abs v (k + 1)) (Nat.le_trans (asum_mono v (by omega)) hs)) (Nat.le_trans (asum_at v (by omega)) hs)]
        rfl
    exact key n (Nat.le_refl _)
theorem pairs_whole : ∀ (n : Nat) (v : Nat → Int) (x : Nat → Nat), (∀ k, k < n → x k = fi (v k)) → asum v n ≤ 2 ^ 24 → pairsOf x n = fi (isum v n) := by
  intro n
  induction n using Nat.strongRecOn with
  | ind n ih =>
    intro v x hx hs
    rcases (show n = 0 ∨ n = 1 ∨ 2 ≤ n by omega) with rfl | rfl | h2
    · rw [pairsOf_zero]; exact fi_zero.symm
    · rw [pairsOf_one, hx 0 (by decide)]
      show _ = fi (0 + v 0)
      rw [Int.zero_add]
      exact first_fi _ (Nat.le_trans (asum_at v (by decide)) hs)
    · obtain ⟨h, eh⟩ : ∃ h, h = n / 2 := ⟨_, rfl⟩
      obtain ⟨r, er⟩ : ∃ r, r = n - h := ⟨_, rfl⟩
      have en : n = h + r := by omega
      rw [pairsOf_more x h2 eh, ← er]
      have hs2 := hs
      rw [en, asum_split] at hs2
      rw [ih h (by omega) v x (fun k hk => hx k (by omega)) (by omega), ih r (by omega) (fun k => v (k + h)) (fun k => x (k + h)) (fun k hk => hx (k + h) (by omega)) (by omega)]
      rw [add_fi _ _ (Nat.le_trans (isum_abs _ _) (by omega)) (Nat.le_trans (isum_abs _ _) (by omega)), en, isum_split]
theorem kahan_whole (v : Nat → Int) (x : Nat → Nat) (n : Nat) (hx : ∀ k, k < n → x k = fi (v k)) (hs : asum v n ≤ 2 ^ 24) : kahanOf x n = fi (isum v n) := by
  cases n with
  | zero => rw [kahanOf_zero]; exact fi_zero.symm
  | succ n =>
    rw [kahanOf_succ]
    have key : ∀ k, k ≤ n → kah x k = (fi (isum v (k + 1)), fi 0) := by
      intro k
      induction k with
      | zero =>
        intro _
        show (first32 (x 0), 0) = (fi (0 + v 0), fi 0)
        rw [hx 0 (by omega), Int.zero_add, fi_zero, first_fi _ (Nat.le_trans (asum_at v (by omega)) hs)]
      | succ k ih =>
        intro hk
        have b1 := Nat.le_trans (isum_abs v (k + 1)) (Nat.le_trans (asum_mono v (show k + 1 ≤ n + 1 by omega)) hs)
        have b2 := Nat.le_trans (asum_at v (show k + 1 < n + 1 by omega)) hs
        have b3 := Nat.le_trans (isum_abs v (k + 1 + 1)) (Nat.le_trans (asum_mono v (show k + 1 + 1 ≤ n + 1 by omega)) hs)
        have e1 : sub32 (x (k + 1)) (fi 0) = fi (v (k + 1)) := by rw [hx (k + 1) (by omega), sub_fi _ _ b2 (by decide), Int.sub_zero]
        have e2 : add32 (fi (isum v (k + 1))) (fi (v (k + 1))) = fi (isum v (k + 1 + 1)) := by rw [add_fi _ _ b1 b2]; rfl
        have e3 : sub32 (fi (isum v (k + 1 + 1))) (fi (isum v (k + 1))) = fi (v (k + 1)) := by
          rw [sub_fi _ _ b3 b1, show isum v (k + 1 + 1) - isum v (k + 1) = v (k + 1) by rw [isum]; omega]
        have e4 : sub32 (fi (v (k + 1))) (fi (v (k + 1))) = fi 0 := by rw [sub_fi _ _ b2 b2, Int.sub_self]
        rw [kah, ih (by omega)]
        simp only [e1, e2, e3, e4]
    rw [key n (Nat.le_refl _)]

theorem exp_fi (v : Int) (h : v.natAbs < 2 ^ 38) : expN (fi v) ≠ 255 ∧ fi v ≠ 2147483648 := by
  by_cases h0 : v = 0
  · rw [h0, fi_zero]; exact ⟨by decide, by decide⟩
  · have hb := bitlen_small h
    obtain ⟨m, h1, h2, -, h4, h5⟩ := tw_parts v h0 hb
    have q1 := parts_of (a := fi v) (E := bitlen v.natAbs + 126) (f := m - 8388608) (q := decide (v < 0)) (by omega) (by omega) (by omega) (by rw [h4]; by_cases h : v < 0 <;> simp [h])
    refine ⟨q1.1, ?_⟩
    clear h5 q1 h
    rw [h4]
    split <;> omega
theorem smp_fi (v : Int) (h : v.natAbs ≤ 2 ^ 24) : smp (fi v) = unitU 149 0 v := by
  have hx := (exp_fi v (Nat.lt_of_le_of_lt h (by decide))).1
  have r1 := (smp_read _ hx).resolve_right (by have := fi_lt v; omega)
  obtain ⟨s, m, e, k1, _, k3, _⟩ := fi_read v h
  rw [r1] at k1
  injection k1 with e1 e2 e3
  subst e1 e2 e3
  rw [← valZ_smp _ hx, ← k3]
  rfl
def wAc (V : Int) (n : Nat) : Ac := ⟨unitU 149 0 V, n, 0, 0, 0, 0⟩
theorem acAll_whole (v : Nat → Int) (x : Nat → Nat) (n : Nat) (hx : ∀ k, k < n → x k = fi (v k)) (hs : asum v n ≤ 2 ^ 24) : ∀ k, k ≤ n → acAll acNone x k = wAc (isum v k) k
  | 0, _ => by
    show acNone = wAc 0 0
    unfold wAc
    rw [unitU_zero.2 rfl]; rfl
  | k + 1, hk => by
    have b2 := Nat.le_trans (asum_at v (show k < n by omega)) hs
    have hx2 := exp_fi (v k) (Nat.lt_of_le_of_lt b2 (by decide))
    rw [acAll, acAll_whole v x n hx hs k (by omega), hx k (by omega), acOne_fin _ hx2.1 hx2.2, smp_fi _ b2]
    show Ac.mk (unitU 149 0 (isum v k) + unitU 149 0 (v k)) (k + 1) (0 + 0) (0 + 0) (0 + 0) (0 + 0) = _
    rw [← unitU_add]
    rfl
theorem ovr_whole (V : Int) (n : Nat) (hn : n ≠ 0 ∨ V = 0) : ovr (wAc V n) 1 = fi V := by
  obtain ⟨Z, eZ⟩ : ∃ Z, Z = unitU 149 0 V := ⟨_, rfl⟩
  unfold ovr wAc
  rw [if_neg (show ¬ (0 < 0 ∨ (0 < 0 ∧ 0 < 0)) by decide), if_neg (show ¬ 0 < 0 by decide), if_neg (show ¬ 0 < 0 by decide)]
  show (if unitU 149 0 V = 0 then (if 0 < n ∧ 0 = n then 2147483648 else 0) else if unitU 149 0 V < 0 then exR (unitU 149 0 V).natAbs 1 + 2147483648 else exR (unitU 149 0 V).natAbs 1) = _
  by_cases h0 : V = 0
  · subst h0
    rw [if_pos (unitU_zero.2 rfl), if_neg (by omega), fi_zero]
  · have hz : unitU 149 0 V ≠ 0 := fun k => h0 (unitU_zero.1 k)
    have hs := (valU_ne (c := 149) (s := decide (V < 0)) (m := V.natAbs) (e := 0) (by omega)).2
    have ha := valU_abs 149 (decide (V < 0)) V.natAbs 0
    rw [← unitU_val] at hs ha
    have h1 := told_exR (decide (V < 0)) V.natAbs 0 (by omega) (by decide)
    unfold fi
    rw [if_neg hz, h1, ha]
    rw [← eZ] at hs ⊢
    by_cases h : V < 0
    · rw [decide_eq_true h] at hs ⊢
      rw [if_pos (of_decide_eq_true hs), if_pos rfl, Nat.add_comm]
      rfl
    · rw [decide_eq_false h] at hs ⊢
      rw [if_neg (of_decide_eq_false hs), if_neg (by decide), Nat.zero_add]
      rfl
theorem exact_whole (v : Nat → Int) (x : Nat → Nat) (n : Nat) (hx : ∀ k, k < n → x k = fi (v k)) (hs : asum v n ≤ 2 ^ 24) : exactOf x n = fi (isum v n) := by
  unfold exactOf
  rw [acAll_whole v x n hx hs n (Nat.le_refl _)]
  refine ovr_whole _ _ ?_
  by_cases h : n = 0
  · right; rw [h]; rfl
  · left; exact h

theorem valU_eq {c : Nat} {q : Bool} {m m' : Nat} {e e' : Int} (h : m * 2 ^ (e + c).toNat = m' * 2 ^ (e' + c).toNat) : valU c q m e = valU c q m' e' := by
  obtain ⟨i, ei⟩ : ∃ i, i = (e + c).toNat := ⟨_, rfl⟩
  obtain ⟨j, ej⟩ : ∃ i, i = (e' + c).toNat := ⟨_, rfl⟩
  unfold valU
  rw [← ei, ← ej] at h ⊢
  have h2 : (m : Int) * 2 ^ i = (m' : Int) * 2 ^ j := by
    have h3 := congrArg (Nat.cast (R := Int)) h
    rw [Int.natCast_mul, Int.natCast_mul, cast_two i, cast_two j] at h3
    exact h3
  rw [h2]

/-! ### Products in binary64 -/
/-- b reads as A units of 2^p. -/
def ValOf (b : Nat) (p A : Int) : Prop := ∃ s m e, rd64 b = .number s m e ∧ -1074 ≤ e ∧ valU 1074 s m e = unitU 1074 p A ∧ (A ≠ 0 → p - 52 ≤ e)
/-- b is A units of 2^p. -/
def EndOf (b : Nat) (p A : Int) : Prop := (A ≠ 0 → b = TW 52 11 p A) ∧ (A = 0 → b = 0 ∨ b = 9223372036854775808)
theorem zero64 (s : Bool) (e : Int) : told64 (.number s 0 e) = 0 ∨ told64 (.number s 0 e) = 9223372036854775808 := by
  have h : told64 (.number s 0 e) = rSign 52 11 s := (told_write 52 11 2047 rfl).trans (write_zero 52 11 1075 2047 isF64 s e)
  cases s
  · left; exact h
  · right; exact h
theorem out_val {s : Bool} {m : Nat} {e p A : Int} (he : m ≠ 0 → -1074 ≤ e) (hp : -1000 ≤ p ∧ p ≤ 900) (hA : A.natAbs ≤ 2 ^ 53) (h : m ≠ 0 → valU 1074 s m e = unitU 1074 p A) (h0 : m = 0 → A = 0) :
    ValOf (told64 (.number s m e)) p A ∧ EndOf (told64 (.number s m e)) p A := by
  have w : told64 (.number s m e) = (fmt 52 11).write (.number s m e) := told_write 52 11 2047 rfl
  by_cases hm : m = 0
  · have hA0 := h0 hm
    subst hm
    refine ⟨⟨s, 0, -1074, ?_, by decide, ?_, fun k => absurd hA0 k⟩, fun k => absurd hA0 k, fun _ => zero64 s e⟩
    · rw [w]; exact read_zero 52 11 1075 2047 isF64 s e
    · rw [valU_zero, unitU_zero.2 hA0]
  · have hv := h hm
    have hA0 : A ≠ 0 := fun k => (valU_ne (c := 1074) (s := s) (e := e) hm).1 (hv.trans (unitU_zero.2 k))
    obtain ⟨s', m', e', r1, r2, r3, _, r5⟩ := read_val 52 11 1075 2047 isF64 1074 (by decide) (he hm) (p := p) (by omega) hA (by omega) hv
    refine ⟨⟨s', m', e', ?_, r2, r3, fun k => ?_⟩, fun _ => ?_, fun k => absurd k hA0⟩
    · rw [w]; exact r1
    · have := r5 k; omega
    · rw [w, write_val 52 11 1075 2047 isF64 1074 (he hm) (by omega) hA0 hv]
theorem flt_val (v : Int) (h : v.natAbs ≤ 2 ^ 53) : ValOf (flt64 v) 0 v := by
  have e1 : flt64 v = told64 (.number (decide (v < 0)) v.natAbs 0) := (told_write 52 11 2047 (d := .number (decide (v < 0)) v.natAbs 0) rfl).symm
  rw [e1]
  exact (out_val (fun _ => by decide) (by decide) h (fun _ => (unitU_val 1074 0 v).symm) (fun k => by omega)).1
theorem wide_val (a : Nat) (ha : a < 4294967296) (hx : expN a ≠ 255) : ValOf (wide64 a) (pE a) (pN a) := by
  have r1 := (smp_read _ hx).resolve_right (by omega)
  have hbd := pE_bd a
  have hpn : pN a = if sgnB a then -(pM a : Int) else (pM a : Int) := by unfold pN; rw [if_neg hx]
  have hab : (pN a).natAbs < 2 ^ 24 := pN_abs a
  unfold wide64
  rw [r1]
  refine (out_val (fun _ => by omega) (by omega) (Nat.le_trans (Nat.le_of_lt hab) (by decide)) (fun _ => ?_) (fun k => ?_)).1
  · unfold valU unitU
    rw [hpn]
    cases sgnB a
    · rfl
    · rw [if_pos rfl, if_pos rfl, Int.neg_mul]
  · rw [hpn, k]; split <;> rfl
theorem add_val {a b : Nat} {p A B : Int} (ha : ValOf a p A) (hb : ValOf b p B) (hp : -1000 ≤ p ∧ p ≤ 900) (h : (A + B).natAbs ≤ 2 ^ 53) : ValOf (add64 a b) p (A + B) ∧ EndOf (add64 a b) p (A + B) := by
  obtain ⟨s, m, e, h1, h2, h3, -⟩ := ha
  obtain ⟨t, n, f, k1, k2, k3, -⟩ := hb
  obtain ⟨s', m', r1, r2, -⟩ := plus_val 1074 h2 k2 (by omega) h3 k3
  unfold add64
  rw [h1, k1, r1]
  refine out_val (fun _ => by omega) hp h (fun _ => r2) (fun k => ?_)
  rw [k, valU_zero] at r2
  exact unitU_zero.1 r2.symm
theorem mul_val {a b : Nat} {p v X : Int} (ha : ValOf a 0 v) (hb : ValOf b p X) (hp : -400 ≤ p ∧ p ≤ 900) (h : (v * X).natAbs ≤ 2 ^ 53) : ValOf (mul64 a b) p (v * X) ∧ EndOf (mul64 a b) p (v * X) := by
  obtain ⟨s, m, e, h1, h2, h3, h4⟩ := ha
  obtain ⟨t, n, f, k1, k2, k3, k4⟩ := hb
  have hpr : ∃ q, prodD (.number s m e) (.number t n f) = .number q (m * n) (e + f) ∧ q = (s != t) := ⟨_, rfl, by cases s <;> cases t <;> rfl⟩
  obtain ⟨q, hq, eq⟩ := hpr
  unfold mul64
  rw [h1, k1, hq]
  have hz : m * n ≠ 0 → v ≠ 0 ∧ X ≠ 0 := fun k => by
    refine ⟨fun k0 => k ?_, fun k0 => k ?_⟩
    · rw [zero_of h3 k0, Nat.zero_mul]
    · rw [zero_of k3 k0, Nat.mul_zero]
  refine out_val (fun k => ?_) (by omega) h (fun k => ?_) (fun k => ?_)
  · have := h4 (hz k).1; have := k4 (hz k).2; omega
  · obtain ⟨hv0, hX0⟩ := hz k
    have b1 := h4 hv0
    have b2 := k4 hX0
    have hs := sign_of h3 hv0
    have ht := sign_of k3 hX0
    have a1 := valU_abs 1074 s m e
    have a2 := valU_abs 1074 t n f
    rw [h3, unitU_val, valU_abs] at a1
    rw [k3, unitU_val, valU_abs] at a2
    have e0 : (v * X).natAbs = v.natAbs * X.natAbs := Int.natAbs_mul _ _
    have hsg : q = decide (v * X < 0) := by
      rw [eq, hs, ht]
      by_cases hv : v < 0
      · by_cases hX : X < 0
        · have := Int.mul_pos_of_neg_of_neg hv hX
          rw [decide_eq_true hv, decide_eq_true hX, decide_eq_false (by omega)]; rfl
        · have := Int.mul_neg_of_neg_of_pos hv (show 0 < X by omega)
          rw [decide_eq_true hv, decide_eq_false hX, decide_eq_true this]; rfl
      · by_cases hX : X < 0
        · have := Int.mul_neg_of_pos_of_neg (show 0 < v by omega) hX
          rw [decide_eq_false hv, decide_eq_true hX, decide_eq_true this]; rfl
        · have := Int.mul_pos (show 0 < v by omega) (show 0 < X by omega)
          rw [decide_eq_false hv, decide_eq_false hX, decide_eq_false (by omega)]; rfl
    have key : m * n * 2 ^ (e + f + (1074 : Nat)).toNat = v.natAbs * X.natAbs * 2 ^ (p + (1074 : Nat)).toNat := by
      obtain ⟨i, ei⟩ : ∃ i, i = (e + (1074 : Nat)).toNat := ⟨_, rfl⟩
      obtain ⟨j, ej⟩ : ∃ i, i = (f + (1074 : Nat)).toNat := ⟨_, rfl⟩
      obtain ⟨k, ek⟩ : ∃ i, i = (p + (1074 : Nat)).toNat := ⟨_, rfl⟩
      obtain ⟨l, el⟩ : ∃ i, i = (e + f + (1074 : Nat)).toNat := ⟨_, rfl⟩
      obtain ⟨z, ez⟩ : ∃ i, i = ((0 : Int) + (1074 : Nat)).toNat := ⟨_, rfl⟩
      rw [← ei, ← ez] at a1
      rw [← ej, ← ek] at a2
      rw [← ek, ← el]
      have hij : i + j = l + z := by omega
      have h5 : (m * n * 2 ^ l) * 2 ^ z = (v.natAbs * X.natAbs * 2 ^ k) * 2 ^ z := by
        rw [Nat.mul_assoc (m * n), ← Nat.pow_add, ← hij, Nat.pow_add, show m * n * (2 ^ i * 2 ^ j) = (m * 2 ^ i) * (n * 2 ^ j) by grind, ← a1, ← a2]
        grind
      exact Nat.eq_of_mul_eq_mul_right (Nat.two_pow_pos z) h5
    rw [unitU_val, e0, ← hsg]
    exact valU_eq key
  · rcases Nat.mul_eq_zero.1 k with k | k
    · subst k
      rw [valU_zero] at h3
      rw [unitU_zero.1 h3.symm, Int.zero_mul]
    · subst k
      rw [valU_zero] at k3
      rw [unitU_zero.1 k3.symm, Int.mul_zero]

/-- A sample with whole weights. -/
theorem dots_whole (y : Nat → Int) (x : Nat → Nat) (n a : Nat) (ha : a < 4294967296) (hx : expN a ≠ 255) (hxs : ∀ k, k < n → x k = a) (hs : asum y n ≤ 268435456) :
    ∀ k, k < n → ValOf (dots y x k) (pE a) (isum y (k + 1) * pN a) ∧ EndOf (dots y x k) (pE a) (isum y (k + 1) * pN a) := by
  have hbd := pE_bd a
  have hab := pN_abs a
  have hw := wide_val a ha hx
  have small : ∀ z : Int, z.natAbs ≤ 268435456 → (z * pN a).natAbs ≤ 2 ^ 53 := fun z hz => by
    rw [Int.natAbs_mul]
    exact Nat.le_trans (Nat.mul_le_mul hz (Nat.le_of_lt hab)) (by decide)
  have hm : ∀ k, k < n → ValOf (mul64 (flt64 (y k)) (wide64 (x k))) (pE a) (y k * pN a) ∧ EndOf (mul64 (flt64 (y k)) (wide64 (x k))) (pE a) (y k * pN a) := fun k hk => by
    have h1 := Nat.le_trans (asum_at y hk) hs
    rw [hxs k hk]
    exact mul_val (flt_val (y k) (Nat.le_trans h1 (by decide))) hw (by omega) (small _ h1)
  intro k
  induction k with
  | zero =>
    intro hk
    have := hm 0 hk
    rw [show isum y (0 + 1) = y 0 by show 0 + y 0 = y 0; omega]
    exact this
  | succ k ih =>
    intro hk
    have h1 := (ih (by omega)).1
    have h2 := (hm (k + 1) hk).1
    have h3 := Nat.le_trans (isum_abs y (k + 1 + 1)) (Nat.le_trans (asum_mono y (show k + 1 + 1 ≤ n by omega)) hs)
    have e : isum y (k + 1 + 1) * pN a = isum y (k + 1) * pN a + y (k + 1) * pN a := by rw [← Int.add_mul]; rfl
    have h4 := small _ h3
    rw [e] at h4 ⊢
    exact add_val h1 h2 (by omega) h4
theorem dot_whole (y : Nat → Int) (x : Nat → Nat) (n a : Nat) (ha : a < 4294967296) (hx : expN a ≠ 255) (hxs : ∀ k, k < n → x k = a) (hs : asum y n ≤ 268435456) :
    EndOf (dotOf64 y x n) (pE a) (isum y n * pN a) := by
  cases n with
  | zero => exact ⟨fun h => absurd (Int.zero_mul _) h, fun _ => .inl rfl⟩
  | succ n => rw [dotOf64_succ]; exact (dots_whole y x (n + 1) a ha hx hxs hs n (by omega)).2
/-- What the reference tells of it. -/
theorem want_whole (a : Nat) (hx : expN a ≠ 255) (V : Int) (hV : V.natAbs ≤ 268435456) : EndOf (told64 (.number (sgnB a != decide (V < 0)) (pM a * V.natAbs) (pE a))) (pE a) (V * pN a) := by
  have hbd := pE_bd a
  have hab := pN_abs a
  have hpn : pN a = if sgnB a then -(pM a : Int) else (pM a : Int) := by unfold pN; rw [if_neg hx]
  have hA : (V * pN a).natAbs ≤ 2 ^ 53 := by
    rw [Int.natAbs_mul]
    exact Nat.le_trans (Nat.mul_le_mul hV (Nat.le_of_lt hab)) (by decide)
  have hval : valU 1074 (sgnB a != decide (V < 0)) (pM a * V.natAbs) (pE a) = unitU 1074 (pE a) (V * pN a) := by
    unfold valU unitU
    obtain ⟨P, eP⟩ : ∃ P : Int, P = 2 ^ (pE a + (1074 : Nat)).toNat := ⟨_, rfl⟩
    rw [← eP, hpn, Int.natCast_mul]
    obtain ⟨M, eM⟩ : ∃ M : Int, M = (pM a : Int) := ⟨_, rfl⟩
    rw [← eM]
    by_cases hv : V < 0
    · rw [decide_eq_true hv, show (V.natAbs : Int) = -V by omega]
      cases sgnB a
      · rw [if_pos (by decide), if_neg (by decide)]; grind
      · rw [if_neg (by decide), if_pos (by decide)]; grind
    · rw [decide_eq_false hv, show (V.natAbs : Int) = V by omega]
      cases sgnB a
      · rw [if_neg (by decide), if_neg (by decide)]; grind
      · rw [if_pos (by decide), if_pos (by decide)]; grind
  refine (out_val (fun _ => by omega) (by omega) hA (fun _ => hval) (fun k => ?_)).2
  rw [k, valU_zero] at hval
  exact unitU_zero.1 hval.symm
/-- The two of them meet, or both are a zero. -/
theorem ends_meet {b d : Nat} {p A : Int} (h : EndOf b p A) (k : EndOf d p A) : b = d ∨ ((b = 0 ∨ b = 9223372036854775808) ∧ (d = 0 ∨ d = 9223372036854775808)) := by
  by_cases h0 : A = 0
  · exact .inr ⟨h.2 h0, k.2 h0⟩
  · left; rw [h.1 h0, k.1 h0]
end Go.Proofs.Ytmeifciagepmpaa
