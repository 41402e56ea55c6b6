/- The plain law of WarpThen: lowest numbers, composition and inverse. -/
import Derived.Test.YtdcpeeolfgohmaaWmAC
namespace Go.Proofs.Ytdcpeeolfgohmaa
open Go.RowKit
set_option linter.unusedSimpArgs false
set_option linter.unusedVariables false

/-- Every number c times. -/
def wpMul (c : Int) (t : Wp) : Wp := ⟨c * t.A, c * t.B, c * t.C, c * t.D, c * t.E, c * t.F, c * t.Q⟩
def wpOne : Wp := ⟨1, 0, 0, 0, 1, 0, 1⟩
theorem wp_ext {s t : Wp} (hA : s.A = t.A) (hB : s.B = t.B) (hC : s.C = t.C) (hD : s.D = t.D) (hE : s.E = t.E) (hF : s.F = t.F) (hQ : s.Q = t.Q) : s = t := by
  cases s; cases t; simp_all
theorem wpN_mul (c : Int) (t : Wp) (k : Nat) : wpN (wpMul c t) k = c * wpN t k := by
  unfold wpN
  split <;> rfl
theorem gcdTo_mul (c : Int) (t : Wp) : ∀ k, gcdTo (wpMul c t) k = c.natAbs * gcdTo t k
  | 0 => by simp [gcdTo]
  | k + 1 => by
    rw [gcdTo, gcdTo, gcdTo_mul c t k, wpN_mul]
    have h1 : (((c.natAbs * gcdTo t k : Nat) : Int)).gcd (c * wpN t k) = Int.gcd (c * (gcdTo t k : Int)) (c * wpN t k) := by
      unfold Int.gcd
      congr 1
      simp [Int.natAbs_mul]
    rw [h1, Int.gcd_mul_left]
theorem lowG_mul (c : Int) (t : Wp) (hc : c ≠ 0) (hq : t.Q ≠ 0) : lowG (wpMul c t) = c * lowG t := by
  unfold lowG gcd7
  rw [gcdTo_mul]
  have hQ : (wpMul c t).Q = c * t.Q := rfl
  rw [hQ]
  push_cast
  rcases Int.lt_or_gt_of_ne hc with h | h <;> rcases Int.lt_or_gt_of_ne hq with k | k
  · rw [if_neg (by have := Int.mul_pos_of_neg_of_neg h k; omega), if_pos k, Int.ofNat_natAbs_of_nonpos (by omega)]
    rw [Int.neg_mul, Int.mul_neg]
  · rw [if_pos (Int.mul_neg_of_neg_of_pos h k), if_neg (by omega), Int.ofNat_natAbs_of_nonpos (by omega)]
    rw [Int.neg_mul, Int.neg_neg]
  · rw [if_pos (Int.mul_neg_of_pos_of_neg h k), if_pos k, Int.natAbs_of_nonneg (by omega), Int.mul_neg]
  · rw [if_neg (by have := Int.mul_pos h k; omega), if_neg (by omega), Int.natAbs_of_nonneg (by omega)]
theorem lowG_ne {t : Wp} (hq : t.Q ≠ 0) : lowG t ≠ 0 := by
  have := gcd7_pos hq
  unfold lowG
  split <;> omega
theorem lowG_dvd (t : Wp) (k : Nat) (hk : k < 7) : lowG t ∣ wpN t k := by
  have h := gcdTo_dvd t 7 k hk
  unfold lowG gcd7
  split
  · exact Int.neg_dvd.2 h
  · exact h
theorem wpMul_low {t : Wp} (hq : t.Q ≠ 0) : wpMul (lowG t) (lowW t) = t := by
  have k : ∀ x, lowG t ∣ x → lowG t * x.tdiv (lowG t) = x := fun x h => Int.mul_tdiv_cancel' h
  exact wp_ext (k _ (lowG_dvd t 0 (by omega))) (k _ (lowG_dvd t 1 (by omega))) (k _ (lowG_dvd t 2 (by omega))) (k _ (lowG_dvd t 3 (by omega))) (k _ (lowG_dvd t 4 (by omega))) (k _ (lowG_dvd t 5 (by omega))) (k _ (lowG_dvd t 6 (by omega)))
/-- The lowest numbers do not see a factor. -/
theorem lowW_mul {c : Int} {t : Wp} (hc : c ≠ 0) (hq : t.Q ≠ 0) : lowW (wpMul c t) = lowW t := by
  have hg := lowG_ne hq
  have k : ∀ x, lowG t ∣ x → (c * x).tdiv (c * lowG t) = x.tdiv (lowG t) := fun x ⟨y, h⟩ => by
    rw [h, ← Int.mul_assoc, Int.mul_tdiv_cancel_left _ (Int.mul_ne_zero hc hg), Int.mul_tdiv_cancel_left _ hg]
  unfold lowW
  rw [lowG_mul c t hc hq]
  unfold wpDiv wpMul
  rw [k t.A (lowG_dvd t 0 (by omega)), k t.B (lowG_dvd t 1 (by omega)), k t.C (lowG_dvd t 2 (by omega)), k t.D (lowG_dvd t 3 (by omega)), k t.E (lowG_dvd t 4 (by omega)), k t.F (lowG_dvd t 5 (by omega)), k t.Q (lowG_dvd t 6 (by omega))]
theorem lowW_same {c d : Int} {s t : Wp} (h : wpMul c s = wpMul d t) (hc : c ≠ 0) (hd : d ≠ 0) (hs : s.Q ≠ 0) (ht : t.Q ≠ 0) : lowW s = lowW t := by rw [← lowW_mul hc hs, h, lowW_mul hd ht]
theorem wpMul_mul (c d : Int) (t : Wp) : wpMul c (wpMul d t) = wpMul (c * d) t := by unfold wpMul; apply wp_ext <;> exact (Int.mul_assoc _ _ _).symm
theorem thenC_mulL (c : Int) (s t : Wp) : thenC (wpMul c s) t = wpMul c (thenC s t) := by unfold wpMul thenC; apply wp_ext <;> dsimp only <;> grind
theorem thenC_mulR (c : Int) (s t : Wp) : thenC s (wpMul c t) = wpMul c (thenC s t) := by unfold wpMul thenC; apply wp_ext <;> dsimp only <;> grind
theorem thenC_assoc (r s t : Wp) : thenC (thenC r s) t = thenC r (thenC s t) := by unfold thenC; apply wp_ext <;> dsimp only <;> grind
theorem backC_mul (c : Int) (t : Wp) : backC (wpMul c t) = wpMul (c * c) (backC t) := by unfold wpMul backC; apply wp_ext <;> dsimp only <;> grind
theorem backC_back (t : Wp) : backC (backC t) = wpMul (t.Q * (t.A * t.E - t.B * t.D)) t := by unfold wpMul backC; apply wp_ext <;> dsimp only <;> grind
theorem then_back (t : Wp) : thenC t (backC t) = wpMul (t.Q * (t.A * t.E - t.B * t.D)) wpOne := by unfold wpMul thenC backC wpOne; apply wp_ext <;> dsimp only <;> grind
theorem back_then (t : Wp) : thenC (backC t) t = wpMul (t.Q * (t.A * t.E - t.B * t.D)) wpOne := by unfold wpMul thenC backC wpOne; apply wp_ext <;> dsimp only <;> grind
theorem lowG_one : lowG wpOne = 1 := by
  have h : gcd7 wpOne = 1 := by simp [gcd7, gcdTo, wpN, wpOne]
  unfold lowG
  rw [h]
  decide
theorem low_one : lowW wpOne = wpOne := by
  unfold lowW
  rw [lowG_one]
  exact wp_ext (by decide) (by decide) (by decide) (by decide) (by decide) (by decide) (by decide)
theorem ok_one : wpOk wpOne = true := by decide

/-- What a call that went well has told. -/
theorem told_ok {t : Wp} (h : (toldW' t).2 = 0) : t.Q ≠ 0 ∧ wpOk (lowW t) = true ∧ (toldW' t).1 = lowW t := by
  unfold toldW' at h ⊢
  by_cases hc : t.Q = 0 ∨ wpOk (lowW t) = false
  · rw [if_pos hc] at h; exact absurd h (by decide)
  · rw [if_neg hc]
    refine ⟨fun h => hc (.inl h), ?_, rfl⟩
    cases he : wpOk (lowW t) with
    | true => rfl
    | false => exact absurd (.inr he) hc
theorem then_ok {s t : Wp} (h : (thenW s t).2 = 0) : wpOk s = true ∧ wpOk t = true ∧ (thenC s t).Q ≠ 0 ∧ wpOk (thenW s t).1 = true ∧ (thenW s t).1 = lowW (thenC s t) := by
  unfold thenW at h ⊢
  by_cases hc : wpOk s = true ∧ wpOk t = true
  · rw [if_pos hc] at h ⊢
    obtain ⟨h1, h2, h3⟩ := told_ok h
    exact ⟨hc.1, hc.2, h1, by rw [h3]; exact h2, h3⟩
  · rw [if_neg hc] at h; exact absurd h (by decide)
theorem back_ok {t : Wp} (h : (backW t).2 = 0) : wpOk t = true ∧ (backC t).Q ≠ 0 ∧ wpOk (backW t).1 = true ∧ (backW t).1 = lowW (backC t) := by
  unfold backW at h ⊢
  by_cases hc : wpOk t = true
  · rw [if_pos hc] at h ⊢
    obtain ⟨h1, h2, h3⟩ := told_ok h
    exact ⟨hc, h1, by rw [h3]; exact h2, h3⟩
  · rw [if_neg hc] at h; exact absurd h (by decide)
theorem ok_Q {t : Wp} (h : wpOk t = true) : t.Q ≠ 0 := by have := (wpOk_in h).2.1; omega
theorem thenC_Q (s t : Wp) : (thenC s t).Q = s.Q * t.Q := rfl
/-- Three warps go together in both ways. -/
theorem then_assoc {r s t : Wp} (h1 : (thenW r s).2 = 0) (h2 : (thenW s t).2 = 0) (h3 : (thenW (thenW r s).1 t).2 = 0) (h4 : (thenW r (thenW s t).1).2 = 0) : (thenW (thenW r s).1 t).1 = (thenW r (thenW s t).1).1 := by
  obtain ⟨-, -, a1, -, a2⟩ := then_ok h1
  obtain ⟨-, -, b1, -, b2⟩ := then_ok h2
  obtain ⟨-, -, c1, -, c2⟩ := then_ok h3
  obtain ⟨-, -, d1, -, d2⟩ := then_ok h4
  rw [c2, d2]
  have ea : wpMul (lowG (thenC r s)) (thenW r s).1 = thenC r s := by rw [a2]; exact wpMul_low a1
  have eb : wpMul (lowG (thenC s t)) (thenW s t).1 = thenC s t := by rw [b2]; exact wpMul_low b1
  refine lowW_same (c := lowG (thenC r s)) (d := lowG (thenC s t)) ?_ (lowG_ne a1) (lowG_ne b1) c1 d1
  rw [← thenC_mulL, ← thenC_mulR, ea, eb, thenC_assoc]
/-- Back and back is the normal one. -/
theorem back_back {t : Wp} (h1 : (backW t).2 = 0) (h2 : (backW (backW t).1).2 = 0) : (backW (backW t).1).1 = (normW t).1 ∧ (normW t).2 = 0 := by
  obtain ⟨a0, a1, -, a2⟩ := back_ok h1
  obtain ⟨-, b1, -, b2⟩ := back_ok h2
  have ht := ok_Q a0
  have hn : normW t = (lowW t, 0) := if_pos a0
  rw [hn]
  refine ⟨?_, rfl⟩
  rw [b2]
  have ea : wpMul (lowG (backC t)) (backW t).1 = backC t := by rw [a2]; exact wpMul_low a1
  have hg := lowG_ne a1
  refine lowW_same (c := lowG (backC t) * lowG (backC t)) (d := t.Q * (t.A * t.E - t.B * t.D)) ?_ (Int.mul_ne_zero hg hg) (Int.mul_ne_zero ht a1) b1 ht
  rw [← backC_mul, ea, backC_back]
/-- A warp and its back are nothing. -/
theorem then_none {t : Wp} (h1 : (backW t).2 = 0) : thenW t (backW t).1 = (wpOne, 0) ∧ thenW (backW t).1 t = (wpOne, 0) := by
  obtain ⟨a0, a1, a3, a2⟩ := back_ok h1
  have ht := ok_Q a0
  have hu := ok_Q a3
  have ea : wpMul (lowG (backC t)) (backW t).1 = backC t := by rw [a2]; exact wpMul_low a1
  have hg := lowG_ne a1
  have hd : t.Q * (t.A * t.E - t.B * t.D) ≠ 0 := Int.mul_ne_zero ht a1
  have q1 : (thenC t (backW t).1).Q ≠ 0 := Int.mul_ne_zero ht hu
  have q2 : (thenC (backW t).1 t).Q ≠ 0 := Int.mul_ne_zero hu ht
  have e1 : lowW (thenC t (backW t).1) = wpOne := by
    rw [← low_one]
    exact lowW_same (c := lowG (backC t)) (d := t.Q * (t.A * t.E - t.B * t.D)) (by rw [← thenC_mulR, ea, then_back]) hg hd q1 (by decide)
  have e2 : lowW (thenC (backW t).1 t) = wpOne := by
    rw [← low_one]
    exact lowW_same (c := lowG (backC t)) (d := t.Q * (t.A * t.E - t.B * t.D)) (by rw [← thenC_mulL, ea, back_then]) hg hd q2 (by decide)
  have told1 : ∀ s : Wp, s.Q ≠ 0 → lowW s = wpOne → toldW' s = (wpOne, 0) := fun s hs he => by
    unfold toldW'
    rw [he, ok_one, if_neg (by simp [hs])]
  exact ⟨by unfold thenW; rw [if_pos ⟨a0, a3⟩]; exact told1 _ q1 e1, by unfold thenW; rw [if_pos ⟨a3, a0⟩]; exact told1 _ q2 e2⟩
end Go.Proofs.Ytdcpeeolfgohmaa
