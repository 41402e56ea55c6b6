/- Plain: what shares are. No program is in sight. -/
import Derived.Test.YtbogemlkdncafaaKnownW
namespace Go.Proofs.Ytbogemlkdncafaa
set_option linter.unusedSimpArgs false
set_option linter.unusedVariables false

theorem sumTo_add (f g : Nat → Int) : ∀ n, sumTo (fun k => f k + g k) n = sumTo f n + sumTo g n
  | 0 => rfl
  | n + 1 => by rw [sumTo, sumTo, sumTo, sumTo_add f g n]; omega
theorem sumTo_mul (c : Int) (f : Nat → Int) : ∀ n, sumTo (fun k => c * f k) n = c * sumTo f n
  | 0 => by simp [sumTo]
  | n + 1 => by rw [sumTo, sumTo, sumTo_mul c f n, Int.mul_add]
theorem sumTo_count (S : Nat → Bool) : ∀ n, sumTo (fun k => ((S k).toNat : Int)) n = (countTo S n : Int)
  | 0 => rfl
  | n + 1 => by rw [sumTo, countTo, sumTo_count S n]; omega
theorem sumTo_le {f g : Nat → Int} : ∀ n, (∀ k, k < n → f k ≤ g k) → sumTo f n ≤ sumTo g n
  | 0, _ => Int.le_refl _
  | n + 1, h => by
    have h1 := sumTo_le n fun k hk => h k (by omega)
    have h2 := h n (by omega)
    rw [sumTo, sumTo]; omega
theorem sumTo_one (c : Int) (a : Nat) : ∀ n, sumTo (fun k => if k = a then c else 0) n = if a < n then c else 0
  | 0 => by simp [sumTo]
  | n + 1 => by
    rw [sumTo, sumTo_one c a n]
    by_cases h : n = a
    · subst h; simp
    · by_cases h2 : a < n
      · rw [if_pos h2, if_neg h, if_pos (by omega)]; omega
      · rw [if_neg h2, if_neg h, if_neg (by omega)]; omega

theorem keyOf_at (x : Nat → Int) (s : Int) (k : Nat) : keyOf x s (k : Int) = 65536 * x k - shOf x s k * s := by
  unfold keyOf restOf; rw [Int.toNat_natCast]
theorem keyOf_bd (x : Nat → Int) (s : Int) (hs : 1 ≤ s) (k : Nat) : 0 ≤ keyOf x s (k : Int) ∧ keyOf x s (k : Int) ≤ s - 1 := by
  rw [keyOf_at]
  have h1 := Int.mul_ediv_self_le (x := 65536 * x k) (k := s) (by omega)
  have h2 := Int.lt_mul_ediv_self_add (x := 65536 * x k) (k := s) (by omega)
  have e : shOf x s k * s = s * (65536 * x k / s) := Int.mul_comm _ _
  omega
theorem keyOf_sum (x : Nat → Int) (s : Int) (n : Nat) : sumTo (fun k => keyOf x s (k : Int)) n = 65536 * sumTo x n - s * sumTo (shOf x s) n := by
  induction n with
  | zero => simp [sumTo]
  | succ n ih =>
    rw [sumTo, sumTo, sumTo, ih, keyOf_at, Int.mul_add, Int.mul_add, Int.mul_comm (shOf x s n) s]; omega

/-- A raised share had a rest. -/
theorem raised_rest {x : Nat → Int} {n : Nat} {S : Nat → Bool} (hs : 1 ≤ sumTo x n) (hn : 1 ≤ n) (ts : TopSet (keyOf x (sumTo x n)) n (65536 - sumTo (shOf x (sumTo x n)) n).toNat S) {a : Nat} (ha : a < n) (hS : S a = true) : 1 ≤ keyOf x (sumTo x n) (a : Int) := by
  obtain ⟨s, es⟩ : ∃ s, s = sumTo x n := ⟨_, rfl⟩
  have hl := left_bd (x := x) (s := s) (n := n) (by omega) hn es
  have hsum := keyOf_sum x s n
  rw [← es] at ts hs hsum ⊢
  obtain ⟨z, ez⟩ : ∃ z, z = sumTo (shOf x s) n := ⟨_, rfl⟩
  rw [← ez] at ts hl hsum
  have hb := keyOf_bd x s hs
  have hcnt : (countTo S n : Int) = 65536 - z := by rw [ts.cnt, Int.toNat_of_nonneg hl.1]
  rcases Int.lt_or_le (keyOf x s (a : Int)) 1 with h0 | h0
  · exfalso
    have ha0 : keyOf x s (a : Int) = 0 := by have := (hb a).1; omega
    have hle : ∀ k, k < n → keyOf x s (k : Int) + (if k = a then s - 1 else 0) ≤ (s - 1) * ((S k).toNat : Int) := fun k hk => by
      by_cases e : k = a
      · subst e; rw [if_pos rfl, ha0, hS]; simp
      · rw [if_neg e]
        cases hk2 : S k with
        | true => have := (hb k).2; simp; omega
        | false =>
          have := ts.top a k ha hk hS hk2
          have h3 := (hb k).1
          simp only [Ahead] at this
          simp; omega
    have h1 := sumTo_le n hle
    rw [sumTo_add, sumTo_one, if_pos ha, sumTo_mul, sumTo_count, hsum, hcnt] at h1
    have e1 : 65536 * s - s * z = s * (65536 - z) := by rw [Int.mul_sub, Int.mul_comm s 65536]
    have e2 : (s - 1) * (65536 - z) = s * (65536 - z) - (65536 - z) := by rw [Int.sub_mul]; omega
    have h2 : 1 ≤ countTo S n := by
      rcases Nat.eq_zero_or_pos (countTo S n) with h | h
      · have := (countTo_le (S := fun _ => false) (T := S) n (fun k _ hk => by cases hk)).2 (by rw [countTo_none n fun _ _ => rfl, h]) a ha
        rw [hS] at this; cases this
      · exact h
    omega
  · exact h0

structure SharePlain (x : Nat → Int) (n : Nat) (y : Nat → Int) : Prop where
  bd : ∀ k, k < n → -72057594037927937 ≤ y k ∧ y k ≤ 72057594037927937
  near : ∀ k, k < n → -sumTo x n < y k * sumTo x n - 65536 * x k ∧ y k * sumTo x n - 65536 * x k < sumTo x n
  fair : ∀ k i, k < i → i < n → x k = x i → y k = y i ∨ y k = y i + 1
  sum : sumTo y n = 65536
  pos : ∀ k, k < n → 0 ≤ x k → 0 ≤ y k

theorem shares_plain {x : Nat → Int} {n : Nat} {y : Nat → Int} (ok : ShareOk x n) (h : IsShares x n y) : SharePlain x n y := by
  obtain ⟨S, ts, hy⟩ := h
  have hs := ok.2.2.2
  have hrr : ∀ a, a < n → S a = true → 1 ≤ keyOf x (sumTo x n) (a : Int) := fun a ha hS => raised_rest hs ok.1 ts ha hS
  have hl := left_bd (x := x) (s := sumTo x n) (n := n) hs ok.1 rfl
  have hb := keyOf_bd x (sumTo x n) hs
  refine ⟨fun k hk => ?_, fun k hk => ?_, fun k i hki hi he => ?_, ?_, fun k hk hx => ?_⟩
  · have h1 := sh_bd hs (ok.2.2.1 k hk)
    rw [hy k hk, sharesOf]
    cases S k <;> simp <;> omega
  · have h1 := hb k
    rw [keyOf_at] at h1
    rw [hy k hk, sharesOf, Int.add_mul]
    cases hS : S k with
    | true => have h2 := hrr k hk hS; rw [keyOf_at] at h2; simp; omega
    | false => simp; omega
  · have e1 : shOf x (sumTo x n) k = shOf x (sumTo x n) i := by unfold shOf; rw [he]
    rw [hy k (by omega), hy i hi, sharesOf, sharesOf, e1]
    cases hi2 : S i with
    | false => cases hk2 : S k <;> simp
    | true =>
      cases hk2 : S k with
      | true => simp
      | false =>
        have := ts.top i k hi (by omega) hi2 hk2
        simp only [Ahead, keyOf_at] at this
        rw [he, e1] at this
        omega
  · rw [sumTo_congr (g := fun k => shOf x (sumTo x n) k + ((S k).toNat : Int)) n fun k hk => by rw [hy k hk, sharesOf], sumTo_add, sumTo_count, ts.cnt, Int.toNat_of_nonneg hl.1]
    omega
  · rw [hy k hk, sharesOf]
    have : 0 ≤ shOf x (sumTo x n) k := Int.ediv_nonneg (by omega) (by omega)
    omega
end Go.Proofs.Ytbogemlkdncafaa
