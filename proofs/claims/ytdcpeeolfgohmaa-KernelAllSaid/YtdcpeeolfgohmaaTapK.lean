/- Plain: the kernels' taps: the range that holds them all; few, small weights whose sum is above 0. -/
import Derived.Test.YtdcpeeolfgohmaaTapP
import Derived.Test.YtdcpeeolfgohmaaOf
namespace Go.Proofs.Ytdcpeeolfgohmaa
set_option linter.unusedSimpArgs false
set_option linter.unusedVariables false

theorem countTo_ge {S : Nat → Bool} {u M : Nat} : ∀ n, u + M ≤ n → (∀ k, u ≤ k → k < u + M → S k = true) → M ≤ countTo S n
  | 0, h, _ => by omega
  | n + 1, h, hS => by
    rw [countTo]
    by_cases e : u + M ≤ n
    · have := countTo_ge n e hS; omega
    · cases M with
      | zero => omega
      | succ M =>
        have h1 := countTo_ge (u := u) (M := M) n (by omega) fun k h1 h2 => hS k h1 (by omega)
        rw [hS n (by omega) (by omega)]
        simp; omega
theorem countTo_win {S : Nat → Bool} {u M : Nat} : ∀ n, (∀ k, k < n → S k = true → u ≤ k ∧ k < u + M) → countTo S n ≤ M ∧ countTo S n ≤ n - u
  | 0, _ => by simp [countTo]
  | n + 1, h => by
    have ih := countTo_win n fun k hk => h k (by omega)
    rw [countTo]
    cases hS : S n with
    | false => simp; omega
    | true =>
      have := h n (by omega) hS
      simp; omega
theorem countTo_or {S T : Nat → Bool} : ∀ n, countTo (fun k => S k || T k) n ≤ countTo S n + countTo T n
  | 0 => by simp [countTo]
  | n + 1 => by
    have := countTo_or (S := S) (T := T) n
    rw [countTo, countTo, countTo]
    cases S n <;> cases T n <;> simp <;> omega

theorem sq_nn (a : Int) : 0 ≤ a * a := by
  rcases Int.le_total 0 a with h | h
  · exact Int.mul_nonneg h h
  · have := Int.mul_nonneg (by omega : 0 ≤ -a) (by omega : 0 ≤ -a)
    rwa [Int.neg_mul_neg] at this

/-! ### The cubic kernel's bounds -/
theorem cubicIn_ge (a b : Int) (ha : 0 ≤ a) (hab : a ≤ b) : 0 ≤ wCubicIn a b := by
  have e : wCubicIn a b = (b - a) * (2 * (b * b) + 2 * (a * b) - 3 * (a * a)) := by unfold wCubicIn; grind
  rw [e]
  refine Int.mul_nonneg (by omega) ?_
  have h1 : a * a ≤ a * b := Int.mul_le_mul_of_nonneg_left hab ha
  have h2 : a * b ≤ b * b := Int.mul_le_mul_of_nonneg_right hab (by omega)
  have h3 : 0 ≤ a * a := Int.mul_nonneg ha ha
  omega
theorem cubicIn_le (a b : Int) (ha : 0 ≤ a) (hab : a ≤ b) : wCubicIn a b ≤ 2 * (b * b * b) := by
  have e : wCubicIn a b = 2 * (b * b * b) - (a * a) * (5 * b - 3 * a) := by unfold wCubicIn; grind
  rw [e]
  have := Int.mul_nonneg (Int.mul_nonneg ha ha) (by omega : 0 ≤ 5 * b - 3 * a)
  omega
theorem cubicIn_core (a m : Int) (ha : 0 ≤ a) (ham : a ≤ m) : 72 * (m * m * m) ≤ 8 * wCubicIn a (2 * m) := by
  have e : 8 * wCubicIn a (2 * m) = 72 * (m * m * m) + 8 * ((m - a) * (7 * (m * m) + 7 * (a * m) - 3 * (a * a))) := by unfold wCubicIn; grind
  rw [e]
  have h1 : a * a ≤ a * m := Int.mul_le_mul_of_nonneg_left ham ha
  have h3 : 0 ≤ m * m := Int.mul_nonneg (by omega) (by omega)
  have h4 : 0 ≤ a * a := Int.mul_nonneg ha ha
  have := Int.mul_nonneg (by omega : 0 ≤ m - a) (by omega : 0 ≤ 7 * (m * m) + 7 * (a * m) - 3 * (a * a))
  omega
theorem cubicOut_le (a b : Int) (hb : b ≤ a) : wCubicOut a b ≤ 0 := by
  have e : wCubicOut a b = -((a - b) * ((2 * b - a) * (2 * b - a))) := by unfold wCubicOut; grind
  have := Int.mul_nonneg (by omega : 0 ≤ a - b) (sq_nn (2 * b - a))
  omega
theorem cubicOut_ge (a b : Int) (hb : b ≤ a) (ha : a ≤ 2 * b) : -(4 * (b * b * b)) ≤ 27 * wCubicOut a b := by
  have e : 27 * wCubicOut a b = -(4 * (b * b * b)) + (2 * (a - b) - (2 * b - a)) * (2 * (a - b) - (2 * b - a)) * ((a - b) + 4 * (2 * b - a)) := by unfold wCubicOut; grind
  have := Int.mul_nonneg (sq_nn (2 * (a - b) - (2 * b - a))) (by omega : 0 ≤ (a - b) + 4 * (2 * b - a))
  omega

theorem cube_mono {b : Int} (h0 : 0 ≤ b) (h : b ≤ 2048) : 0 ≤ b * b * b ∧ b * b * b ≤ 8589934592 := by
  have := cube_bd (a := b) (b := b) (c := b) (A := 2048) (B := 2048) (C := 2048) (by omega) h (by omega) h (by omega) h
  have := Int.mul_nonneg (Int.mul_nonneg h0 h0) h0
  omega
theorem wK_bd (kind a b : Int) (h0 : 0 ≤ b) (h : b ≤ 2048) : -17179869184 ≤ wK kind a b ∧ wK kind a b ≤ 17179869184 := by
  have hc := cube_mono h0 h
  unfold wK
  split
  · split
    · have e : wBox b = 2 * (b * b * b) := by unfold wBox; grind
      omega
    · omega
  · split
    · split
      · rename_i hm
        have h1 : 0 ≤ max a (-a) := by omega
        have e : wTent (max a (-a)) b = 2 * ((b - max a (-a)) * (b * b)) := by unfold wTent; grind
        have h2 : (b - max a (-a)) * (b * b) ≤ b * (b * b) := Int.mul_le_mul_of_nonneg_right (by omega) (Int.mul_nonneg h0 h0)
        have h3 : 0 ≤ (b - max a (-a)) * (b * b) := Int.mul_nonneg (by omega) (Int.mul_nonneg h0 h0)
        have e2 : b * (b * b) = b * b * b := by grind
        omega
      · omega
    · split
      · have h1 := cubicIn_ge (max a (-a)) b (by omega) (by omega)
        have h2 := cubicIn_le (max a (-a)) b (by omega) (by omega)
        omega
      · split
        · have h1 := cubicOut_le (max a (-a)) b (by omega)
          have h2 := cubicOut_ge (max a (-a)) b (by omega) (by omega)
          omega
        · omega

/-! ### A sum of them over places a step apart -/
/-- The sum of the cubic kernel's weights at A, A + h, A + 2 h .. is above 0, if the range holds all. -/
theorem cubic_sum (m h A : Int) (K : Nat) (hm : 1 ≤ m) (hh0 : 2 ≤ h) (hh : h ≤ 2 * m) (hA : A ≤ -(4 * m)) (hK : 4 * m < A + h * K) : 0 < sumTo (fun k => wK 3 (A + h * k) (2 * m)) K := by
  obtain ⟨q, hq⟩ : ∃ q, q = 2 * m / h := ⟨_, rfl⟩
  have q1 : h * q ≤ 2 * m := by rw [hq]; exact Int.mul_ediv_self_le (by omega)
  have q2 : 2 * m < h * q + h := by rw [hq]; exact Int.lt_mul_ediv_self_add (by omega)
  have q3 : 1 ≤ q := by
    rcases Int.lt_or_le 0 q with h' | h'
    · exact h'
    · have := Int.mul_nonpos_of_nonneg_of_nonpos (by omega : 0 ≤ h) h'; omega
  let core : Nat → Bool := fun k => decide (-m ≤ A + h * k) && decide (A + h * k ≤ m)
  let outL : Nat → Bool := fun k => decide (-(4 * m) < A + h * k) && decide (A + h * k < -(2 * m))
  let outR : Nat → Bool := fun k => decide (2 * m < A + h * k) && decide (A + h * k < 4 * m)
  have hmm : 0 ≤ m * m * m := Int.mul_nonneg (Int.mul_nonneg (by omega) (by omega)) (by omega)
  have hmm1 : 1 ≤ m * m * m := by
    have h1 : 1 * 1 ≤ m * m := Int.mul_le_mul hm hm (by omega) (by omega)
    have h2 : (1 * 1) * 1 ≤ m * m * m := Int.mul_le_mul h1 hm (by omega) (by omega)
    omega
  -- each weight by what it is
  have each : ∀ k : Nat, (m * m * m) * (243 * ((core k).toNat : Int) - 32 * (((outL k || outR k).toNat : Nat) : Int)) ≤ 27 * wK 3 (A + h * k) (2 * m) := by
    intro k
    obtain ⟨a, ha⟩ : ∃ a, a = A + h * k := ⟨_, rfl⟩
    have e8 : 2 * m * (2 * m) * (2 * m) = 8 * (m * m * m) := by grind
    have hw : wK 3 a (2 * m) = if max a (-a) < 2 * m then wCubicIn (max a (-a)) (2 * m) else if max a (-a) < 2 * (2 * m) then wCubicOut (max a (-a)) (2 * m) else 0 := by unfold wK; simp
    show (m * m * m) * (243 * (((decide (-m ≤ A + h * k) && decide (A + h * k ≤ m)).toNat : Nat) : Int) - 32 * ((((decide (-(4 * m) < A + h * k) && decide (A + h * k < -(2 * m))) || (decide (2 * m < A + h * k) && decide (A + h * k < 4 * m))).toNat : Nat) : Int)) ≤ _
    rw [← ha, hw]
    by_cases c1 : -m ≤ a ∧ a ≤ m
    · have o1 : ¬ (a < -(2 * m)) := by omega
      have o2 : ¬ (2 * m < a) := by omega
      simp only [c1.1, c1.2, o1, o2, decide_true, decide_false, Bool.and_self, Bool.and_false, Bool.false_and, Bool.or_self, Bool.toNat_true, Bool.toNat_false]
      rw [if_pos (by omega)]
      have := cubicIn_core (max a (-a)) m (by omega) (by omega)
      have e : m * m * m * (243 * ((1 : Nat) : Int) - 32 * ((0 : Nat) : Int)) = 243 * (m * m * m) := by grind
      omega
    · have hcore : (decide (-m ≤ a) && decide (a ≤ m)) = false := by rw [Bool.and_eq_false_iff, decide_eq_false_iff_not, decide_eq_false_iff_not]; omega
      rw [hcore]
      by_cases c2 : max a (-a) < 2 * m
      · have o1 : ¬ (a < -(2 * m)) := by omega
        have o2 : ¬ (2 * m < a) := by omega
        simp only [o1, o2, decide_false, Bool.and_false, Bool.false_and, Bool.or_self, Bool.toNat_false]
        rw [if_pos c2]
        have := cubicIn_ge (max a (-a)) (2 * m) (by omega) (by omega)
        have e : m * m * m * (243 * ((0 : Nat) : Int) - 32 * ((0 : Nat) : Int)) = 0 := by grind
        omega
      · rw [if_neg c2]
        by_cases c3 : max a (-a) < 2 * (2 * m)
        · rw [if_pos c3]
          have h1 := cubicOut_ge (max a (-a)) (2 * m) (by omega) (by omega)
          by_cases c4 : max a (-a) = 2 * m
          · have h2 : wCubicOut (max a (-a)) (2 * m) = 0 := by rw [c4]; unfold wCubicOut; grind
            have o1 : ¬ (a < -(2 * m)) := by omega
            have o2 : ¬ (2 * m < a) := by omega
            simp only [o1, o2, decide_false, Bool.and_false, Bool.false_and, Bool.or_self, Bool.toNat_false]
            have e : m * m * m * (243 * ((0 : Nat) : Int) - 32 * ((0 : Nat) : Int)) = 0 := by grind
            omega
          · have ho : ((decide (-(4 * m) < a) && decide (a < -(2 * m))) || (decide (2 * m < a) && decide (a < 4 * m))) = true := by
              simp only [Bool.or_eq_true, Bool.and_eq_true, decide_eq_true_eq]; omega
            rw [ho]
            simp only [Bool.toNat_true, Bool.toNat_false]
            have e : m * m * m * (243 * ((0 : Nat) : Int) - 32 * ((1 : Nat) : Int)) = -(32 * (m * m * m)) := by grind
            omega
        · rw [if_neg c3]
          have o1 : ¬ (-(4 * m) < a ∧ a < -(2 * m)) := by omega
          have o2 : ¬ (2 * m < a ∧ a < 4 * m) := by omega
          have ho : ((decide (-(4 * m) < a) && decide (a < -(2 * m))) || (decide (2 * m < a) && decide (a < 4 * m))) = false := by
            rw [Bool.or_eq_false_iff, Bool.and_eq_false_iff, Bool.and_eq_false_iff, decide_eq_false_iff_not, decide_eq_false_iff_not, decide_eq_false_iff_not, decide_eq_false_iff_not]; omega
          rw [ho]
          simp only [Bool.toNat_false]
          have e : m * m * m * (243 * ((0 : Nat) : Int) - 32 * ((0 : Nat) : Int)) = 0 := by grind
          omega
  -- all of them
  have all : ∀ n : Nat, (m * m * m) * (243 * ((countTo core n : Nat) : Int) - 32 * ((countTo (fun k => outL k || outR k) n : Nat) : Int)) ≤ 27 * sumTo (fun k => wK 3 (A + h * k) (2 * m)) n := by
    intro n
    induction n with
    | zero => simp [countTo, sumTo]
    | succ n ih =>
      have := each n
      rw [countTo, countTo, sumTo]
      obtain ⟨c, hc⟩ : ∃ c, c = countTo core n := ⟨_, rfl⟩
      obtain ⟨o, ho⟩ : ∃ o, o = countTo (fun k => outL k || outR k) n := ⟨_, rfl⟩
      obtain ⟨c', hc'⟩ : ∃ c, c = (core n).toNat := ⟨_, rfl⟩
      obtain ⟨o', ho'⟩ : ∃ o, o = (outL n || outR n).toNat := ⟨_, rfl⟩
      rw [← hc, ← ho] at ih
      rw [← hc', ← ho'] at this
      rw [← hc, ← ho, ← hc', ← ho']
      have e : m * m * m * (243 * ((c + c' : Nat) : Int) - 32 * ((o + o' : Nat) : Int)) = m * m * m * (243 * (c : Int) - 32 * (o : Int)) + m * m * m * (243 * (c' : Int) - 32 * (o' : Int)) := by
        rw [Int.natCast_add, Int.natCast_add]; grind
      omega
  -- how many
  have hKn : ∀ k : Nat, A + h * k ≤ 4 * m → k < K := fun k hk => by
    rcases Nat.lt_or_ge k K with h' | h'
    · exact h'
    · have := Int.mul_le_mul_of_nonneg_left (Int.ofNat_le.2 h') (by omega : 0 ≤ h); omega
  have first : ∀ c : Int, A ≤ c → ∃ u : Nat, c ≤ A + h * u ∧ A + h * u < c + h := fun c hc => by
    obtain ⟨u, hu⟩ := Int.eq_ofNat_of_zero_le (Int.ediv_nonneg (by omega : 0 ≤ c - A + h - 1) (by omega : 0 ≤ h))
    refine ⟨u, ?_, ?_⟩
    · have h1 := Int.lt_mul_ediv_self_add (x := c - A + h - 1) (k := h) (by omega)
      rw [hu] at h1; omega
    · have h1 := Int.mul_ediv_self_le (x := c - A + h - 1) (k := h) (by omega)
      rw [hu] at h1; omega
  obtain ⟨qn, hqn⟩ := Int.eq_ofNat_of_zero_le (by omega : 0 ≤ q)
  have C : qn ≤ countTo core K := by
    obtain ⟨u, u1, u2⟩ := first (-m) (by omega)
    have hin : ∀ k : Nat, u ≤ k → k < u + qn → -m ≤ A + h * k ∧ A + h * k ≤ m := fun k k1 k2 => by
      have h1 := Int.mul_le_mul_of_nonneg_left (Int.ofNat_le.2 k1) (by omega : 0 ≤ h)
      have h2 := Int.mul_le_mul_of_nonneg_left (show (k : Int) ≤ (u : Int) + q - 1 by omega) (by omega : 0 ≤ h)
      have e : h * ((u : Int) + q - 1) = h * u + h * q - h := by grind
      omega
    refine countTo_ge (u := u) K ?_ fun k k1 k2 => ?_
    · have := hin (u + qn - 1) (by omega) (by omega)
      have := hKn (u + qn - 1) (by omega)
      omega
    · have := hin k k1 k2
      show (decide (-m ≤ A + h * k) && decide (A + h * k ≤ m)) = true
      rw [decide_eq_true this.1, decide_eq_true this.2]; rfl
  have win : ∀ (c : Int) (S : Nat → Bool), A ≤ c → (∀ k, S k = true → c < A + h * k ∧ A + h * k < c + 2 * m) → countTo S K ≤ qn + 1 := fun c S hc hS => by
    obtain ⟨u, u1, u2⟩ := first c hc
    refine (countTo_win (u := u) (M := qn + 1) K fun k _ hk => ?_).1
    have h1 := hS k hk
    constructor
    · rcases Nat.lt_or_ge k u with h' | h'
      · have := Int.mul_le_mul_of_nonneg_left (show (k : Int) ≤ (u : Int) - 1 by omega) (by omega : 0 ≤ h)
        have e : h * ((u : Int) - 1) = h * u - h := by grind
        omega
      · exact h'
    · rcases Nat.lt_or_ge k (u + (qn + 1)) with h' | h'
      · exact h'
      · have := Int.mul_le_mul_of_nonneg_left (show (u : Int) + q + 1 ≤ (k : Int) by omega) (by omega : 0 ≤ h)
        have e : h * ((u : Int) + q + 1) = h * u + h * q + h := by grind
        omega
  have OL := win (-(4 * m)) outL (by omega) fun k hk => by
    have hk' : (decide (-(4 * m) < A + h * k) && decide (A + h * k < -(2 * m))) = true := hk
    simp only [Bool.and_eq_true, decide_eq_true_eq] at hk'; omega
  have OR := win (2 * m) outR (by omega) fun k hk => by
    have hk' : (decide (2 * m < A + h * k) && decide (A + h * k < 4 * m)) = true := hk
    simp only [Bool.and_eq_true, decide_eq_true_eq] at hk'; omega
  have O := countTo_or (S := outL) (T := outR) K
  have fin := all K
  have h5 : 1 ≤ 243 * ((countTo core K : Nat) : Int) - 32 * ((countTo (fun k => outL k || outR k) K : Nat) : Int) := by omega
  have h6 : (m * m * m) * 1 ≤ (m * m * m) * (243 * ((countTo core K : Nat) : Int) - 32 * ((countTo (fun k => outL k || outR k) K : Nat) : Int)) := Int.mul_le_mul_of_nonneg_left h5 hmm
  omega
end Go.Proofs.Ytdcpeeolfgohmaa
