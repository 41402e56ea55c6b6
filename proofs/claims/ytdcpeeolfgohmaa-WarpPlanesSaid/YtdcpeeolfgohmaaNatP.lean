/- Plain lemmas: whole numbers as digits of 32 bits. -/
import Derived.WalkKit
namespace Go.Proofs.Ytdcpeeolfgohmaa
set_option linter.unusedSimpArgs false
set_option linter.unusedVariables false

/-- What the first k digits are worth. -/
def vt (x : Nat → Nat) : Nat → Nat
  | 0 => 0
  | k + 1 => vt x k + x k * 2 ^ (32 * k)
def dig (n k : Nat) : Nat := n / 2 ^ (32 * k) % 4294967296
/-- How many digits. -/
def len32 (n : Nat) : Nat := if n = 0 then 0 else n.log2 / 32 + 1
def bitlen (n : Nat) : Nat := if n = 0 then 0 else n.log2 + 1
def updN (f : Nat → Nat) (i v : Nat) : Nat → Nat := fun k => if k = i then v else f k
theorem updN_same (f : Nat → Nat) (i v : Nat) : updN f i v i = v := if_pos rfl
theorem updN_other (f : Nat → Nat) {i k : Nat} (v : Nat) (h : k ≠ i) : updN f i v k = f k := if_neg h

theorem p32 (k : Nat) : 2 ^ (32 * (k + 1)) = 2 ^ (32 * k) * 4294967296 := by
  rw [Nat.mul_succ, Nat.pow_add]
theorem p32_pos (k : Nat) : 0 < 2 ^ (32 * k) := Nat.two_pow_pos _
theorem dig_lt (n k : Nat) : dig n k < 4294967296 := Nat.mod_lt _ (by decide)
theorem mod_dig (n k : Nat) : n % 2 ^ (32 * (k + 1)) = n % 2 ^ (32 * k) + dig n k * 2 ^ (32 * k) := by
  rw [p32, Nat.mod_mul, dig, Nat.mul_comm (2 ^ (32 * k)) (_ % _)]
theorem vt_congr {x y : Nat → Nat} : ∀ m, (∀ k, k < m → x k = y k) → vt x m = vt y m
  | 0, _ => rfl
  | m + 1, h => by rw [vt, vt, vt_congr m (fun k hk => h k (by omega)), h m (by omega)]
theorem vt_updN (x : Nat → Nat) (m i v : Nat) (h : m ≤ i) : vt (updN x i v) m = vt x m := vt_congr m fun k hk => updN_other x v (by omega)
theorem vt_dig (n : Nat) : ∀ m, vt (dig n) m = n % 2 ^ (32 * m)
  | 0 => by simp [vt, Nat.mod_one]
  | m + 1 => by rw [vt, vt_dig n m, mod_dig]
theorem vt_lt {x : Nat → Nat} : ∀ m, (∀ k, k < m → x k < 4294967296) → vt x m < 2 ^ (32 * m)
  | 0, _ => by simp [vt]
  | m + 1, h => by
    have h1 := vt_lt m (fun k hk => h k (by omega))
    have h2 := h m (by omega)
    have h3 : (x m + 1) * 2 ^ (32 * m) ≤ 4294967296 * 2 ^ (32 * m) := Nat.mul_le_mul_right _ (by omega)
    rw [Nat.add_mul, Nat.one_mul] at h3
    rw [vt, p32, Nat.mul_comm _ 4294967296]; omega
theorem vt_mod {x : Nat → Nat} {m : Nat} (h : ∀ k, k < m → x k < 4294967296) : ∀ j, j ≤ m → vt x m % 2 ^ (32 * j) = vt x j := by
  induction m with
  | zero =>
    intro j hj
    have e : j = 0 := Nat.le_zero.1 hj
    subst e
    simp [vt, Nat.mod_one]
  | succ m ih =>
    intro j hj
    by_cases e : j = m + 1
    · subst e; exact Nat.mod_eq_of_lt (vt_lt _ h)
    · have h1 := ih (fun k hk => h k (by omega)) j (by omega)
      obtain ⟨d, rfl⟩ : ∃ d, m = j + d := ⟨m - j, by omega⟩
      rw [vt, Nat.mul_add, Nat.pow_add, ← Nat.mul_assoc, Nat.mul_right_comm, Nat.mul_comm (x (j + d) * 2 ^ (32 * d)), Nat.add_mul_mod_self_left]
      exact h1
theorem dig_vt {x : Nat → Nat} {m j : Nat} (h : ∀ k, k < m → x k < 4294967296) (hj : j < m) : dig (vt x m) j = x j := by
  have h1 := vt_mod h (j + 1) (by omega)
  have h2 := vt_mod h j (by omega)
  rw [mod_dig, h2, vt] at h1
  exact Nat.eq_of_mul_eq_mul_right (p32_pos j) (by omega)
theorem lt_len32 (n m : Nat) : len32 n ≤ m ↔ n < 2 ^ (32 * m) := by
  unfold len32
  by_cases h : n = 0
  · rw [if_pos h, h]; exact ⟨fun _ => p32_pos m, fun _ => Nat.zero_le _⟩
  · rw [if_neg h, ← Nat.log2_lt h]; omega
theorem dig_high {n k : Nat} (h : len32 n ≤ k) : dig n k = 0 := by
  rw [dig, Nat.div_eq_of_lt ((lt_len32 n k).1 h)]
theorem len32_top {n : Nat} (h : 0 < len32 n) : dig n (len32 n - 1) ≠ 0 := by
  intro h0
  have h1 := (lt_len32 n (len32 n)).1 (Nat.le_refl _)
  have h2 : n % 2 ^ (32 * len32 n) = n := Nat.mod_eq_of_lt h1
  rw [show len32 n = (len32 n - 1) + 1 by omega, mod_dig, h0] at h2
  have h3 := Nat.mod_lt n (p32_pos (len32 n - 1))
  have h4 := (lt_len32 n (len32 n - 1)).2 (by omega)
  omega
theorem canon {x : Nat → Nat} {m n : Nat} (hx : ∀ k, k < m → x k < 4294967296) (hv : vt x m = n) (ht : m = 0 ∨ x (m - 1) ≠ 0) : m = len32 n ∧ ∀ k, k < m → x k = dig n k := by
  have hd : ∀ k, k < m → x k = dig n k := fun k hk => by rw [← hv, dig_vt hx hk]
  refine ⟨?_, hd⟩
  have h1 : len32 n ≤ m := (lt_len32 n m).2 (by rw [← hv]; exact vt_lt m hx)
  rcases ht with rfl | ht
  · omega
  · rcases Nat.lt_or_ge (m - 1) (len32 n) with h | h
    · omega
    · by_cases hm : m = 0
      · omega
      · have := dig_high h
        rw [← hd (m - 1) (by omega)] at this
        exact absurd this ht
theorem vt_all {n m : Nat} (h : len32 n ≤ m) : vt (dig n) m = n := by
  rw [vt_dig, Nat.mod_eq_of_lt ((lt_len32 n m).1 h)]
theorem len32_pos {n : Nat} : 0 < len32 n ↔ n ≠ 0 := by
  unfold len32; split <;> simp [*]
theorem len32_zero : len32 0 = 0 := rfl
theorem len32_mono {a b : Nat} (h : a ≤ b) : len32 a ≤ len32 b := (lt_len32 a _).2 (Nat.lt_of_le_of_lt h ((lt_len32 b _).1 (Nat.le_refl _)))
theorem bitlen_lt (n m : Nat) : bitlen n ≤ m ↔ n < 2 ^ m := by
  unfold bitlen
  by_cases h : n = 0
  · rw [if_pos h, h]; exact ⟨fun _ => Nat.two_pow_pos m, fun _ => Nat.zero_le _⟩
  · rw [if_neg h, ← Nat.log2_lt h]; omega

/-! ### Sums -/
theorem plus_step {a b c i : Nat} {f : Nat → Nat} (h : vt f i + c * 2 ^ (32 * i) = a % 2 ^ (32 * i) + b % 2 ^ (32 * i)) :
    vt (updN f i ((c + dig a i + dig b i) % 4294967296)) (i + 1) + (c + dig a i + dig b i) / 4294967296 * 2 ^ (32 * (i + 1)) = a % 2 ^ (32 * (i + 1)) + b % 2 ^ (32 * (i + 1)) := by
  rw [vt, vt_updN _ _ _ _ (Nat.le_refl _), updN_same, mod_dig, mod_dig, p32]
  obtain ⟨s, es⟩ : ∃ s, s = c + dig a i + dig b i := ⟨_, rfl⟩
  have h1 := Nat.div_add_mod s 4294967296
  have e2 : s * 2 ^ (32 * i) = c * 2 ^ (32 * i) + dig a i * 2 ^ (32 * i) + dig b i * 2 ^ (32 * i) := by rw [es, Nat.add_mul, Nat.add_mul]
  rw [← es]
  have e3 : s / 4294967296 * (2 ^ (32 * i) * 4294967296) = (4294967296 * (s / 4294967296)) * 2 ^ (32 * i) := by
    rw [Nat.mul_comm (2 ^ (32 * i)), ← Nat.mul_assoc, Nat.mul_comm (s / 4294967296)]
  have e4 : s % 4294967296 * 2 ^ (32 * i) + (4294967296 * (s / 4294967296)) * 2 ^ (32 * i) = s * 2 ^ (32 * i) := by
    rw [← Nat.add_mul, Nat.add_comm, h1]
  omega
theorem plus_end {a b c m : Nat} {f : Nat → Nat} (h : vt f (m + 1) + c * 2 ^ (32 * (m + 1)) = a % 2 ^ (32 * (m + 1)) + b % 2 ^ (32 * (m + 1))) (ha : len32 a ≤ m) (hb : len32 b ≤ m) : vt f (m + 1) = a + b := by
  have h1 := (lt_len32 a m).1 ha
  have h2 := (lt_len32 b m).1 hb
  have h3 := p32 m
  rw [Nat.mod_eq_of_lt (by omega), Nat.mod_eq_of_lt (by omega)] at h
  rcases Nat.eq_zero_or_pos c with h0 | h0
  · rw [h0] at h; omega
  · have : 1 * 2 ^ (32 * (m + 1)) ≤ c * 2 ^ (32 * (m + 1)) := Nat.mul_le_mul_right _ h0
    omega

/-! ### Differences -/
theorem minus_step {a b r i o r' : Nat} {f : Nat → Nat} (h : vt f i + b % 2 ^ (32 * i) = a % 2 ^ (32 * i) + r * 2 ^ (32 * i))
    (ho : o + (r + dig b i) = dig a i + r' * 4294967296) :
    vt (updN f i o) (i + 1) + b % 2 ^ (32 * (i + 1)) = a % 2 ^ (32 * (i + 1)) + r' * 2 ^ (32 * (i + 1)) := by
  rw [vt, vt_updN _ _ _ _ (Nat.le_refl _), updN_same, mod_dig, mod_dig, p32]
  have e : (o + (r + dig b i)) * 2 ^ (32 * i) = (dig a i + r' * 4294967296) * 2 ^ (32 * i) := by rw [ho]
  have e2 : r' * (2 ^ (32 * i) * 4294967296) = r' * 4294967296 * 2 ^ (32 * i) := by rw [Nat.mul_comm (2 ^ (32 * i)), Nat.mul_assoc]
  rw [e2]
  simp only [Nat.add_mul] at e
  omega
theorem minus_end {a b r m : Nat} {f : Nat → Nat} (h : vt f m + b % 2 ^ (32 * m) = a % 2 ^ (32 * m) + r * 2 ^ (32 * m)) (hf : vt f m < 2 ^ (32 * m)) (hb : b ≤ a) (ha : len32 a ≤ m) : vt f m = a - b := by
  have h1 := (lt_len32 a m).1 ha
  rw [Nat.mod_eq_of_lt (by omega), Nat.mod_eq_of_lt h1] at h
  rcases Nat.eq_zero_or_pos r with h0 | h0
  · rw [h0] at h; omega
  · have : 1 * 2 ^ (32 * m) ≤ r * 2 ^ (32 * m) := Nat.mul_le_mul_right _ h0
    omega

/-! ### Products with one digit -/
theorem times_step {a k c i : Nat} {f : Nat → Nat} (h : vt f i + c * 2 ^ (32 * i) = a % 2 ^ (32 * i) * k) :
    vt (updN f i ((dig a i * k + c) % 4294967296)) (i + 1) + (dig a i * k + c) / 4294967296 * 2 ^ (32 * (i + 1)) = a % 2 ^ (32 * (i + 1)) * k := by
  rw [vt, vt_updN _ _ _ _ (Nat.le_refl _), updN_same, mod_dig, p32]
  obtain ⟨s, es⟩ : ∃ s, s = dig a i * k + c := ⟨_, rfl⟩
  have h1 := Nat.div_add_mod s 4294967296
  have e2 : s * 2 ^ (32 * i) = dig a i * k * 2 ^ (32 * i) + c * 2 ^ (32 * i) := by rw [es, Nat.add_mul]
  rw [← es]
  have e3 : s / 4294967296 * (2 ^ (32 * i) * 4294967296) = (4294967296 * (s / 4294967296)) * 2 ^ (32 * i) := by
    rw [Nat.mul_comm (2 ^ (32 * i)), ← Nat.mul_assoc, Nat.mul_comm (s / 4294967296)]
  have e4 : s % 4294967296 * 2 ^ (32 * i) + (4294967296 * (s / 4294967296)) * 2 ^ (32 * i) = s * 2 ^ (32 * i) := by
    rw [← Nat.add_mul, Nat.add_comm, h1]
  have e5 : (a % 2 ^ (32 * i) + dig a i * 2 ^ (32 * i)) * k = a % 2 ^ (32 * i) * k + dig a i * k * 2 ^ (32 * i) := by
    rw [Nat.add_mul, Nat.mul_right_comm]
  omega
theorem times_end {a k c m : Nat} {f : Nat → Nat} (h : vt f m + c * 2 ^ (32 * m) = a % 2 ^ (32 * m) * k) (ha : len32 a ≤ m) : vt (updN f m c) (m + 1) = a * k := by
  rw [vt, vt_updN _ _ _ _ (Nat.le_refl _), updN_same, h, Nat.mod_eq_of_lt ((lt_len32 a m).1 ha)]

/-! ### Bits -/
theorem mod_bit (n i : Nat) : n % 2 ^ (i + 1) = n % 2 ^ i + 2 ^ i * (n / 2 ^ i % 2) := by
  rw [Nat.pow_succ, Nat.mod_mul]
theorem bit_dig (n i : Nat) : n / 2 ^ i % 2 = dig n (i / 32) / 2 ^ (i % 32) % 2 := by
  have hr : i % 32 < 32 := Nat.mod_lt _ (by decide)
  have e : 2 ^ i = 2 ^ (32 * (i / 32)) * 2 ^ (i % 32) := by rw [← Nat.pow_add, Nat.div_add_mod]
  have e2 : (4294967296 : Nat) = 2 ^ (i % 32) * 2 ^ (32 - i % 32) := by rw [← Nat.pow_add, show i % 32 + (32 - i % 32) = 32 by omega]
  rw [dig, e2, Nat.mod_mul_right_div_self, e, Nat.div_div_eq_div_mul, Nat.mod_mod_of_dvd]
  exact ⟨2 ^ (31 - i % 32), by rw [show 32 - i % 32 = (31 - i % 32) + 1 by omega, Nat.pow_succ, Nat.mul_comm]⟩
theorem rest_step (n i : Nat) : (decide (n % 2 ^ (i + 1) ≠ 0)) = (decide (n % 2 ^ i ≠ 0) || decide (n / 2 ^ i % 2 = 1)) := by
  rw [mod_bit]
  have h : n / 2 ^ i % 2 = 0 ∨ n / 2 ^ i % 2 = 1 := by omega
  have hp := Nat.two_pow_pos i
  rcases h with h | h <;> rw [h]
  · simp
  · simp
theorem down_dig (a n i : Nat) : dig (a / 2 ^ n) i = (dig a (i + n / 32) + 4294967296 * dig a (i + n / 32 + 1)) / 2 ^ (n % 32) % 4294967296 := by
  have hr : n % 32 < 32 := Nat.mod_lt _ (by decide)
  obtain ⟨A, eA⟩ : ∃ A, A = a / 2 ^ (32 * (i + n / 32)) := ⟨_, rfl⟩
  have e1 : dig a (i + n / 32) = A % 4294967296 := by rw [dig, eA]
  have e2 : dig a (i + n / 32 + 1) = A / 4294967296 % 4294967296 := by rw [dig, eA, p32, Nat.div_div_eq_div_mul]
  have e3 : A % 4294967296 + 4294967296 * (A / 4294967296 % 4294967296) = A % (4294967296 * 4294967296) := (Nat.mod_mul).symm
  have e4 : (4294967296 * 4294967296 : Nat) = 2 ^ (n % 32) * 2 ^ (64 - n % 32) := by rw [← Nat.pow_add, show n % 32 + (64 - n % 32) = 64 by omega]
  have e5 : a / 2 ^ n / 2 ^ (32 * i) = A / 2 ^ (n % 32) := by
    rw [eA, Nat.div_div_eq_div_mul, Nat.div_div_eq_div_mul, ← Nat.pow_add, ← Nat.pow_add]
    congr 2; omega
  rw [e1, e2, e3, e4, Nat.mod_mul_right_div_self, dig, e5, Nat.mod_mod_of_dvd]
  exact ⟨2 ^ (32 - n % 32), by rw [show 64 - n % 32 = 32 + (32 - n % 32) by omega, Nat.pow_add]⟩
theorem len_down (a n : Nat) (h : n / 32 ≤ len32 a) : len32 (a / 2 ^ n) ≤ len32 a - n / 32 := by
  rw [lt_len32, Nat.div_lt_iff_lt_mul (Nat.two_pow_pos _), ← Nat.pow_add]
  refine Nat.lt_of_lt_of_le ((lt_len32 a _).1 (Nat.le_refl _)) (Nat.pow_le_pow_right (by decide) ?_)
  omega
theorem up_step {a i q r : Nat} {f : Nat → Nat} (hr : r < 32) (h : vt f (i + q + 1) = a % 2 ^ (32 * i) * 2 ^ (32 * q + r)) :
    vt (updN (updN f (i + q) (f (i + q) + dig a i * 2 ^ r % 4294967296)) (i + q + 1) (dig a i * 2 ^ r / 4294967296)) (i + 1 + q + 1) = a % 2 ^ (32 * (i + 1)) * 2 ^ (32 * q + r) := by
  rw [show i + 1 + q + 1 = (i + q + 1) + 1 by omega, vt, vt_updN _ _ _ _ (Nat.le_refl _), updN_same, vt, vt_updN _ _ _ _ (Nat.le_refl _), updN_same, mod_dig, Nat.add_mul (a % _), ← h, vt]
  obtain ⟨s, es⟩ : ∃ s, s = dig a i * 2 ^ r := ⟨_, rfl⟩
  have h1 := Nat.div_add_mod s 4294967296
  rw [← es, p32]
  have e3 : s / 4294967296 * (2 ^ (32 * (i + q)) * 4294967296) = (4294967296 * (s / 4294967296)) * 2 ^ (32 * (i + q)) := by
    rw [Nat.mul_comm (2 ^ (32 * (i + q))), ← Nat.mul_assoc, Nat.mul_comm (s / 4294967296)]
  have e4 : s % 4294967296 * 2 ^ (32 * (i + q)) + (4294967296 * (s / 4294967296)) * 2 ^ (32 * (i + q)) = s * 2 ^ (32 * (i + q)) := by
    rw [← Nat.add_mul, Nat.add_comm, h1]
  have e5 : dig a i * 2 ^ (32 * i) * 2 ^ (32 * q + r) = s * 2 ^ (32 * (i + q)) := by
    rw [es, Nat.mul_assoc, Nat.mul_assoc, ← Nat.pow_add, ← Nat.pow_add]; congr 2; omega
  rw [Nat.add_mul]
  omega
theorem up_hi {x r : Nat} (hx : x < 4294967296) : x * 2 ^ r / 4294967296 < 2 ^ r := by
  rw [Nat.div_lt_iff_lt_mul (by decide), Nat.mul_comm x]
  exact (Nat.mul_lt_mul_left (Nat.two_pow_pos r)).2 hx
theorem up_or {x r c : Nat} (hr : r < 32) (hc : c < 2 ^ r) : c ||| (x * 2 ^ r % 4294967296) = c + x * 2 ^ r % 4294967296 ∧ c + x * 2 ^ r % 4294967296 < 4294967296 := by
  have e : (4294967296 : Nat) = 2 ^ r * 2 ^ (32 - r) := by rw [← Nat.pow_add, show r + (32 - r) = 32 by omega]
  have e2 : x * 2 ^ r % 4294967296 = 2 ^ r * (x % 2 ^ (32 - r)) := by rw [e, Nat.mul_comm x, Nat.mul_mod_mul_left]
  have hm := Nat.mod_lt x (Nat.two_pow_pos (32 - r))
  rw [e2]
  constructor
  · rw [Nat.or_comm, Nat.mul_comm (2 ^ r), ← Nat.shiftLeft_eq, ← Nat.shiftLeft_add_eq_or_of_lt hc, Nat.add_comm]
  · have h1 : 2 ^ r * (x % 2 ^ (32 - r) + 1) ≤ 2 ^ r * 2 ^ (32 - r) := Nat.mul_le_mul_left _ hm
    rw [Nat.mul_add] at h1
    omega
theorem len_up {a n : Nat} : len32 (a * 2 ^ n) ≤ len32 a + n / 32 + 1 := by
  rw [lt_len32]
  have h := (lt_len32 a _).1 (Nat.le_refl _)
  calc a * 2 ^ n < 2 ^ (32 * len32 a) * 2 ^ n := (Nat.mul_lt_mul_right (Nat.two_pow_pos n)).2 h
    _ = 2 ^ (32 * len32 a + n) := (Nat.pow_add _ _ _).symm
    _ ≤ 2 ^ (32 * (len32 a + n / 32 + 1)) := Nat.pow_le_pow_right (by decide) (by omega)
theorem bits_top {a t k : Nat} (ha : a ≠ 0) (et : t = dig a (len32 a - 1)) (h1 : t / 2 ^ k = 0) (h2 : k = 0 ∨ t / 2 ^ (k - 1) ≠ 0) : bitlen a = 32 * (len32 a - 1) + k := by
  have hl : 0 < len32 a := len32_pos.2 ha
  have ht0 : t ≠ 0 := by rw [et]; exact len32_top hl
  have hk : k ≠ 0 := by rintro rfl; simp at h1; exact ht0 h1
  have h2' : t / 2 ^ (k - 1) ≠ 0 := h2.resolve_left hk
  have hh := (lt_len32 a _).1 (Nat.le_refl (len32 a))
  have hm : a % 2 ^ (32 * len32 a) = a := Nat.mod_eq_of_lt hh
  rw [show len32 a = (len32 a - 1) + 1 by omega, mod_dig, ← et] at hm
  have hlow := Nat.mod_lt a (p32_pos (len32 a - 1))
  obtain ⟨m, em⟩ : ∃ m, m = len32 a - 1 := ⟨_, rfl⟩
  rw [← em] at hm hlow ⊢
  have k1 : t < 2 ^ k := (Nat.div_eq_zero_iff.1 h1).resolve_left (by have := Nat.two_pow_pos k; omega)
  have k2 : 2 ^ (k - 1) ≤ t := by
    rcases Nat.lt_or_ge t (2 ^ (k - 1)) with h | h
    · exact absurd (Nat.div_eq_of_lt h) h2'
    · exact h
  have u1 : bitlen a ≤ 32 * m + k := by
    rw [bitlen_lt, Nat.pow_add]
    have : (t + 1) * 2 ^ (32 * m) ≤ 2 ^ k * 2 ^ (32 * m) := Nat.mul_le_mul_right _ k1
    rw [Nat.add_mul] at this; rw [Nat.mul_comm]; omega
  have u2 : ¬ bitlen a ≤ 32 * m + (k - 1) := by
    rw [bitlen_lt, Nat.pow_add]
    have : 2 ^ (k - 1) * 2 ^ (32 * m) ≤ t * 2 ^ (32 * m) := Nat.mul_le_mul_right _ k2
    rw [Nat.mul_comm]; omega
  omega

/-! ### Comparing -/
def cmpN (a b : Nat) : Int := if a < b then -1 else if a = b then 0 else 1
theorem cmp_len {a b : Nat} (h : len32 a < len32 b) : a < b := by
  have h1 := (lt_len32 a _).1 (Nat.le_refl _)
  rcases Nat.lt_or_ge a b with h2 | h2
  · exact h2
  · have := len32_mono h2; omega
theorem cmp_dig {a b i : Nat} (h : a / 2 ^ (32 * (i + 1)) = b / 2 ^ (32 * (i + 1))) (hd : dig a i < dig b i) : a < b := by
  have ea := Nat.div_add_mod a (2 ^ (32 * (i + 1)))
  have eb := Nat.div_add_mod b (2 ^ (32 * (i + 1)))
  rw [mod_dig] at ea eb
  rw [h] at ea
  have h1 := Nat.mod_lt a (p32_pos i)
  have h2 : (dig a i + 1) * 2 ^ (32 * i) ≤ dig b i * 2 ^ (32 * i) := Nat.mul_le_mul_right _ hd
  rw [Nat.add_mul] at h2
  omega
theorem cmp_same {a b i : Nat} (h : a / 2 ^ (32 * (i + 1)) = b / 2 ^ (32 * (i + 1))) (hd : dig a i = dig b i) : a / 2 ^ (32 * i) = b / 2 ^ (32 * i) := by
  have ea := Nat.div_add_mod (a / 2 ^ (32 * i)) 4294967296
  have eb := Nat.div_add_mod (b / 2 ^ (32 * i)) 4294967296
  rw [Nat.div_div_eq_div_mul, ← p32] at ea eb
  unfold dig at hd
  omega
end Go.Proofs.Ytdcpeeolfgohmaa
