/- Plain: the taps of a place, and that their weights may be shared. -/
import Derived.Test.YtdcpeeolfgohmaaTapK
namespace Go.Proofs.Ytdcpeeolfgohmaa
set_option linter.unusedSimpArgs false
set_option linter.unusedVariables false

def tapF (kind from' tt i : Int) : Int → Int := fun j => wK kind (atOf from' tt i j) (2 * max from' tt)
def tapLo (kind from' tt i : Int) : Int := ((2 * i + 1) * from' - tt - kReach kind * max from' tt) / (2 * tt)
def tapN (kind from' tt i : Int) : Nat := ((kReach kind * max from' tt - atOf from' tt i (tapLo kind from' tt i)) / (2 * tt) + 1).toNat
/-- The places, with their weights. -/
def tapsOf (kind from' tt i : Int) : List (Int × Int) := tapRun (tapF kind from' tt i) from' (tapLo kind from' tt i) (tapN kind from' tt i)

structure TapsMay (kind from' tt i : Int) : Prop where
  k1 : 1 ≤ kind
  k3 : kind ≤ 3
  f1 : 1 ≤ from'
  f2 : from' ≤ 1024
  t1 : 1 ≤ tt
  t2 : tt ≤ 1024
  i0 : 0 ≤ i
  i1 : i < tt
  far : from' ≤ 15 * tt

theorem at_add (from' tt i j k : Int) : atOf from' tt i (j + k) = atOf from' tt i j + 2 * tt * k := by unfold atOf; grind

section
variable {kind from' tt i : Int}
theorem kReach_bd (kind : Int) : 1 ≤ kReach kind ∧ kReach kind ≤ 4 := by
  unfold kReach
  split
  · omega
  · split <;> omega

theorem tapLo_at (h : TapsMay kind from' tt i) : atOf from' tt i (tapLo kind from' tt i) ≤ -(kReach kind * max from' tt) ∧ -(kReach kind * max from' tt) < atOf from' tt i (tapLo kind from' tt i) + 2 * tt := by
  have ht := h.t1
  have h1 := Int.mul_ediv_self_le (x := (2 * i + 1) * from' - tt - kReach kind * max from' tt) (k := 2 * tt) (by omega)
  have h2 := Int.lt_mul_ediv_self_add (x := (2 * i + 1) * from' - tt - kReach kind * max from' tt) (k := 2 * tt) (by omega)
  have e : atOf from' tt i (tapLo kind from' tt i) = 2 * tt * (((2 * i + 1) * from' - tt - kReach kind * max from' tt) / (2 * tt)) - (2 * i + 1) * from' + tt := rfl
  omega

theorem wK_far (hk1 : 1 ≤ kind) (hk3 : kind ≤ 3) {a m : Int} (hm : 1 ≤ m) (h : a < -(kReach kind * m) ∨ kReach kind * m < a) : wK kind a (2 * m) = 0 := by
  have hk : kind = 1 ∨ kind = 2 ∨ kind = 3 := by omega
  unfold wK
  rcases hk with rfl | rfl | rfl
  · have e : kReach 1 = 1 := by decide
    rw [e] at h
    rw [if_pos rfl, if_neg (by omega)]
  · have e : kReach 2 = 2 := by decide
    rw [e] at h
    rw [if_neg (by omega), if_pos rfl, if_neg (by omega)]
  · have e : kReach 3 = 4 := by decide
    rw [e] at h
    rw [if_neg (by omega), if_neg (by omega), if_neg (by omega), if_neg (by omega)]

theorem tapF_low (h : TapsMay kind from' tt i) (j : Int) (hj : j < tapLo kind from' tt i) : tapF kind from' tt i j = 0 := by
  have h1 := (tapLo_at h).1
  have h2 := at_add from' tt i (tapLo kind from' tt i) (j - tapLo kind from' tt i)
  rw [show tapLo kind from' tt i + (j - tapLo kind from' tt i) = j by omega] at h2
  have ht := h.t1
  have hf := h.f1
  have h3 : 2 * tt * (j - tapLo kind from' tt i) ≤ 2 * tt * (-1) := Int.mul_le_mul_of_nonneg_left (by omega) (by omega)
  exact wK_far h.k1 h.k3 (by omega) (.inl (by omega))

theorem tapN_at (h : TapsMay kind from' tt i) : kReach kind * max from' tt < atOf from' tt i (tapLo kind from' tt i + tapN kind from' tt i) ∧ (1 ≤ tapN kind from' tt i ∧ tapN kind from' tt i ≤ 62) ∧
    ∀ k : Nat, k < tapN kind from' tt i → atOf from' tt i (tapLo kind from' tt i + k) ≤ kReach kind * max from' tt := by
  have ht := h.t1
  have hf := h.f1
  have hl := tapLo_at h
  have hr := kReach_bd kind
  obtain ⟨A, hA⟩ : ∃ A, A = atOf from' tt i (tapLo kind from' tt i) := ⟨_, rfl⟩
  obtain ⟨R, hR⟩ : ∃ R, R = kReach kind * max from' tt := ⟨_, rfl⟩
  rw [← hA, ← hR] at hl
  have hR1 : 1 ≤ R := by
    have : 1 * 1 ≤ kReach kind * max from' tt := Int.mul_le_mul hr.1 (by omega) (by omega) (by omega)
    omega
  have hR2 : R ≤ 60 * tt := by
    have h1 : kReach kind * max from' tt ≤ 4 * max from' tt := Int.mul_le_mul_of_nonneg_right hr.2 (by omega)
    have := h.far
    omega
  have h1 := Int.mul_ediv_self_le (x := R - A) (k := 2 * tt) (by omega)
  have h2 := Int.lt_mul_ediv_self_add (x := R - A) (k := 2 * tt) (by omega)
  have hq0 : 0 ≤ (R - A) / (2 * tt) := Int.ediv_nonneg (by omega) (by omega)
  have eN : (tapN kind from' tt i : Int) = (R - A) / (2 * tt) + 1 := by
    unfold tapN
    rw [← hA, ← hR, Int.toNat_of_nonneg (by omega)]
  obtain ⟨q, hq⟩ : ∃ q, q = (R - A) / (2 * tt) := ⟨_, rfl⟩
  rw [← hq] at h1 h2 hq0 eN
  refine ⟨?_, ⟨by omega, ?_⟩, fun k hk => ?_⟩
  · rw [at_add, ← hA, ← hR, eN]
    have e : 2 * tt * (q + 1) = 2 * tt * q + 2 * tt := by grind
    omega
  · rcases Int.lt_or_le q 62 with h3 | h3
    · omega
    · have := Int.mul_le_mul_of_nonneg_left h3 (by omega : 0 ≤ 2 * tt)
      omega
  · rw [at_add, ← hA, ← hR]
    have := Int.mul_le_mul_of_nonneg_left (show (k : Int) ≤ q by omega) (by omega : 0 ≤ 2 * tt)
    omega

theorem tapF_high (h : TapsMay kind from' tt i) (j : Int) (hj : tapLo kind from' tt i + tapN kind from' tt i ≤ j) : tapF kind from' tt i j = 0 := by
  have h1 := (tapN_at h).1
  have h2 := at_add from' tt i (tapLo kind from' tt i + tapN kind from' tt i) (j - (tapLo kind from' tt i + tapN kind from' tt i))
  rw [show tapLo kind from' tt i + tapN kind from' tt i + (j - (tapLo kind from' tt i + tapN kind from' tt i)) = j by omega] at h2
  have ht := h.t1
  have hf := h.f1
  have h3 : 0 ≤ 2 * tt * (j - (tapLo kind from' tt i + tapN kind from' tt i)) := Int.mul_nonneg (by omega) (by omega)
  exact wK_far h.k1 h.k3 (by omega) (.inr (by omega))

theorem sumTo_congr {f g : Nat → Int} : ∀ n, (∀ k, k < n → f k = g k) → sumTo f n = sumTo g n
  | 0, _ => rfl
  | n + 1, h => by rw [sumTo, sumTo, sumTo_congr n fun k hk => h k (by omega), h n (by omega)]
theorem sumTo_pos {f : Nat → Int} : ∀ n, (∀ k, k < n → 0 ≤ f k) → (∃ k, k < n ∧ 0 < f k) → 0 < sumTo f n
  | 0, _, h => by obtain ⟨k, hk, _⟩ := h; omega
  | n + 1, h, hp => by
    have nn : ∀ m, m ≤ n → 0 ≤ sumTo f m := by
      intro m
      induction m with
      | zero => intro _; exact Int.le_refl _
      | succ m ih => intro hm; rw [sumTo]; have := ih (by omega); have := h m (by omega); omega
    obtain ⟨k, hk, hp⟩ := hp
    rw [sumTo]
    by_cases e : k = n
    · subst e; have := nn k (Nat.le_refl _); omega
    · have := sumTo_pos n (fun k hk => h k (by omega)) ⟨k, by omega, hp⟩
      have := h n (by omega); omega

theorem wBox_pos {b : Int} (hb : 1 ≤ b) : 0 < wBox b := by
  have : 0 < 2 * b * b * b := Int.mul_pos (Int.mul_pos (Int.mul_pos (by omega) (by omega)) (by omega)) (by omega)
  exact this
theorem tap_sum (h : TapsMay kind from' tt i) : 1 ≤ wSum (tapsOf kind from' tt i) := by
  have ht := h.t1
  have hf := h.f1
  have hl := tapLo_at h
  have hN := tapN_at h
  obtain ⟨m, hm⟩ : ∃ m, m = max from' tt := ⟨_, rfl⟩
  obtain ⟨A, hA⟩ : ∃ A, A = atOf from' tt i (tapLo kind from' tt i) := ⟨_, rfl⟩
  have hat : ∀ k : Nat, tapF kind from' tt i (tapLo kind from' tt i + k) = wK kind (A + 2 * tt * k) (2 * m) := fun k => by
    show wK kind (atOf from' tt i (tapLo kind from' tt i + k)) (2 * max from' tt) = _
    rw [at_add, ← hA, ← hm]
  have hh : 2 * tt ≤ 2 * m := by omega
  have hN1 := hN.1
  rw [at_add] at hN1
  rw [← hA, ← hm] at hl hN1
  unfold tapsOf
  rw [tapRun_sum, sumTo_congr _ fun k _ => hat k]
  have hk : kind = 1 ∨ kind = 2 ∨ kind = 3 := by have := h.k1; have := h.k3; omega
  -- a place at which the kernel is not 0
  have near : ∀ c : Int, A ≤ c → c + 2 * tt ≤ A + 2 * tt * (tapN kind from' tt i : Int) → ∃ k : Nat, k < tapN kind from' tt i ∧ c ≤ A + 2 * tt * k ∧ A + 2 * tt * k < c + 2 * tt := fun c h1 h2 => by
    obtain ⟨u, hu⟩ := Int.eq_ofNat_of_zero_le (Int.ediv_nonneg (by omega : 0 ≤ c - A + 2 * tt - 1) (by omega : 0 ≤ 2 * tt))
    have h3 := Int.lt_mul_ediv_self_add (x := c - A + 2 * tt - 1) (k := 2 * tt) (by omega)
    have h4 := Int.mul_ediv_self_le (x := c - A + 2 * tt - 1) (k := 2 * tt) (by omega)
    rw [hu] at h3 h4
    refine ⟨u, ?_, by omega, by omega⟩
    rcases Nat.lt_or_ge u (tapN kind from' tt i) with h5 | h5
    · exact h5
    · have := Int.mul_le_mul_of_nonneg_left (Int.ofNat_le.2 h5) (by omega : 0 ≤ 2 * tt); omega
  rcases hk with rfl | rfl | rfl
  · have e : kReach 1 = 1 := by decide
    rw [e] at hl hN1
    refine sumTo_pos _ (fun k _ => ?_) ?_
    · unfold wK; rw [if_pos rfl]; split
      · exact Int.le_of_lt (wBox_pos (by omega))
      · exact Int.le_refl _
    · obtain ⟨k, k1, k2, k3⟩ := near (-m) (by omega) (by omega)
      refine ⟨k, k1, ?_⟩
      unfold wK; rw [if_pos rfl, if_pos (by omega)]
      exact wBox_pos (by omega)
  · have e : kReach 2 = 2 := by decide
    rw [e] at hl hN1
    have pos : ∀ a : Int, 0 ≤ wK 2 a (2 * m) := fun a => by
      unfold wK; rw [if_neg (by omega), if_pos rfl]; split
      · exact Int.mul_nonneg (Int.mul_nonneg (Int.mul_nonneg (by omega) (by omega)) (by omega)) (by omega)
      · exact Int.le_refl _
    refine sumTo_pos _ (fun k _ => pos _) ?_
    · obtain ⟨k, k1, k2, k3⟩ := near (-(2 * tt) + 1) (by omega) (by omega)
      refine ⟨k, k1, ?_⟩
      unfold wK; rw [if_neg (by omega), if_pos rfl, if_pos (by omega)]
      exact Int.mul_pos (Int.mul_pos (Int.mul_pos (by omega) (by omega)) (by omega)) (by omega)
  · have e : kReach 3 = 4 := by decide
    rw [e] at hl hN1
    have := cubic_sum m (2 * tt) A (tapN 3 from' tt i) (by omega) (by omega) hh (by omega) (by omega)
    omega

theorem tap_len (h : TapsMay kind from' tt i) : 1 ≤ (tapsOf kind from' tt i).length ∧ (tapsOf kind from' tt i).length ≤ 62 := by
  have h1 := tap_sum h
  have h2 := tapRun_len (tapF kind from' tt i) from' (tapLo kind from' tt i) (tapN kind from' tt i)
  have h3 := (tapN_at h).2.1
  refine ⟨?_, by unfold tapsOf; omega⟩
  rcases Nat.eq_zero_or_pos (tapsOf kind from' tt i).length with h4 | h4
  · rw [List.length_eq_zero_iff.1 h4] at h1; simp [wSum] at h1
  · exact h4

/-- The weights, as a row. -/
def tapW (l : List (Int × Int)) : Nat → Int := fun k => (l.getD k (0, 0)).2
def tapP (l : List (Int × Int)) : Nat → Int := fun k => (l.getD k (0, 0)).1

theorem tap_ok (h : TapsMay kind from' tt i) : ShareOk (tapW (tapsOf kind from' tt i)) (tapsOf kind from' tt i).length := by
  have hl := tap_len h
  refine ⟨hl.1, by omega, fun k hk => ?_, ?_⟩
  · have h1 := (wSize_get (tapsOf kind from' tt i) k hk).1
    have h2 := tapRun_size (tapF kind from' tt i) from' (tapLo kind from' tt i) (B := 17179869184) (fun j => wK_bd _ _ _ (by have := h.f1; omega) (by have := h.f2; have := h.t2; omega)) (tapN kind from' tt i)
    have h3 := (tapN_at h).2.1.2
    have h4 : (tapN kind from' tt i : Int) * 17179869184 ≤ 62 * 17179869184 := Int.mul_le_mul_of_nonneg_right (by omega) (by omega)
    have e : wSize (tapsOf kind from' tt i) = wSize (tapRun (tapF kind from' tt i) from' (tapLo kind from' tt i) (tapN kind from' tt i)) := rfl
    show -1099511627776 ≤ ((tapsOf kind from' tt i).getD k (0, 0)).2 ∧ _
    unfold tapW
    omega
  · have := tap_sum h
    rw [wSum_sumTo] at this
    exact this
end
end Go.Proofs.Ytdcpeeolfgohmaa
