/- An Acc's sum and counts: plain. -/
import Derived.Test.YtmeifciagepmpaaAcD
namespace Go.Proofs.Ytmeifciagepmpaa
open Go.RowKit Go.Proofs.YtmeifciagepmpaaW.PrintWords
set_option linter.unusedSimpArgs false
set_option linter.unusedVariables false

/-! Great powers of 2, behind names. -/
def pw (k : Nat) : Nat := 2 ^ k
theorem pw_eq (k : Nat) : 2 ^ k = pw k := rfl
theorem pw_add (a b c : Nat) (h : c = a + b) : pw c = pw a * pw b := by rw [h]; exact Nat.pow_add 2 a b
theorem pw_pos (k : Nat) : 0 < pw k := Nat.two_pow_pos k
def P277 : Nat := pw 277
def P448 : Nat := pw 448
def P447 : Nat := pw 447
def P416 : Nat := pw 416
theorem p448 : 2 ^ 448 = P448 := pw_eq 448
theorem p416 : 2 ^ (32 * 13) = P416 := by rw [show (32 * 13 : Nat) = 416 from rfl]; exact pw_eq 416
theorem p277 : 2 ^ 24 * 2 ^ 253 = P277 := (pw_add 24 253 277 rfl).symm
theorem p447_416 : P447 = 2147483648 * P416 := by unfold P447 P416; rw [pw_add 31 416 447 rfl, show pw 31 = 2147483648 from rfl]
theorem p448_416 : P448 = 4294967296 * P416 := by unfold P448 P416; rw [pw_add 32 416 448 rfl, show pw 32 = 4294967296 from rfl]
theorem p416_pos : 0 < P416 := pw_pos 416
theorem p277_pos : 0 < P277 := pw_pos 277
theorem p447_277 {n : Nat} (h : n ≤ 1000000000000000) : n * P277 < P447 := by
  have e : P447 = pw 170 * P277 := by unfold P447 P277; exact pw_add 170 277 447 rfl
  rw [e]
  exact Nat.mul_lt_mul_of_pos_right (Nat.lt_of_le_of_lt h (show 1000000000000000 < pw 170 by decide)) p277_pos

/-- A sample in units of 2^-149 (0, where it is not finite). -/
def smp (a : Nat) : Int := pN a * 2 ^ (pE a + 149).toNat
/-- The exact sum of samples in units of 2^-149, how many there are, of some kinds. -/
structure Ac where
  z : Int
  n : Nat
  nans : Nat
  up : Nat
  dn : Nat
  no : Nat
def acNone : Ac := ⟨0, 0, 0, 0, 0, 0⟩
def acOne (a : Nat) : Ac :=
  ⟨smp a, 1, (rd32 a).isNaN.toNat, (!(rd32 a).isNaN && decide (expN a = 255) && !sgnB a).toNat, (!(rd32 a).isNaN && decide (expN a = 255) && sgnB a).toNat, (decide (a = 2147483648)).toNat⟩
def acPlus (S T : Ac) : Ac := ⟨S.z + T.z, S.n + T.n, S.nans + T.nans, S.up + T.up, S.dn + T.dn, S.no + T.no⟩
def acAll (S : Ac) (x : Nat → Nat) : Nat → Ac
  | 0 => S
  | k + 1 => acPlus (acAll S x k) (acOne (x k))
theorem acPlus_none (S : Ac) : acPlus S acNone = S := by cases S; simp [acPlus, acNone]
theorem acNone_plus (S : Ac) : acPlus acNone S = S := by cases S; simp [acPlus, acNone]
theorem acPlus_comm (S T : Ac) : acPlus S T = acPlus T S := by
  cases S; cases T; simp only [acPlus, Ac.mk.injEq]; refine ⟨?_, ?_, ?_, ?_, ?_, ?_⟩ <;> omega
theorem acPlus_assoc (S T U : Ac) : acPlus (acPlus S T) U = acPlus S (acPlus T U) := by
  cases S; cases T; cases U; simp only [acPlus, Ac.mk.injEq]; refine ⟨?_, ?_, ?_, ?_, ?_, ?_⟩ <;> omega
theorem acAll_from (S : Ac) (x : Nat → Nat) : ∀ k, acAll S x k = acPlus S (acAll acNone x k)
  | 0 => (acPlus_none S).symm
  | k + 1 => by rw [acAll, acAll, acAll_from S x k, acPlus_assoc]
theorem acAll_congr {S : Ac} {x y : Nat → Nat} : ∀ k, (∀ i, i < k → x i = y i) → acAll S x k = acAll S y k
  | 0, _ => rfl
  | k + 1, h => by rw [acAll, acAll, acAll_congr k (fun i hi => h i (by omega)), h k (by omega)]
theorem acAll_split (S : Ac) (x : Nat → Nat) (m : Nat) : ∀ k, acAll S x (m + k) = acAll (acAll S x m) (fun i => x (m + i)) k
  | 0 => rfl
  | k + 1 => by rw [← Nat.add_assoc, acAll, acAll, acAll_split S x m k]
theorem acAll_n (S : Ac) (x : Nat → Nat) : ∀ k, (acAll S x k).n = S.n + k
  | 0 => rfl
  | k + 1 => by rw [acAll]; show (acAll S x k).n + 1 = _; rw [acAll_n S x k]; omega

/-- The counts are at most their whole; the sum is at most as many greatest samples. -/
structure AcOk (S : Ac) : Prop where
  nans : S.nans ≤ S.n
  up : S.up ≤ S.n
  dn : S.dn ≤ S.n
  no : S.no ≤ S.n
  z : S.z.natAbs ≤ S.n * P277
theorem acOk_none : AcOk acNone := ⟨Nat.le_refl _, Nat.le_refl _, Nat.le_refl _, Nat.le_refl _, Nat.zero_le _⟩
theorem toNat_le1 (b : Bool) : b.toNat ≤ 1 := by cases b <;> decide
theorem pN_abs (a : Nat) : (pN a).natAbs < 2 ^ 24 := by
  have hm : fracN a < 8388608 := Nat.mod_lt _ (by decide)
  have h2 : pM a < 16777216 := by unfold pM; split <;> omega
  unfold pN
  split
  · decide
  · split <;> omega
theorem pE_bd (a : Nat) : (pE a + 149).toNat ≤ 253 ∧ -149 ≤ pE a ∧ pE a ≤ 104 := by
  have hx : expN a < 256 := Nat.mod_lt _ (by decide)
  unfold pE
  split
  · omega
  · split <;> omega
theorem smp_abs (a : Nat) : (smp a).natAbs ≤ P277 := by
  unfold smp
  rw [Int.natAbs_mul, Int.natAbs_pow]
  have h1 := pN_abs a
  have h2 := (pE_bd a).1
  have h3 : (2 : Int).natAbs ^ (pE a + 149).toNat ≤ 2 ^ 253 := Nat.pow_le_pow_right (by decide) h2
  have h4 := Nat.mul_le_mul (Nat.le_of_lt h1) h3
  rw [p277] at h4
  exact h4
theorem acOk_one (a : Nat) : AcOk (acOne a) := ⟨toNat_le1 _, toNat_le1 _, toNat_le1 _, toNat_le1 _, by show (smp a).natAbs ≤ 1 * P277; rw [Nat.one_mul]; exact smp_abs a⟩
theorem AcOk.plus {S T : Ac} (h : AcOk S) (k : AcOk T) : AcOk (acPlus S T) :=
  ⟨Nat.add_le_add h.nans k.nans, Nat.add_le_add h.up k.up, Nat.add_le_add h.dn k.dn, Nat.add_le_add h.no k.no, by
    show (S.z + T.z).natAbs ≤ (S.n + T.n) * P277
    have h1 := h.z
    have h2 := k.z
    have h3 := Int.natAbs_add_le S.z T.z
    rw [Nat.add_mul]
    exact Nat.le_trans h3 (Nat.add_le_add h1 h2)⟩
theorem AcOk.all {S : Ac} (h : AcOk S) (x : Nat → Nat) : ∀ k, AcOk (acAll S x k)
  | 0 => h
  | k + 1 => (AcOk.all h x k).plus (acOk_one _)

/-! ### The kinds of a sample -/
theorem nan_exp (a : Nat) (h : (rd32 a).isNaN = true) : expN a = 255 := by
  rw [← class_nan, beq_iff_eq] at h
  unfold classN at h
  by_cases h1 : expN a = 255
  · exact h1
  · by_cases h2 : expN a = 0 ∧ fracN a = 0
    · rw [if_pos h2] at h; exact absurd h (by decide)
    · rw [if_neg h2, if_neg (fun k => h1 k.1), if_neg h1] at h
      split at h <;> exact absurd h (by decide)
theorem smp_inf (a : Nat) (h : expN a = 255) : smp a = 0 := by unfold smp pN; rw [if_pos h, Int.zero_mul]
theorem smp_nought : smp 2147483648 = 0 := by decide +kernel
theorem acOne_nan (a : Nat) (h : (rd32 a).isNaN = true) : acOne a = ⟨0, 1, 1, 0, 0, 0⟩ := by
  have hx := nan_exp a h
  have hn : a ≠ 2147483648 := fun e => by rw [e] at hx; revert hx; decide
  simp [acOne, smp_inf a hx, h, hn]
theorem acOne_dn (a : Nat) (h : (rd32 a).isNaN = false) (hx : expN a = 255) (hs : sgnB a = true) : acOne a = ⟨0, 1, 0, 0, 1, 0⟩ := by
  have hn : a ≠ 2147483648 := fun e => by rw [e] at hx; revert hx; decide
  simp [acOne, smp_inf a hx, h, hx, hs, hn]
theorem acOne_up (a : Nat) (h : (rd32 a).isNaN = false) (hx : expN a = 255) (hs : sgnB a = false) : acOne a = ⟨0, 1, 0, 1, 0, 0⟩ := by
  have hn : a ≠ 2147483648 := fun e => by rw [e] at hx; revert hx; decide
  simp [acOne, smp_inf a hx, h, hx, hs, hn]
theorem acOne_no : acOne 2147483648 = ⟨0, 1, 0, 0, 0, 1⟩ := by
  have hx : expN 2147483648 ≠ 255 := by decide
  have h : (rd32 2147483648).isNaN = false := by
    cases e : (rd32 2147483648).isNaN
    · rfl
    · exact absurd (nan_exp _ e) hx
  simp [acOne, smp_nought, h, hx]
theorem acOne_fin (a : Nat) (hx : expN a ≠ 255) (hn : a ≠ 2147483648) : acOne a = ⟨smp a, 1, 0, 0, 0, 0⟩ := by
  have h : (rd32 a).isNaN = false := by
    cases e : (rd32 a).isNaN
    · rfl
    · exact absurd (nan_exp _ e) hx
  simp [acOne, h, hx, hn]

/-! ### Limbs -/
/-- Limbs that are a whole number, modulo 2^448. -/
structure LimbsOf (f : Nat → Nat) (z : Int) : Prop where
  lt : ∀ k, k < 14 → f k < 4294967296
  eq : ∃ t : Int, (vt f 14 : Int) = z + t * (P448 : Int)
theorem LimbsOf.plus {f f' : Nat → Nat} {z y : Int} {a : Nat} {cy : Nat} (h : LimbsOf f z) (hl : ∀ k, k < 14 → f' k < 4294967296) (hy : ∃ t : Int, (a : Int) = y + t * (P448 : Int)) (e : vt f' 14 + cy * 2 ^ 448 = vt f 14 + a) : LimbsOf f' (z + y) := by
  refine ⟨hl, ?_⟩
  obtain ⟨t, ht⟩ := h.eq
  obtain ⟨s, hs⟩ := hy
  rw [p448] at e
  refine ⟨t + s - cy, ?_⟩
  obtain ⟨V, eV⟩ : ∃ V, V = vt f 14 := ⟨_, rfl⟩
  obtain ⟨V', eV'⟩ : ∃ V, V = vt f' 14 := ⟨_, rfl⟩
  rw [← eV] at e ht
  rw [← eV'] at e ⊢
  have e2 : (V' : Int) + (cy : Int) * (P448 : Int) = (V : Int) + (a : Int) := by rw [← Int.natCast_mul]; omega
  rw [Int.sub_mul, Int.add_mul]
  generalize (cy : Int) * (P448 : Int) = q1 at *
  generalize t * (P448 : Int) = q2 at *
  generalize s * (P448 : Int) = q3 at *
  omega
theorem LimbsOf.less {f f' : Nat → Nat} {z : Int} {a : Nat} {cy : Nat} (h : LimbsOf f z) (hl : ∀ k, k < 14 → f' k < 4294967296) (e : vt f' 14 + a = vt f 14 + cy * 2 ^ 448) : LimbsOf f' (z - (a : Int)) := by
  refine ⟨hl, ?_⟩
  obtain ⟨t, ht⟩ := h.eq
  rw [p448] at e
  refine ⟨t + cy, ?_⟩
  obtain ⟨V, eV⟩ : ∃ V, V = vt f 14 := ⟨_, rfl⟩
  obtain ⟨V', eV'⟩ : ∃ V, V = vt f' 14 := ⟨_, rfl⟩
  rw [← eV] at e ht
  rw [← eV'] at e ⊢
  have e2 : (V' : Int) + (a : Int) = (V : Int) + (cy : Int) * (P448 : Int) := by rw [← Int.natCast_mul]; omega
  rw [Int.add_mul]
  generalize (cy : Int) * (P448 : Int) = q1 at *
  generalize t * (P448 : Int) = q2 at *
  omega
theorem vt_none : ∀ n, vt (fun _ => 0) n = 0
  | 0 => rfl
  | n + 1 => by rw [vt, vt_none n]; simp
theorem limbsOf_zero : LimbsOf (fun _ => 0) 0 := ⟨fun _ _ => by decide, 0, by rw [vt_none]; simp⟩
/-- How limbs below 2^447 in size read. -/
theorem LimbsOf.read {f : Nat → Nat} {z : Int} (h : LimbsOf f z) (hz : z.natAbs < P447) :
    (f 13 < 2147483648 → 0 ≤ z ∧ vt f 14 = z.natAbs) ∧ (2147483648 ≤ f 13 → z < 0 ∧ ∀ m cy, m + vt f 14 + cy * 2 ^ 448 = 2 ^ 448 → m = z.natAbs) := by
  obtain ⟨t, ht⟩ := h.eq
  have h13 := h.lt 13 (by decide)
  have hv : vt f (13 + 1) = vt f 13 + f 13 * 2 ^ (32 * 13) := by rw [vt]
  rw [show (13 + 1 : Nat) = 14 from rfl] at hv
  have hlow : vt f 13 < 2 ^ (32 * 13) := vt_lt 13 fun k hk => h.lt k (by omega)
  rw [p416] at hv hlow
  rw [p447_416] at hz
  rw [p448, p448_416]
  rw [p448_416] at ht
  have hR := p416_pos
  generalize P416 = R at *
  obtain ⟨V, eV⟩ : ∃ V, V = vt f 14 := ⟨_, rfl⟩
  obtain ⟨q, eq⟩ : ∃ q, q = f 13 * R := ⟨_, rfl⟩
  rw [← eV] at ht hv ⊢
  rw [← eq] at hv
  have hq1 : f 13 < 2147483648 → q + R ≤ 2147483648 * R := fun h => by
    have := Nat.mul_le_mul_right R (show f 13 + 1 ≤ 2147483648 by omega)
    rw [Nat.add_mul, ← eq] at this; omega
  have hq2 : 2147483648 ≤ f 13 → 2147483648 * R ≤ q := fun h => by rw [eq]; exact Nat.mul_le_mul_right R h
  have hq3 : q + R ≤ 4294967296 * R := by
    have := Nat.mul_le_mul_right R (show f 13 + 1 ≤ 4294967296 by omega)
    rw [Nat.add_mul, ← eq] at this; omega
  have ht2 : (V : Int) = z + t * (4294967296 * (R : Int)) := by rw [ht, Int.natCast_mul]; rfl
  have hup : ∀ s : Int, 1 ≤ s → 4294967296 * (R : Int) ≤ s * (4294967296 * (R : Int)) := fun s hs => by
    have := Int.mul_le_mul_of_nonneg_right hs (show 0 ≤ 4294967296 * (R : Int) by omega)
    omega
  have hup2 : ∀ s : Int, 2 ≤ s → 2 * (4294967296 * (R : Int)) ≤ s * (4294967296 * (R : Int)) := fun s hs => Int.mul_le_mul_of_nonneg_right hs (show 0 ≤ 4294967296 * (R : Int) by omega)
  have hdn : ∀ s : Int, s ≤ -1 → s * (4294967296 * (R : Int)) ≤ -(4294967296 * (R : Int)) := fun s hs => by
    have := Int.mul_le_mul_of_nonneg_right hs (show 0 ≤ 4294967296 * (R : Int) by omega)
    omega
  refine ⟨fun h1 => ?_, fun h1 => ?_⟩
  · have b1 := hq1 h1
    have t0 : t = 0 := by
      rcases Int.lt_trichotomy t 0 with h2 | h2 | h2
      · have := hdn t (by omega); omega
      · exact h2
      · have := hup t (by omega); omega
    subst t0
    omega
  · have b1 := hq2 h1
    have t1 : t = 1 := by
      rcases (show t ≤ -1 ∨ t = 0 ∨ t = 1 ∨ 2 ≤ t by omega) with h2 | h2 | h2 | h2
      · have := hdn t h2; omega
      · subst h2; omega
      · exact h2
      · have := hup2 t h2; omega
    subst t1
    have hz0 : z < 0 := by omega
    refine ⟨hz0, fun m cy e => ?_⟩
    rcases Nat.eq_zero_or_pos cy with h2 | h2
    · subst h2; omega
    · have := Nat.mul_le_mul_right (4294967296 * R) (show 1 ≤ cy by omega)
      omega
end Go.Proofs.Ytmeifciagepmpaa
