/- Plain: the machine's floats are the reference's. -/
import Derived.Test.YtmeifciagepmpaaFlP
namespace Go.Proofs.Ytmeifciagepmpaa
open Go.RowKit
set_option linter.unusedSimpArgs false
set_option linter.unusedVariables false

theorem read_write_exact (fr ex bias top : Nat) (hf : IsForm fr ex bias top) (s : Bool) (m : Nat) (p : Int) (j : Nat) (hm : m ≠ 0) (hj : bitlen m + j = fr + 1) (h1 : 1 - (bias : Int) ≤ p - (j : Int)) (h2 : p - (j : Int) + (bias : Int) < (top : Int)) :
    (fmt fr ex).read ((fmt fr ex).write (.number s m p)) = .number s (m * 2 ^ j) (p - (j : Int)) := by
  have ht : rTo fr bias m p = p - (j : Int) := by unfold rTo; omega
  have hk : rKept m (p - (j : Int) - p) false = m * 2 ^ j := by
    unfold rKept
    rw [if_neg (by omega), show (-(p - (j : Int) - p)).toNat = j by omega]
  have hb := bitlen_scale hm j
  obtain ⟨k, ek⟩ : ∃ k, k = m * 2 ^ j := ⟨_, rfl⟩
  have hk0 : k ≠ 0 := by rw [ek]; exact Nat.mul_ne_zero hm (Nat.pos_iff_ne_zero.1 (Nat.two_pow_pos j))
  obtain ⟨b1, b2, _⟩ := bitlen_spec hk0
  rw [← ek] at hb hk ⊢
  rw [hb, hj] at b1 b2
  rw [show fr + 1 - 1 = fr by omega] at b1
  rw [Nat.pow_succ] at b2
  obtain ⟨xp, hxp⟩ := Int.eq_ofNat_of_zero_le (by omega : 0 ≤ p - (j : Int) + (bias : Int))
  have hP := Nat.two_pow_pos fr
  rw [write_num fr ex bias top hf, ht, hk]
  have hr : rRung fr bias top (p - (j : Int)) k = xp * 2 ^ fr + (k - 2 ^ fr) := by
    unfold rRung
    rw [if_neg (by omega), if_neg (by omega), if_neg (by omega), hxp, Int.toNat_natCast]
  rw [hr]
  have hle : xp * 2 ^ fr + (k - 2 ^ fr) ≤ top * 2 ^ fr := by
    have : (xp + 1) * 2 ^ fr ≤ top * 2 ^ fr := Nat.mul_le_mul_right _ (by omega)
    rw [Nat.add_mul] at this; omega
  obtain ⟨q1, q2, q3⟩ := read_rung fr ex bias top hf s _ hle
  have q4 : (xp * 2 ^ fr + (k - 2 ^ fr)) / 2 ^ fr = xp := by
    rw [Nat.add_comm, Nat.add_mul_div_right _ _ hP, Nat.div_eq_of_lt (by omega), Nat.zero_add]
  have q5 : (xp * 2 ^ fr + (k - 2 ^ fr)) % 2 ^ fr = k - 2 ^ fr := by
    rw [Nat.add_comm, Nat.add_mul_mod_self_right, Nat.mod_eq_of_lt (by omega)]
  rw [read_parts fr ex bias top hf, q1, q2, q3, q4, q5, if_neg (by omega), if_neg (by omega)]
  rw [show 2 ^ fr + (k - 2 ^ fr) = k by omega, show (xp : Int) - (bias : Int) = p - (j : Int) by omega]
  congr 1
  cases s <;> rfl
theorem read_zero (fr ex bias top : Nat) (hf : IsForm fr ex bias top) (s : Bool) (p : Int) : (fmt fr ex).read ((fmt fr ex).write (.number s 0 p)) = .number s 0 (1 - (bias : Int)) := by
  rw [write_zero fr ex bias top hf]
  obtain ⟨q1, q2, q3⟩ := read_rung fr ex bias top hf s 0 (Nat.zero_le _)
  rw [Nat.add_zero] at q1 q2 q3
  have htop : 1 ≤ top := (form_facts fr ex bias top hf).2.2
  rw [read_parts fr ex bias top hf, q1, q2, q3]
  rw [Nat.zero_div, if_neg (by omega), if_pos rfl, Nat.zero_mod]
  congr 1
  cases s <;> rfl
theorem read_inf (fr ex bias top : Nat) (hf : IsForm fr ex bias top) (s : Bool) : (fmt fr ex).read ((fmt fr ex).write (.infinity s)) = .infinity s := by
  rw [write_inf fr ex bias top hf]
  obtain ⟨q1, q2, q3⟩ := read_rung fr ex bias top hf s (top * 2 ^ fr) (Nat.le_refl _)
  have hP := Nat.two_pow_pos fr
  rw [read_parts fr ex bias top hf, q1, q2, q3, Nat.mul_div_cancel _ hP, if_pos rfl, Nat.mul_mod_left, if_pos rfl]
  congr 1
  cases s <;> rfl

/-- A word of 32 bits, read in 64. -/
theorem read32_bd (a : Nat) : ∀ s m p, rd32 a = .number s m p → m < 16777216 ∧ -149 ≤ p ∧ p ≤ 104 := fun s m p h => by
  have hm := Nat.mod_lt a (Nat.two_pow_pos 23)
  have hx := Nat.mod_lt (a / 2 ^ 23) (Nat.two_pow_pos 8)
  rw [rd32, read_parts 23 8 150 255 isF32] at h
  by_cases h1 : a / 2 ^ 23 % 2 ^ 8 = 255
  · rw [if_pos h1] at h; split at h <;> cases h
  · rw [if_neg h1] at h
    split at h
    · injection h with _ h2 h3; omega
    · injection h with _ h2 h3; omega
theorem wide_read (a : Nat) (hn : (rd32 a).isNaN = false) : (∃ s, rd32 a = .infinity s ∧ rd64 (wide64 a) = .infinity s) ∨ (∃ s p, rd32 a = .number s 0 p ∧ rd64 (wide64 a) = .number s 0 (-1074)) ∨
    ∃ (s : Bool) (m : Nat) (p : Int) (j : Nat), m ≠ 0 ∧ m < 16777216 ∧ -149 ≤ p ∧ p ≤ 104 ∧ j ≤ 53 ∧ rd32 a = .number s m p ∧ rd64 (wide64 a) = .number s (m * 2 ^ j) (p - (j : Int)) := by
  have hbd := read32_bd a
  unfold wide64 told64
  cases h : rd32 a with
  | nan s t => rw [h] at hn; cases hn
  | infinity s => exact .inl ⟨s, rfl, read_inf 52 11 1075 2047 isF64 s⟩
  | number s m p =>
    obtain ⟨b1, b2, b3⟩ := hbd s m p h
    by_cases hm : m = 0
    · subst hm; exact .inr (.inl ⟨s, p, rfl, read_zero 52 11 1075 2047 isF64 s p⟩)
    · have hb1 : bitlen m ≤ 24 := (bitlen_lt m 24).2 b1
      have hb2 := (bitlen_spec hm).2.2
      refine .inr (.inr ⟨s, m, p, 53 - bitlen m, hm, b1, b2, b3, by omega, rfl, ?_⟩)
      exact read_write_exact 52 11 1075 2047 isF64 s m p (53 - bitlen m) hm (by omega) (by omega) (by omega)
theorem first_eq (a : Nat) (ha : a < 4294967296) : first32 a = told32 (rd32 a) := by
  unfold first32
  cases h : (rd32 a).isNaN with
  | true =>
    rw [if_pos rfl]
    cases hd : rd32 a with
    | nan s t => rfl
    | infinity s => rw [hd] at h; cases h
    | number s m p => rw [hd] at h; cases h
  | false =>
    rw [if_neg (by decide)]
    have hw := write_read 23 8 150 255 isF32 a ha h
    cases hd : rd32 a with
    | nan s t => rw [hd] at h; cases h
    | infinity s => rw [show rd32 a = (fmt 23 8).read a from rfl] at hd; rw [hd] at hw; exact hw.symm
    | number s m p => rw [show rd32 a = (fmt 23 8).read a from rfl] at hd; rw [hd] at hw; exact hw.symm
theorem told_finer (a : Nat) (hn : (rd32 a).isNaN = false) : told32 (rd64 (wide64 a)) = told32 (rd32 a) := by
  rcases wide_read a hn with ⟨s, h1, h2⟩ | ⟨s, p, h1, h2⟩ | ⟨s, m, p, j, hm, _, _, _, _, h1, h2⟩
  · rw [h1, h2]
  · rw [h1, h2]
    exact (write_zero 23 8 150 255 isF32 s _).trans (write_zero 23 8 150 255 isF32 s _).symm
  · rw [h1, h2]
    exact write_scale 23 8 150 255 isF32 s m j p hm

/-- A float's bits, a NaN's made one. -/
def canon32 (r : Nat) : Nat := if (rd32 r).isNaN then 2143289344 else r
def canon64 (r : Nat) : Nat := if (rd64 r).isNaN then 9221120237041090560 else r
theorem sum_not_nan {a b d : Ieee.Datum} (h : a.sum b = some d) : d.isNaN = false := by
  cases a with
  | nan s t => cases h
  | infinity s =>
    cases b with
    | nan s t => cases h
    | infinity t =>
      unfold Ieee.Datum.sum at h
      dsimp only at h
      split at h
      · injection h with h; subst h; rfl
      · cases h
    | number t m p => injection h with h; subst h; rfl
  | number s m p =>
    cases b with
    | nan s t => cases h
    | infinity t => injection h with h; subst h; rfl
    | number t n q => injection h with h; subst h; rfl
theorem told_write (fr ex top : Nat) {d : Ieee.Datum} (h : d.isNaN = false) : toldW fr ex top d = (fmt fr ex).write d := by
  cases d with
  | nan s t => cases h
  | infinity s => rfl
  | number s m p => rfl
theorem fadd32_some {a b r : Nat} (h : FloatKind.f32.format.add a b = some r) : add32 a b = r ∧ (rd32 r).isNaN = false := by
  have h' : ((rd32 a).sum (rd32 b)).map (fmt 23 8).write = some r := h
  cases hs : (rd32 a).sum (rd32 b) with
  | none => rw [hs] at h'; cases h'
  | some d =>
    rw [hs] at h'
    injection h' with h'
    have hd := sum_not_nan hs
    unfold add32 plusD
    rw [hs, Option.getD_some]
    exact ⟨(told_write 23 8 255 hd).trans h', by rw [← h']; exact write_not_nan 23 8 150 255 isF32 d hd⟩
theorem fadd32_none {a b : Nat} (h : FloatKind.f32.format.add a b = none) : add32 a b = 2143289344 := by
  have h' : ((rd32 a).sum (rd32 b)).map (fmt 23 8).write = none := h
  cases hs : (rd32 a).sum (rd32 b) with
  | some d => rw [hs] at h'; cases h'
  | none => unfold add32 plusD; rw [hs]; rfl
theorem fsub32_some {a b r : Nat} (h : FloatKind.f32.format.sub a b = some r) : sub32 a b = r ∧ (rd32 r).isNaN = false := by
  have h' : ((rd32 a).sum (rd32 b).opposite).map (fmt 23 8).write = some r := h
  cases hs : (rd32 a).sum (rd32 b).opposite with
  | none => rw [hs] at h'; cases h'
  | some d =>
    rw [hs] at h'
    injection h' with h'
    have hd := sum_not_nan hs
    unfold sub32 plusD
    rw [hs, Option.getD_some]
    exact ⟨(told_write 23 8 255 hd).trans h', by rw [← h']; exact write_not_nan 23 8 150 255 isF32 d hd⟩
theorem fsub32_none {a b : Nat} (h : FloatKind.f32.format.sub a b = none) : sub32 a b = 2143289344 := by
  have h' : ((rd32 a).sum (rd32 b).opposite).map (fmt 23 8).write = none := h
  cases hs : (rd32 a).sum (rd32 b).opposite with
  | some d => rw [hs] at h'; cases h'
  | none => unfold sub32 plusD; rw [hs]; rfl
theorem fadd64_some {a b r : Nat} (h : FloatKind.f64.format.add a b = some r) : add64 a b = r ∧ (rd64 r).isNaN = false := by
  have h' : ((rd64 a).sum (rd64 b)).map (fmt 52 11).write = some r := h
  cases hs : (rd64 a).sum (rd64 b) with
  | none => rw [hs] at h'; cases h'
  | some d =>
    rw [hs] at h'
    injection h' with h'
    have hd := sum_not_nan hs
    unfold add64 plusD
    rw [hs, Option.getD_some]
    exact ⟨(told_write 52 11 2047 hd).trans h', by rw [← h']; exact write_not_nan 52 11 1075 2047 isF64 d hd⟩
theorem fadd64_none {a b : Nat} (h : FloatKind.f64.format.add a b = none) : add64 a b = 9221120237041090560 := by
  have h' : ((rd64 a).sum (rd64 b)).map (fmt 52 11).write = none := h
  cases hs : (rd64 a).sum (rd64 b) with
  | some d => rw [hs] at h'; cases h'
  | none => unfold add64 plusD; rw [hs]; rfl
theorem order_self (d : Ieee.Datum) : (d.order d != some .eq) = d.isNaN := by
  cases d with
  | nan s t => rfl
  | infinity s => cases s <;> rfl
  | number s m p =>
    show (some (compare (Ieee.signed s m (p - min p p).toNat) (Ieee.signed s m (p - min p p).toNat)) != some Ordering.eq) = false
    have : compare (Ieee.signed s m (p - min p p).toNat) (Ieee.signed s m (p - min p p).toNat) = Ordering.eq := by
      simp [compare, compareOfLessAndEq]
    rw [this]; rfl
end Go.Proofs.Ytmeifciagepmpaa
