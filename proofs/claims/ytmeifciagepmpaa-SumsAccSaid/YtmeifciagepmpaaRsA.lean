/- The reference's Sum: its state; Num.Zero. The reference's Sum.Plus. -/
import Derived.Test.YtmeifciagepmpaaLawL
namespace Go.Proofs.Ytmeifciagepmpaa
open Go.RowKit Go.Proofs.YtmeifciagepmpaaW.PrintWords
set_option linter.unusedSimpArgs false
set_option linter.unusedVariables false

def isZ : Ieee.Datum → Bool
  | .number _ m _ => m == 0
  | _ => false

set_option maxHeartbeats 1600000 in
set_option maxRecDepth 100000 in
theorem zero_calls (d : Ieee.Datum) (u : Value) (w : World) (hu : NumAt w u d) : Calls Try.prog 93 #[u] w fun e w' => Gives w (.bool (isZ d)) e w' := by
  cases d with
  | nan s t =>
    obtain ⟨s', A, n, c, e, b, rfl⟩ := hu
    unfold numV
    go_enter Try.func93, Try.ntmps93
    go_wp2
    go_ret
    exact ⟨rfl, (Below.refl _ _).alloc (Nat.le_refl _) _⟩
  | infinity s =>
    obtain ⟨A, n, c, e, b, rfl⟩ := hu
    unfold numV
    go_enter Try.func93, Try.ntmps93
    go_wp2
    go_ret
    exact ⟨rfl, (Below.refl _ _).alloc (Nat.le_refl _) _⟩
  | number s m p =>
    obtain ⟨A, c, rfl, -⟩ := hu
    have e0 : len32 m = 0 ↔ m = 0 := ⟨fun h => by
      by_cases h1 : m = 0
      · exact h1
      · have := (lt_len32 m 0).1 (by omega); omega, fun h => by rw [h]; rfl⟩
    unfold numV
    by_cases hm : m = 0
    · subst hm
      clear e0
      go_enter Try.func93, Try.ntmps93
      go_wp2
      go_ret
      exact ⟨rfl, (Below.refl _ _).alloc (Nat.le_refl _) _⟩
    · have hb : ((len32 m : Int) == 0) = false := by rw [beq_eq_false_iff_ne]; have := fun h => hm (e0.1 h); omega
      have E : Hid (isZ (.number s m p) = false) := (show (m == 0) = false by simpa using hm)
      rw [E.out]
      obtain ⟨l, el⟩ : ∃ l, l = len32 m := ⟨_, rfl⟩
      rw [← el] at hb ⊢
      clear e0 hm el E
      go_enter Try.func93, Try.ntmps93
      go_wp2
      go_ret
      exact ⟨rfl, (Below.refl _ _).alloc (Nat.le_refl _) _⟩

/-! ### Plain: what a number is in units of 2^-149 -/
def valZ (s : Bool) (m : Nat) (e : Int) : Int := if s then -((m : Int) * 2 ^ (e + 149).toNat) else (m : Int) * 2 ^ (e + 149).toNat
theorem smp_read (a : Nat) (hx : expN a ≠ 255) : rd32 a = .number (sgnB a) (pM a) (pE a) ∨ (4294967296 ≤ a) := by
  by_cases ha : 4294967296 ≤ a
  · exact .inr ha
  · left
    have hs : (a / 2 ^ (23 + 8) % 2 == 1) = sgnB a := by
      unfold sgnB
      by_cases h : 2147483648 ≤ a
      · have : a / 2 ^ (23 + 8) % 2 = 1 := by omega
        rw [this]; simp [h]
      · have : a / 2 ^ (23 + 8) % 2 = 0 := by omega
        rw [this]; simp [h]
    rw [rd32, read_parts 23 8 150 255 isF32, hs, if_neg (show ¬ a / 2 ^ 23 % 2 ^ 8 = 255 from hx)]
    unfold pM pE
    by_cases h0 : expN a = 0
    · rw [if_pos (show a / 2 ^ 23 % 2 ^ 8 = 0 from h0), if_pos h0, if_neg hx, if_pos h0]; rfl
    · rw [if_neg (show ¬ a / 2 ^ 23 % 2 ^ 8 = 0 from h0), if_neg h0, if_neg hx, if_neg h0]
      have e1 : 2 ^ 23 + a % 2 ^ 23 = fracN a + 8388608 := by unfold fracN; omega
      rw [e1]
      rfl
theorem valZ_smp (a : Nat) (hx : expN a ≠ 255) : valZ (sgnB a) (pM a) (pE a) = smp a := by
  unfold valZ smp pN
  rw [if_neg hx]
  cases sgnB a
  · rfl
  · rw [if_pos rfl, if_pos rfl, Int.neg_mul]
theorem valZ_plus (s t : Bool) (m n : Nat) (p q : Int) (hp : -149 ≤ p) (hq : -149 ≤ q) : ∃ s' m', plusD (.number s m p) (.number t n q) = .number s' m' (min p q) ∧ valZ s' m' (min p q) = valZ s m p + valZ t n q := by
  obtain ⟨b, eb⟩ : ∃ b : Nat, (b : Int) = min p q + 149 := ⟨(min p q + 149).toNat, by omega⟩
  have h1 : (p + 149).toNat = (p - min p q).toNat + b := by omega
  have h2 : (q + 149).toNat = (q - min p q).toNat + b := by omega
  have h3 : (min p q + 149).toNat = b := by omega
  refine ⟨_, _, rfl, ?_⟩
  unfold valZ
  rw [h1, h2, h3, Int.pow_add, Int.pow_add]
  obtain ⟨i, ei⟩ : ∃ i, i = (p - min p q).toNat := ⟨_, rfl⟩
  obtain ⟨j, ej⟩ : ∃ i, i = (q - min p q).toNat := ⟨_, rfl⟩
  rw [← ei, ← ej]
  have hS : ∀ (s : Bool) (m k : Nat), (if s = true then -((m : Int) * (2 ^ k * 2 ^ b)) else (m : Int) * (2 ^ k * 2 ^ b)) = Ieee.signed s m k * 2 ^ b := fun s m k => by
    unfold Ieee.signed
    rw [Nat.shiftLeft_eq]
    cases s
    · simp [Int.mul_assoc]
    · simp [Int.mul_assoc, Int.neg_mul]
  rw [hS, hS, ← Int.add_mul]
  obtain ⟨T, eT⟩ : ∃ T, T = Ieee.signed s m i + Ieee.signed t n j := ⟨_, rfl⟩
  rw [← eT]
  by_cases h0 : T = 0
  · rw [h0]; simp
  · rw [if_neg h0]
    by_cases hneg : T < 0
    · rw [if_pos (decide_eq_true hneg), ← Int.neg_mul]
      congr 1
      omega
    · rw [if_neg (by simpa using hneg)]
      congr 1
      omega
end Go.Proofs.Ytmeifciagepmpaa
