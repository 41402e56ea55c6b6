/- kernel.Share. -/
import Derived.Test.YtdcpeeolfgohmaaShareB
namespace Go.Proofs.Ytdcpeeolfgohmaa
open Go.RowKit
set_option linter.unusedSimpArgs false
set_option linter.unusedVariables false

/-- May these weights be shared? -/
def ShareOk (x : Nat → Int) (n : Nat) : Prop := 1 ≤ n ∧ n ≤ 64 ∧ (∀ i, i < n → -1099511627776 ≤ x i ∧ x i ≤ 1099511627776) ∧ 1 ≤ sumTo x n
/-- What a call of Share comes to. -/
def ShareEnd (w : World) (n : Nat) (x : Nat → Int) (e : Ending) (w' : World) : Prop :=
  (ShareOk x n ∧ ∃ bo S, e = .returned (.tuple #[.slice (some ⟨bo, 0, none⟩) n n, .int .i64 0]) ∧ SharedIn w n x (sumTo x n) bo S w') ∨
  (¬ ShareOk x n ∧ e = .returned (.tuple #[.slice none 0 0, .int .i64 91]) ∧ Below w.heap.size w w')

theorem sumTo_bd' {x : Nat → Int} {i : Nat} (h : ∀ k, k < i → -1099511627776 ≤ x k ∧ x k ≤ 1099511627776) (hi : i ≤ 64) : -70368744177664 ≤ sumTo x i ∧ sumTo x i ≤ 70368744177664 := by
  have h1 := sumTo_bd (B := 1099511627776) (by omega) h i (Nat.le_refl _)
  have h2 : (i : Int) * 1099511627776 ≤ 64 * 1099511627776 := Int.mul_le_mul_of_nonneg_right (by omega) (by omega)
  omega

set_option maxHeartbeats 1600000 in
set_option maxRecDepth 100000 in
theorem kShare_calls (w : World) (n c : Nat) (x : Nat → Int) (A : Option Addr) (hr : 1 ≤ n → ∃ ad, A = some ad ∧ ∀ i, i < n → w.cell? (ad.add i) = some (.int .i64 (x i))) (hn64 : n ≤ 9223372036854775807) :
    Calls Try.prog 48 #[.slice A n c] w fun e w' => ShareEnd w n x e w' := by
  by_cases h0 : n = 0
  · subst h0
    have hno : Hid (¬ ShareOk x 0) := fun h => by have := h.1; omega
    go_enter Try.func48, Try.ntmps48
    go_wp2
    go_ret2
    exact .inr ⟨hno.out, rfl, Below.refl _ _⟩
  · by_cases h64 : 64 < n
    · have hno : Hid (¬ ShareOk x n) := fun h => by have := h.2.1; omega
      have hb0 : ((n : Int) == 0) = false := by rw [beq_eq_false_iff_ne]; omega
      have hb1 : decide ((64 : Int) < (n : Int)) = true := decide_eq_true (by omega)
      clear hr
      go_enter Try.func48, Try.ntmps48
      go_wp2
      go_ret2
      exact .inr ⟨hno.out, rfl, Below.refl _ _⟩
    · obtain ⟨ad, rfl, hcell⟩ := hr (by omega)
      have HR := Lib.hid hcell
      have hb0 : ((n : Int) == 0) = false := by rw [beq_eq_false_iff_ne]; omega
      have hb1 : decide ((64 : Int) < (n : Int)) = false := decide_eq_false (by omega)
      have hn : n ≤ 64 := by omega
      have hn1 : 1 ≤ n := by omega
      clear hr hcell h0 h64
      go_enter Try.func48, Try.ntmps48
      go_wp2_with fail
      clear hb0 hb1
      go_loop [4, 6, 17] (fun v4 v6 v17 => ∃ i : Nat, v17 = .int .i64 i ∧ i ≤ n ∧ v4 = .int .i64 (sumTo x i) ∧ Hid (∀ k, k < i → -1099511627776 ≤ x k ∧ x k ≤ 1099511627776)) (fun _ _ v17 => n - (intOf v17).toNat)
      case atStart => exact ⟨0, rfl, by omega, rfl, fun k hk => by omega⟩
      case round =>
        obtain ⟨i, rfl, hi, rfl, HB⟩ := hrel
        have hs := sumTo_bd' HB.out (by omega)
        obtain ⟨z, ez⟩ : ∃ z, z = sumTo x i := ⟨_, rfl⟩
        rw [← ez] at hs ⊢
        have EZ := Lib.hid ez
        obtain ⟨hs1, hs2⟩ := hs
        clear ez
        by_cases hlt : i < n
        · have hltz : (i : Int) < (n : Int) := by omega
          obtain ⟨y, ey⟩ : ∃ y, y = x i := ⟨_, rfl⟩
          have cx := HR.out i hlt
          rw [← ey] at cx
          have EY := Lib.hid ey
          clear ey
          by_cases hg : 1099511627776 < y
          · have hno : Hid (¬ ShareOk x n) := fun h => by have := h.2.2.1 i hlt; rw [← EY.out] at this; omega
            have hd : decide ((1099511627776 : Int) < y) = true := decide_eq_true hg
            go_wp2
            go_ret2
            exact .inr ⟨hno.out, rfl, Below.refl _ _⟩
          · have hd : decide ((1099511627776 : Int) < y) = false := decide_eq_false hg
            by_cases hl : y < -1099511627776
            · have hno : Hid (¬ ShareOk x n) := fun h => by have := h.2.2.1 i hlt; rw [← EY.out] at this; omega
              have hd2 : decide (y < (-1099511627776 : Int)) = true := decide_eq_true hl
              go_wp2
              go_ret2
              exact .inr ⟨hno.out, rfl, Below.refl _ _⟩
            · have hd2 : decide (y < (-1099511627776 : Int)) = false := decide_eq_false hl
              go_wp2
              go_round
              case rel =>
                refine ⟨i + 1, by go_num, by omega, ?_, fun k hk => ?_⟩
                · rw [sumTo, ← EZ.out, ← EY.out]
                · by_cases e : k = i
                  · rw [e, ← EY.out]; omega
                  · exact HB.out k (by omega)
              case measure => simp [intOf]; omega
        · have e : i = n := by omega
          subst e
          by_cases hp : z ≤ 0
          · have hno : Hid (¬ ShareOk x i) := fun h => by have := h.2.2.2; rw [← EZ.out] at this; omega
            have hd : decide (z ≤ 0) = true := decide_eq_true hp
            go_wp2
            go_ret2
            exact .inr ⟨hno.out, rfl, Below.refl _ _⟩
          · have hd : decide (z ≤ 0) = false := decide_eq_false hp
            have hc := shares_calls w i c x z ad hn1 hn (by omega) (by omega) EZ.out HR.out HB.out
            have HC := Lib.hid hc
            clear hc
            go_wp2_with (go_at_call 94; refine HC.out.mono ?_; rintro e1 w1 ⟨bo, S, rfl, hq⟩; have HQ := Lib.hid hq; clear hq)
            go_ret2
            refine .inl ⟨⟨hn1, hn, HB.out, by rw [← EZ.out]; omega⟩, bo, S, rfl, ?_⟩
            rw [← EZ.out]; exact HQ.out
end Go.Proofs.Ytdcpeeolfgohmaa
