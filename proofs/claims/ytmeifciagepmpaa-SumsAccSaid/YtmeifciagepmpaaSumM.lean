/- sums.Left64, halideref3.Left64: one behind the other, in binary64. -/
import Derived.Test.YtmeifciagepmpaaSumL
namespace Go.Proofs.Ytmeifciagepmpaa
open Go.RowKit Go.Proofs.YtmeifciagepmpaaW.PrintWords
set_option linter.unusedSimpArgs false
set_option linter.unusedVariables false

def left64 (x : Nat → Nat) : Nat → Nat
  | 0 => wide64 (x 0)
  | k + 1 => add64 (left64 x k) (wide64 (x (k + 1)))
def leftOf64 (x : Nat → Nat) (n : Nat) : Nat := if n = 0 then 0 else left64 x (n - 1)
theorem leftOf64_zero (x : Nat → Nat) : leftOf64 x 0 = 0 := rfl
theorem leftOf64_succ (x : Nat → Nat) (k : Nat) : leftOf64 x (k + 1) = left64 x k := rfl
theorem wide64_lt (a : Nat) : wide64 a < 18446744073709551616 := told64_lt _
theorem left64_lt (x : Nat → Nat) (k : Nat) : left64 x k < 18446744073709551616 := by
  cases k with
  | zero => exact wide64_lt _
  | succ k => exact add64_lt _ _
theorem wide64_not_nan {a : Nat} (hn : (rd32 a).isNaN = false) : (rd64 (wide64 a)).isNaN = false := by
  rcases wide_read a hn with ⟨s, h1, h2⟩ | ⟨s, p, h1, h2⟩ | ⟨s, m, p, j, _, _, _, _, _, h1, h2⟩ <;> rw [h2] <;> rfl
theorem canon_wide (a : Nat) : canon64 (wide64 a) = wide64 a := by
  cases hn : (rd32 a).isNaN with
  | true => rw [wide64_nan a hn]; exact canon64_nan (by decide +kernel)
  | false => exact canon64_num (wide64_not_nan hn)
theorem add64_canon (r b : Nat) : add64 (canon64 r) b = add64 r b := by
  cases hn : (rd64 r).isNaN with
  | true =>
    rw [canon64_nan hn]
    have h1 : ∀ q, (rd64 q).isNaN = true → add64 q b = 9221120237041090560 := fun q hq => by
      unfold add64
      cases h : rd64 q with
      | nan s t => rfl
      | infinity s => rw [h] at hq; cases hq
      | number s m p => rw [h] at hq; cases hq
    rw [h1 r hn, h1 9221120237041090560 (by decide +kernel)]
  | false => rw [canon64_num hn]

set_option maxHeartbeats 1600000 in
set_option maxRecDepth 100000 in
theorem rLeft64_calls (w : World) (A : Option Addr) (n c : Nat) (x : Nat → Nat) (hr : RowU w A n x) (hc : n ≤ c) (hn : n ≤ 1000000000) (hx : ∀ k, k < n → x k < 4294967296) :
    Calls Try.prog 17 #[.slice A n c] w fun e w' => Gives w (.int .u64 ((leftOf64 x n : Nat) : Int)) e w' := by
  have HX := Lib.hid hx
  have HR := Lib.hid hr
  clear hx hr
  rcases Nat.eq_zero_or_pos n with h0 | h0
  · subst h0
    go_enter Try.func17, Try.ntmps17
    go_wp2
    go_ret
    exact ⟨rfl, Below.refl _ _⟩
  · obtain ⟨m, rfl⟩ : ∃ m, n = m + 1 := ⟨n - 1, by omega⟩
    rw [leftOf64_succ]
    obtain ⟨ad, rfl, hca⟩ := HR.out (by omega)
    have C0 := hca 0 (by omega)
    rw [u_add0] at C0
    have HC := Lib.hid hca
    obtain ⟨a, ea⟩ : ∃ a, a = x 0 := ⟨_, rfl⟩
    rw [← ea] at C0
    have ha : a < 4294967296 := by rw [ea]; exact HX.out 0 (by omega)
    have HF := Lib.hid fun W => rWide_calls a ha W
    obtain ⟨s0, es⟩ : ∃ s0, s0 = wide64 a := ⟨_, rfl⟩
    rw [← es] at HF
    have ES : Hid (s0 = left64 x 0) := (show _ = _ by rw [es, ea]; rfl)
    clear hca ea es
    have hz : (((m + 1 : Nat) : Int) == 0) = false := by rw [beq_eq_false_iff_ne]; omega
    have hm : (0 : Int) < ((m + 1 : Nat) : Int) := by omega
    go_enter Try.func17, Try.ntmps17
    go_wp2_with (go_at_call 54; refine (HF.out _).mono ?_; rintro e1 w1 ⟨rfl, hbel⟩; have HB1 := Lib.hid hbel; clear hbel)
    go_loopg [3, 4] m (fun kq v3 v4 wr => ∃ k : Nat, v3 = .int .u64 ((left64 x (k - 1) : Nat) : Int) ∧ v4 = .int .i64 (k : Int) ∧ 1 ≤ k ∧ k ≤ m + 1 ∧ m + 1 ≤ k + kq ∧ Aside (Below w.heap.size w wr))
    case atStart => exact ⟨1, by rw [← ES.out], by first | rfl | go_num, by omega, by omega, by omega, HB1.out⟩
    case round =>
      obtain ⟨k, rfl, rfl, hk1, hk, hkq, HB⟩ := hrel
      obtain ⟨v, ev⟩ : ∃ v, v = left64 x (k - 1) := ⟨_, rfl⟩
      have hv : v < 18446744073709551616 := by rw [ev]; exact left64_lt _ _
      rw [← ev]
      have EV := Lib.hid ev
      clear ev
      by_cases hlt : k < m + 1
      · have hltz : (k : Int) < ((m + 1 : Nat) : Int) := by omega
        obtain ⟨b, eb⟩ : ∃ b, b = x k := ⟨_, rfl⟩
        have hb : b < 4294967296 := by rw [eb]; exact HX.out k (by omega)
        have c1 := HC.out k (by omega)
        have c2 := HB.out.cell (World.block_lt_of_cell? _ _ c1)
        rw [c1, ← eb] at c2
        have HW := Lib.hid fun W => rWide_calls b hb W
        obtain ⟨u, eu⟩ : ∃ u, u = wide64 b := ⟨_, rfl⟩
        have hu : u < 18446744073709551616 := by rw [eu]; exact wide64_lt _
        rw [← eu] at HW
        have HA := Lib.hid fun W => rAdd64_calls v u hv hu W
        have EU := Lib.hid eu
        clear eu
        have EB := Lib.hid eb
        clear c1 eb
        go_wp2_with (first
          | (go_at_call 54; refine (HW.out _).mono ?_; rintro e1 w3 ⟨rfl, hbel⟩; have HB3 := Lib.hid (ujoin HB.out hbel); clear hbel HB c2)
          | (go_at_call 55; refine (HA.out _).mono ?_; rintro e2 w2 ⟨rfl, hbel⟩; have HB2 := Lib.hid (ujoin HB3.out hbel); clear hbel HB3))
        go_roundg (m + 1 - (k + 1))
        case measure => omega
        case rel => exact ⟨k + 1, by rw [EV.out, EU.out, EB.out, show k + 1 - 1 = (k - 1) + 1 by omega, left64, show k - 1 + 1 = k by omega], by go_num, by omega, by omega, by omega, HB2.out⟩
      · have hltz : ¬ (k : Int) < ((m + 1 : Nat) : Int) := by omega
        have e : k - 1 = m := by omega
        rw [e] at EV
        have HB2 := Lib.hid HB.out
        clear HB e
        go_wp2
        go_ret
        exact ⟨ret_int (by rw [EV.out]), HB2.out⟩

set_option maxHeartbeats 1600000 in
set_option maxRecDepth 100000 in
theorem pLeft64_calls (w : World) (A : Option Addr) (n c : Nat) (x : Nat → Nat) (hr : RowU w A n x) (hc : n ≤ c) (hn : n ≤ 1000000000) (hx : ∀ k, k < n → x k < 4294967296) :
    Calls Try.prog 16 #[.slice A n c] w fun e w' => Gives w (.int .u64 ((leftOf64 x n : Nat) : Int)) e w' := by
  have HX := Lib.hid hx
  have HR := Lib.hid hr
  clear hx hr
  rcases Nat.eq_zero_or_pos n with h0 | h0
  · subst h0
    go_enter Try.func16, Try.ntmps16
    go_wp2
    go_ret
    exact ⟨rfl, Below.refl _ _⟩
  · obtain ⟨m, rfl⟩ : ∃ m, n = m + 1 := ⟨n - 1, by omega⟩
    rw [leftOf64_succ]
    obtain ⟨ad, rfl, hca⟩ := HR.out (by omega)
    have C0 := hca 0 (by omega)
    rw [u_add0] at C0
    have HC := Lib.hid hca
    obtain ⟨a, ea⟩ : ∃ a, a = x 0 := ⟨_, rfl⟩
    rw [← ea] at C0
    have ha : a < 4294967296 := by rw [ea]; exact HX.out 0 (by omega)
    have HW := Lib.hid fun W => swide_calls a ha W
    have ES : Hid (canon64 (wide64 a) = left64 x 0) := (show _ = _ by rw [canon_wide, ea]; rfl)
    obtain ⟨wd, ew⟩ : ∃ wd, wd = wide64 a := ⟨_, rfl⟩
    rw [← ew] at ES HW
    clear hca ea ew
    have hz : (((m + 1 : Nat) : Int) == 0) = false := by rw [beq_eq_false_iff_ne]; omega
    have hm : (0 : Int) < ((m + 1 : Nat) : Int) := by omega
    go_enter Try.func16, Try.ntmps16
    go_wp2_with (go_at_call 52; refine (HW.out _).mono ?_; rintro e1 w1 ⟨rfl, hbel⟩; have HB2 := Lib.hid hbel; clear hbel)
    all_goals
      go_loopg [3, 16] m (fun kq v3 v4 wr => ∃ k r : Nat, v3 = .float .f64 r ∧ v4 = .int .i64 (k : Int) ∧ Hid (canon64 r = left64 x k) ∧ k ≤ m ∧ m ≤ k + kq ∧ Aside (Below w.heap.size w wr))
      case atStart => exact ⟨0, _, rfl, by first | rfl | go_num, ES, by omega, by omega, HB2.out⟩
      case round =>
        obtain ⟨k, r, rfl, rfl, EV, hk, hkq, HB⟩ := hrel
        by_cases hlt : k < m
        · have hltz : (k : Int) < (m : Int) := by omega
          obtain ⟨b, eb⟩ : ∃ b, b = x (k + 1) := ⟨_, rfl⟩
          have hb : b < 4294967296 := by rw [eb]; exact HX.out (k + 1) (by omega)
          have c1 := HC.out (k + 1) (by omega)
          have c2 := HB.out.cell (World.block_lt_of_cell? _ _ c1)
          rw [c1, ← eb, u_add1] at c2
          have HA := Lib.hid fun W => swide_calls b hb W
          have HR := Lib.hid fun W => fadd64_run r (wide64 b) 77 W
          obtain ⟨u, eu⟩ : ∃ u, u = wide64 b := ⟨_, rfl⟩
          rw [← eu] at HA HR
          have EU := Lib.hid eu
          have EB := Lib.hid eb
          clear c1 eb eu
          first
          | (exfalso; omega)
          | (go_wp2_with (go_at_call 52; refine (HA.out _).mono ?_; rintro e2 w2 ⟨rfl, hbel⟩; have HB2 := Lib.hid (ujoin HB.out hbel); clear hbel HB c2; obtain ⟨r2, w3, hrun, hc2, hlt2, hd⟩ := HR.out w2; have HB3 := Lib.hid (ujoin HB2.out hd.below); have HC2 := Lib.hid hc2; clear hd hc2 HB2 HR)
             go_roundg (m - (k + 1))
             case measure => omega
             case rel => exact ⟨k + 1, r2, rfl, by go_num, (show _ = _ by rw [HC2.out, left64, ← EV.out, add64_canon, EU.out, EB.out]), by omega, by omega, HB3.out⟩)
        · have hltz : ¬ (k : Int) < (m : Int) := by omega
          have e : k = m := by omega
          rw [e] at EV
          have HB2 := Lib.hid HB.out
          have HT := Lib.hid fun W => told64_calls r W
          rw [EV.out] at HT
          clear HB e
          go_wp2_with (go_at_call 53; with_reducible refine (HT.out _).mono ?_; rintro e2 w2 ⟨rfl, rfl⟩)
          go_ret
          exact ⟨rfl, HB2.out⟩
end Go.Proofs.Ytmeifciagepmpaa
