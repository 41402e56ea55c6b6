/- sums.Left, halideref3.Left: one behind the other, in binary32. -/
import Derived.Test.YtmeifciagepmpaaArW
namespace Go.Proofs.Ytmeifciagepmpaa
open Go.RowKit Go.Proofs.YtmeifciagepmpaaW.PrintWords
set_option linter.unusedSimpArgs false
set_option linter.unusedVariables false

def left32 (x : Nat → Nat) : Nat → Nat
  | 0 => first32 (x 0)
  | k + 1 => add32 (left32 x k) (x (k + 1))
def leftOf (x : Nat → Nat) (n : Nat) : Nat := if n = 0 then 0 else left32 x (n - 1)
theorem leftOf_zero (x : Nat → Nat) : leftOf x 0 = 0 := rfl
theorem leftOf_succ (x : Nat → Nat) (k : Nat) : leftOf x (k + 1) = left32 x k := rfl
theorem first32_lt {a : Nat} (ha : a < 4294967296) : first32 a < 4294967296 := by unfold first32; split; omega; exact ha
theorem left32_lt {x : Nat → Nat} (h0 : x 0 < 4294967296) (k : Nat) : left32 x k < 4294967296 := by
  cases k with
  | zero => exact first32_lt h0
  | succ k => exact add32_lt _ _
theorem u_add1 (ad : Addr) (i : Nat) : ad.add (i + 1) = ⟨ad.block, ad.off + 1 + i, none⟩ := by
  unfold Addr.add
  rw [if_neg (by omega), show ad.off + (i + 1) = ad.off + 1 + i by omega]

set_option maxHeartbeats 1600000 in
set_option maxRecDepth 100000 in
theorem rLeft_calls (w : World) (A : Option Addr) (n c : Nat) (x : Nat → Nat) (hr : RowU w A n x) (hc : n ≤ c) (hn : n ≤ 1000000000) (hx : ∀ k, k < n → x k < 4294967296) :
    Calls Try.prog 15 #[.slice A n c] w fun e w' => Gives w (.int .u32 ((leftOf x n : Nat) : Int)) e w' := by
  have HX := Lib.hid hx
  have HR := Lib.hid hr
  clear hx hr
  rcases Nat.eq_zero_or_pos n with h0 | h0
  · subst h0
    go_enter Try.func15, Try.ntmps15
    go_wp2
    go_ret
    exact ⟨rfl, Below.refl _ _⟩
  · obtain ⟨m, rfl⟩ : ∃ m, n = m + 1 := ⟨n - 1, by omega⟩
    rw [leftOf_succ]
    obtain ⟨ad, rfl, hca⟩ := HR.out (by omega)
    have C0 := hca 0 (by omega)
    rw [u_add0] at C0
    have HC := Lib.hid hca
    obtain ⟨a, ea⟩ : ∃ a, a = x 0 := ⟨_, rfl⟩
    rw [← ea] at C0
    have ha : a < 4294967296 := by rw [ea]; exact HX.out 0 (by omega)
    have HF := Lib.hid fun W => first_calls a ha W
    obtain ⟨s0, es⟩ : ∃ s0, s0 = first32 a := ⟨_, rfl⟩
    rw [← es] at HF
    have ES : Hid (s0 = left32 x 0) := (show _ = _ by rw [es, ea]; rfl)
    clear hca ea es
    have hz : (((m + 1 : Nat) : Int) == 0) = false := by rw [beq_eq_false_iff_ne]; omega
    have hm : (0 : Int) < ((m + 1 : Nat) : Int) := by omega
    go_enter Try.func15, Try.ntmps15
    go_wp2_with (go_at_call 50; refine (HF.out _).mono ?_; rintro e1 w1 ⟨rfl, hbel⟩; have HB1 := Lib.hid hbel; clear hbel)
    go_loopg [3, 4] m (fun kq v3 v4 wr => ∃ k : Nat, v3 = .int .u32 ((left32 x (k - 1) : Nat) : Int) ∧ v4 = .int .i64 (k : Int) ∧ 1 ≤ k ∧ k ≤ m + 1 ∧ m + 1 ≤ k + kq ∧ Aside (Below w.heap.size w wr))
    case atStart => exact ⟨1, by rw [← ES.out], by first | rfl | go_num, by omega, by omega, by omega, HB1.out⟩
    case round =>
      obtain ⟨k, rfl, rfl, hk1, hk, hkq, HB⟩ := hrel
      obtain ⟨v, ev⟩ : ∃ v, v = left32 x (k - 1) := ⟨_, rfl⟩
      have hv : v < 4294967296 := by rw [ev]; exact left32_lt (HX.out 0 (by omega)) _
      rw [← ev]
      have EV := Lib.hid ev
      clear ev
      by_cases hlt : k < m + 1
      · have hltz : (k : Int) < ((m + 1 : Nat) : Int) := by omega
        obtain ⟨b, eb⟩ : ∃ b, b = x k := ⟨_, rfl⟩
        have hb : b < 4294967296 := by rw [eb]; exact HX.out k (by omega)
        have c1 := HC.out k (by omega)
        have c2 := HB.out.cell (World.block_lt_of_cell? _ _ c1)
        rw [c1, ← eb] at c2
        have HA := Lib.hid fun W => rAdd_calls v b hv hb W
        have EB := Lib.hid eb
        clear c1 eb
        go_wp2_with (go_at_call 51; refine (HA.out _).mono ?_; rintro e2 w2 ⟨rfl, hbel⟩; have HB2 := Lib.hid (ujoin HB.out hbel); clear hbel HB c2)
        go_roundg (m + 1 - (k + 1))
        case measure => omega
        case rel => exact ⟨k + 1, by rw [EV.out, EB.out, show k + 1 - 1 = (k - 1) + 1 by omega, left32, show k - 1 + 1 = k by omega], by go_num, by omega, by omega, by omega, HB2.out⟩
      · have hltz : ¬ (k : Int) < ((m + 1 : Nat) : Int) := by omega
        have e : k - 1 = m := by omega
        rw [e] at EV
        have HB2 := Lib.hid HB.out
        clear HB e
        go_wp2
        go_ret
        exact ⟨ret_int (by rw [EV.out]), HB2.out⟩

set_option maxHeartbeats 1600000 in
set_option maxRecDepth 100000 in
theorem pLeft_calls (w : World) (A : Option Addr) (n c : Nat) (x : Nat → Nat) (hr : RowU w A n x) (hc : n ≤ c) (hn : n ≤ 1000000000) (hx : ∀ k, k < n → x k < 4294967296) :
    Calls Try.prog 14 #[.slice A n c] w fun e w' => Gives w (.int .u32 ((leftOf x n : Nat) : Int)) e w' := by
  have HX := Lib.hid hx
  have HR := Lib.hid hr
  clear hx hr
  rcases Nat.eq_zero_or_pos n with h0 | h0
  · subst h0
    go_enter Try.func14, Try.ntmps14
    go_wp2
    go_ret
    exact ⟨rfl, Below.refl _ _⟩
  · obtain ⟨m, rfl⟩ : ∃ m, n = m + 1 := ⟨n - 1, by omega⟩
    rw [leftOf_succ]
    obtain ⟨ad, rfl, hca⟩ := HR.out (by omega)
    have C0 := hca 0 (by omega)
    rw [u_add0] at C0
    have HC := Lib.hid hca
    obtain ⟨a, ea⟩ : ∃ a, a = x 0 := ⟨_, rfl⟩
    rw [← ea] at C0
    have ha : a < 4294967296 := by rw [ea]; exact HX.out 0 (by omega)
    have HW := Lib.hid fun W => pWide_calls a ha W
    have HF := Lib.hid fun W => pNarrow_calls (wide64 a) (narrow_wide a ha) W
    rw [first_narrow a ha] at HF
    obtain ⟨s0, es⟩ : ∃ s0, s0 = first32 a := ⟨_, rfl⟩
    rw [← es] at HF
    obtain ⟨wd, ew⟩ : ∃ wd, wd = wide64 a := ⟨_, rfl⟩
    rw [← ew] at HF HW
    have ES : Hid (s0 = left32 x 0) := (show _ = _ by rw [es, ea]; rfl)
    clear hca ea es ew
    have hz : (((m + 1 : Nat) : Int) == 0) = false := by rw [beq_eq_false_iff_ne]; omega
    have hm : (0 : Int) < ((m + 1 : Nat) : Int) := by omega
    go_enter Try.func14, Try.ntmps14
    go_wp2_with (first
      | (go_at_call 48; refine (HW.out _).mono ?_; rintro e1 w1 ⟨rfl, hbel⟩; have HB1 := Lib.hid hbel; clear hbel)
      | (go_at_call 47; refine (HF.out _).mono ?_; rintro e1 w2 ⟨rfl, hd⟩; have HB2 := Lib.hid (ujoin HB1.out hd.below); clear hd HB1))
    all_goals
      go_loopg [3, 17] m (fun kq v3 v4 wr => ∃ k : Nat, v3 = .int .u32 ((left32 x k : Nat) : Int) ∧ v4 = .int .i64 (k : Int) ∧ k ≤ m ∧ m ≤ k + kq ∧ Aside (Below w.heap.size w wr))
      case atStart => exact ⟨0, by rw [← ES.out], by first | rfl | go_num, by omega, by omega, HB2.out⟩
      case round =>
        obtain ⟨k, rfl, rfl, hk, hkq, HB⟩ := hrel
        obtain ⟨v, ev⟩ : ∃ v, v = left32 x k := ⟨_, rfl⟩
        rw [← ev]
        have EV := Lib.hid ev
        clear ev
        by_cases hlt : k < m
        · have hltz : (k : Int) < (m : Int) := by omega
          obtain ⟨b, eb⟩ : ∃ b, b = x (k + 1) := ⟨_, rfl⟩
          have c1 := HC.out (k + 1) (by omega)
          have c2 := HB.out.cell (World.block_lt_of_cell? _ _ c1)
          rw [c1, ← eb, u_add1] at c2
          have HA := Lib.hid fun W => pAdd_calls v b W
          have EB := Lib.hid eb
          clear c1 eb
          first
          | (exfalso; omega)
          | (go_wp2_with (go_at_call 49; refine (HA.out _).mono ?_; rintro e2 w2 ⟨rfl, hd⟩; have HB2 := Lib.hid (ujoin HB.out hd.below); clear hd HB c2)
             go_roundg (m - (k + 1))
             case measure => omega
             case rel => exact ⟨k + 1, by rw [EV.out, EB.out, left32], by go_num, by omega, by omega, HB2.out⟩)
        · have hltz : ¬ (k : Int) < (m : Int) := by omega
          have e : k = m := by omega
          rw [e] at EV
          have HB2 := Lib.hid HB.out
          clear HB e
          go_wp2
          go_ret
          exact ⟨ret_int (by rw [EV.out]), HB2.out⟩
end Go.Proofs.Ytmeifciagepmpaa
