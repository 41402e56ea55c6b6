/- sums.Kahan, halideref3.Kahan. -/
import Derived.Test.YtmeifciagepmpaaSumP
namespace Go.Proofs.Ytmeifciagepmpaa
open Go.RowKit Go.Proofs.YtmeifciagepmpaaW.PrintWords
set_option linter.unusedSimpArgs false
set_option linter.unusedVariables false

/-- The sum, and what is carried. -/
def kah (x : Nat → Nat) : Nat → Nat × Nat
  | 0 => (first32 (x 0), 0)
  | k + 1 =>
    let y := sub32 (x (k + 1)) (kah x k).2
    let t := add32 (kah x k).1 y
    (t, sub32 (sub32 t (kah x k).1) y)
def kahanOf (x : Nat → Nat) (n : Nat) : Nat := if n = 0 then 0 else (kah x (n - 1)).1
theorem kahanOf_zero (x : Nat → Nat) : kahanOf x 0 = 0 := rfl
theorem kahanOf_succ (x : Nat → Nat) (k : Nat) : kahanOf x (k + 1) = (kah x k).1 := rfl
theorem kah_lt {x : Nat → Nat} (h0 : x 0 < 4294967296) (k : Nat) : (kah x k).1 < 4294967296 ∧ (kah x k).2 < 4294967296 := by
  cases k with
  | zero => exact ⟨first32_lt h0, show (0 : Nat) < 4294967296 by decide⟩
  | succ k => exact ⟨add32_lt _ _, sub32_lt _ _⟩
theorem kah_step {x : Nat → Nat} {k b s c y t u z : Nat} (hb : b = x (k + 1)) (hs : s = (kah x k).1) (hc : c = (kah x k).2) (hy : y = sub32 b c) (ht : t = add32 s y) (hu : u = sub32 t s) (hz : z = sub32 u y) : t = (kah x (k + 1)).1 ∧ z = (kah x (k + 1)).2 := by
  subst hb hs hc hy ht hu hz
  exact ⟨rfl, rfl⟩

set_option maxHeartbeats 1600000 in
set_option maxRecDepth 100000 in
theorem rKahan_calls (w : World) (A : Option Addr) (n c : Nat) (x : Nat → Nat) (hr : RowU w A n x) (hc : n ≤ c) (hn : n ≤ 1000000000) (hx : ∀ k, k < n → x k < 4294967296) :
    Calls Try.prog 22 #[.slice A n c] w fun e w' => Gives w (.int .u32 ((kahanOf x n : Nat) : Int)) e w' := by
  have HX := Lib.hid hx
  have HR := Lib.hid hr
  clear hx hr
  rcases Nat.eq_zero_or_pos n with h0 | h0
  · subst h0
    go_enter Try.func22, Try.ntmps22
    go_wp2
    go_ret
    exact ⟨rfl, Below.refl _ _⟩
  · obtain ⟨m, rfl⟩ : ∃ m, n = m + 1 := ⟨n - 1, by omega⟩
    rw [kahanOf_succ]
    obtain ⟨ad, rfl, hca⟩ := HR.out (by omega)
    have C0 := hca 0 (by omega)
    rw [u_add0] at C0
    have HC := Lib.hid hca
    obtain ⟨a, ea⟩ : ∃ a, a = x 0 := ⟨_, rfl⟩
    rw [← ea] at C0
    have ha : a < 4294967296 := by rw [ea]; exact HX.out 0 (by omega)
    have HF := Lib.hid fun W => first_calls a ha W
    obtain ⟨s0, es⟩ : ∃ s0, s0 = first32 a := ⟨_, rfl⟩
    rw [← es] at HF
    have ES : Hid (s0 = (kah x 0).1) := (show _ = _ by rw [es, ea]; rfl)
    clear hca ea es
    have hz : (((m + 1 : Nat) : Int) == 0) = false := by rw [beq_eq_false_iff_ne]; omega
    have hm : (0 : Int) < ((m + 1 : Nat) : Int) := by omega
    go_enter Try.func22, Try.ntmps22
    go_wp2_with (go_at_call 50; refine (HF.out _).mono ?_; rintro e1 w1 ⟨rfl, hbel⟩; have HB1 := Lib.hid hbel; clear hbel)
    go_loopg [3, 4, 5] m (fun kq v3 v4 v5 wr => ∃ k s c : Nat, v3 = .int .u32 (s : Int) ∧ v4 = .int .u32 (c : Int) ∧ v5 = .int .i64 (k : Int) ∧ Hid (s = (kah x (k - 1)).1 ∧ c = (kah x (k - 1)).2) ∧ 1 ≤ k ∧ k ≤ m + 1 ∧ m + 1 ≤ k + kq ∧ Aside (Below w.heap.size w wr))
    case atStart => exact ⟨1, s0, 0, rfl, by first | rfl | go_num, by first | rfl | go_num, (show _ ∧ _ from ⟨ES.out, rfl⟩), by omega, by omega, by omega, HB1.out⟩
    case round =>
      obtain ⟨k, s, c2, rfl, rfl, rfl, EV, hk1, hk, hkq, HB⟩ := hrel
      have hs : s < 4294967296 := by rw [EV.out.1]; exact (kah_lt (HX.out 0 (by omega)) _).1
      have hc2 : c2 < 4294967296 := by rw [EV.out.2]; exact (kah_lt (HX.out 0 (by omega)) _).2
      by_cases hlt : k < m + 1
      · have hltz : (k : Int) < ((m + 1 : Nat) : Int) := by omega
        obtain ⟨b, eb⟩ : ∃ b, b = x k := ⟨_, rfl⟩
        have hb : b < 4294967296 := by rw [eb]; exact HX.out k (by omega)
        have c1 := HC.out k (by omega)
        have c2' := HB.out.cell (World.block_lt_of_cell? _ _ c1)
        rw [c1, ← eb] at c2'
        have hy : sub32 b c2 < 4294967296 := sub32_lt _ _
        obtain ⟨y, ey⟩ : ∃ y, y = sub32 b c2 := ⟨_, rfl⟩
        have H1 := Lib.hid fun W => rSub_calls b c2 hb hc2 W
        rw [← ey] at hy H1
        have ht : add32 s y < 4294967296 := add32_lt _ _
        obtain ⟨t, et⟩ : ∃ t, t = add32 s y := ⟨_, rfl⟩
        have H2 := Lib.hid fun W => rAdd_calls s y hs hy W
        rw [← et] at ht H2
        have hu : sub32 t s < 4294967296 := sub32_lt _ _
        obtain ⟨u, eu⟩ : ∃ u, u = sub32 t s := ⟨_, rfl⟩
        have H3 := Lib.hid fun W => rSub_calls t s ht hs W
        rw [← eu] at hu H3
        have hz2 : sub32 u y < 4294967296 := sub32_lt _ _
        obtain ⟨z, ez⟩ : ∃ z, z = sub32 u y := ⟨_, rfl⟩
        have H4 := Lib.hid fun W => rSub_calls u y hu hy W
        rw [← ez] at hz2 H4
        have EZ : Hid (t = (kah x (k - 1 + 1)).1 ∧ z = (kah x (k - 1 + 1)).2) := (show _ ∧ _ from kah_step (by rw [show k - 1 + 1 = k by omega]; exact eb) EV.out.1 EV.out.2 ey et eu ez)
        clear c1 eb ey et eu ez
        go_wp2_with (first
          | (go_at_call 57; (with_reducible refine (H1.out _).mono ?_); rintro e2 w2 ⟨rfl, hbel⟩; have HB2 := Lib.hid (ujoin HB.out hbel); clear hbel HB c2')
          | (go_at_call 51; (with_reducible refine (H2.out _).mono ?_); rintro e2 w3 ⟨rfl, hbel⟩; have HB3 := Lib.hid (ujoin HB2.out hbel); clear hbel HB2)
          | (go_at_call 57; (with_reducible refine (H3.out _).mono ?_); rintro e2 w4 ⟨rfl, hbel⟩; have HB4 := Lib.hid (ujoin HB3.out hbel); clear hbel HB3)
          | (go_at_call 57; (with_reducible refine (H4.out _).mono ?_); rintro e2 w5 ⟨rfl, hbel⟩; have HB5 := Lib.hid (ujoin HB4.out hbel); clear hbel HB4))
        go_roundg (m + 1 - (k + 1))
        case measure => omega
        case rel => exact ⟨k + 1, t, z, rfl, rfl, by go_num, (show _ ∧ _ by rw [show k + 1 - 1 = k - 1 + 1 by omega]; exact EZ.out), by omega, by omega, by omega, HB5.out⟩
      · have hltz : ¬ (k : Int) < ((m + 1 : Nat) : Int) := by omega
        have e : k - 1 = m := by omega
        rw [e] at EV
        have HB2 := Lib.hid HB.out
        clear HB e
        go_wp2
        go_ret
        exact ⟨ret_int (by rw [EV.out.1]), HB2.out⟩

set_option maxHeartbeats 1600000 in
set_option maxRecDepth 100000 in
theorem pKahan_calls (w : World) (A : Option Addr) (n c : Nat) (x : Nat → Nat) (hr : RowU w A n x) (hc : n ≤ c) (hn : n ≤ 1000000000) (hx : ∀ k, k < n → x k < 4294967296) :
    Calls Try.prog 21 #[.slice A n c] w fun e w' => Gives w (.int .u32 ((kahanOf x n : Nat) : Int)) e w' := by
  have HX := Lib.hid hx
  have HR := Lib.hid hr
  clear hx hr
  rcases Nat.eq_zero_or_pos n with h0 | h0
  · subst h0
    go_enter Try.func21, Try.ntmps21
    go_wp2
    go_ret
    exact ⟨rfl, Below.refl _ _⟩
  · obtain ⟨m, rfl⟩ : ∃ m, n = m + 1 := ⟨n - 1, by omega⟩
    rw [kahanOf_succ]
    obtain ⟨ad, rfl, hca⟩ := HR.out (by omega)
    have HC := Lib.hid hca
    have HF := Lib.hid fun W (hb : Below w.heap.size w W) => pLeft_calls W (some ad) 1 c x ((HR.out.shorter (by omega)).below hb) (by omega) (by omega) (fun k hk => HX.out k (by omega))
    have e1 : leftOf x 1 = (kah x 0).1 := rfl
    rw [e1] at HF
    obtain ⟨s0, es⟩ : ∃ s0, s0 = (kah x 0).1 := ⟨_, rfl⟩
    rw [← es] at HF
    have ES := Lib.hid es
    clear hca es e1
    have hz : (((m + 1 : Nat) : Int) == 0) = false := by rw [beq_eq_false_iff_ne]; omega
    have hm : (0 : Int) < ((m + 1 : Nat) : Int) := by omega
    have hc0 : (1 : Int) ≤ (c : Int) := by omega
    have hb0 : Below w.heap.size w w := Below.refl _ _
    go_enter Try.func21, Try.ntmps21
    go_wp2_with (go_at_call 14; refine (HF.out _ hb0).mono ?_; rintro e1 w1 ⟨rfl, hbel⟩; have HB1 := Lib.hid hbel; clear hbel)
    all_goals
      go_loopg [3, 4, 18] m (fun kq v3 v4 v18 wr => ∃ k s c : Nat, v3 = .int .u32 (s : Int) ∧ v4 = .int .u32 (c : Int) ∧ v18 = .int .i64 (k : Int) ∧ Hid (s = (kah x k).1 ∧ c = (kah x k).2) ∧ k ≤ m ∧ m ≤ k + kq ∧ Aside (Below w.heap.size w wr))
      case atStart => exact ⟨0, s0, 0, rfl, by first | rfl | go_num, by first | rfl | go_num, (show _ ∧ _ from ⟨ES.out, rfl⟩), by omega, by omega, HB1.out⟩
      case round =>
        obtain ⟨k, s, c2, rfl, rfl, rfl, EV, hk, hkq, HB⟩ := hrel
        have hs : s < 4294967296 := by rw [EV.out.1]; exact (kah_lt (HX.out 0 (by omega)) _).1
        have hc2 : c2 < 4294967296 := by rw [EV.out.2]; exact (kah_lt (HX.out 0 (by omega)) _).2
        by_cases hlt : k < m
        · have hltz : (k : Int) < (m : Int) := by omega
          obtain ⟨b, eb⟩ : ∃ b, b = x (k + 1) := ⟨_, rfl⟩
          have hb : b < 4294967296 := by rw [eb]; exact HX.out (k + 1) (by omega)
          have c1 := HC.out (k + 1) (by omega)
          have c2' := HB.out.cell (World.block_lt_of_cell? _ _ c1)
          rw [c1, ← eb, u_add1] at c2'
          have hy : sub32 b c2 < 4294967296 := sub32_lt _ _
          obtain ⟨y, ey⟩ : ∃ y, y = sub32 b c2 := ⟨_, rfl⟩
          have H1 := Lib.hid fun W => pSub_calls b c2 W
          rw [← ey] at hy H1
          have ht : add32 s y < 4294967296 := add32_lt _ _
          obtain ⟨t, et⟩ : ∃ t, t = add32 s y := ⟨_, rfl⟩
          have H2 := Lib.hid fun W => pAdd_calls s y W
          rw [← et] at ht H2
          have hu : sub32 t s < 4294967296 := sub32_lt _ _
          obtain ⟨u, eu⟩ : ∃ u, u = sub32 t s := ⟨_, rfl⟩
          have H3 := Lib.hid fun W => pSub_calls t s W
          rw [← eu] at hu H3
          have hz2 : sub32 u y < 4294967296 := sub32_lt _ _
          obtain ⟨z, ez⟩ : ∃ z, z = sub32 u y := ⟨_, rfl⟩
          have H4 := Lib.hid fun W => pSub_calls u y W
          rw [← ez] at hz2 H4
          have EZ : Hid (t = (kah x (k + 1)).1 ∧ z = (kah x (k + 1)).2) := (show _ ∧ _ from kah_step eb EV.out.1 EV.out.2 ey et eu ez)
          clear c1 eb ey et eu ez
          first
          | (exfalso; omega)
          | (go_wp2_with (first
               | (go_at_call 56; (with_reducible refine (H1.out _).mono ?_); rintro e2 w2 ⟨rfl, hd⟩; have HB2 := Lib.hid (ujoin HB.out hd.below); clear hd HB c2')
               | (go_at_call 49; (with_reducible refine (H2.out _).mono ?_); rintro e2 w3 ⟨rfl, hd⟩; have HB3 := Lib.hid (ujoin HB2.out hd.below); clear hd HB2)
               | (go_at_call 56; (with_reducible refine (H3.out _).mono ?_); rintro e2 w4 ⟨rfl, hd⟩; have HB4 := Lib.hid (ujoin HB3.out hd.below); clear hd HB3)
               | (go_at_call 56; (with_reducible refine (H4.out _).mono ?_); rintro e2 w5 ⟨rfl, hd⟩; have HB5 := Lib.hid (ujoin HB4.out hd.below); clear hd HB4))
             go_roundg (m - (k + 1))
             case measure => omega
             case rel => exact ⟨k + 1, t, z, rfl, rfl, by go_num, EZ, by omega, by omega, HB5.out⟩)
        · have hltz : ¬ (k : Int) < (m : Int) := by omega
          have e : k = m := by omega
          rw [e] at EV
          have HB2 := Lib.hid HB.out
          clear HB e
          go_wp2
          go_ret
          exact ⟨ret_int (by rw [EV.out.1]), HB2.out⟩


end Go.Proofs.Ytmeifciagepmpaa
