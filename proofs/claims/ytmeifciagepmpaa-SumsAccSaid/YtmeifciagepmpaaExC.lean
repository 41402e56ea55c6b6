/- exact.below. -/
import Derived.Test.YtmeifciagepmpaaExB
namespace Go.Proofs.Ytmeifciagepmpaa
open Go.RowKit Go.Proofs.YtmeifciagepmpaaW.PrintWords
set_option linter.unusedSimpArgs false
set_option linter.unusedVariables false

theorem mod_more {Q i k : Nat} (h : Q % 2 ^ k ≠ 0) (hk : k ≤ i) : Q % 2 ^ i ≠ 0 := by
  intro h0
  apply h
  obtain ⟨m, rfl⟩ : ∃ m, i = k + m := ⟨i - k, by omega⟩
  have := Nat.dvd_of_mod_eq_zero h0
  rw [Nat.pow_add] at this
  exact Nat.mod_eq_zero_of_dvd (Nat.dvd_trans ⟨_, rfl⟩ this)
theorem mod_word {Q i q : Nat} (hi : i = 32 * q) (h : Q % 2 ^ i = 0) : Q % 2 ^ (i + 32) = dig Q q * 2 ^ i := by
  subst hi
  have := mod_dig Q q
  rw [show 32 * q + 32 = 32 * (q + 1) by omega, this, h, Nat.zero_add]
theorem below_full {Q i n at' : Nat} (hQ : len32 Q ≤ n) (hi : 32 * n ≤ i) (h : Q % 2 ^ i = 0) : Q % 2 ^ at' = 0 := by
  have h1 : Q < 2 ^ (32 * n) := (lt_len32 Q n).1 hQ
  have h2 : 2 ^ (32 * n) ≤ 2 ^ i := Nat.pow_le_pow_right (by decide) hi
  rw [Nat.mod_eq_of_lt (by omega)] at h
  rw [h, Nat.zero_mod]

set_option maxHeartbeats 3200000 in
set_option maxRecDepth 100000 in
theorem xbelow_calls (w : World) (A : Option Addr) (n c Q m : Nat) (hr : RowU w A n (dig Q)) (hc : n ≤ c) (hn : n ≤ 1000000) (hQ : len32 Q ≤ n) (hm : m ≤ 1000000000) :
    Calls Try.prog 106 #[.slice A n c, .int .i64 (m : Int)] w fun e w' => e = .returned (.bool (decide (Q % 2 ^ m ≠ 0))) ∧ Drawn0 w w' := by
  have HR := Lib.hid hr
  have HQ := Lib.hid hQ
  have HB := Lib.hid fun (i : Nat) (hi : i ≤ 1000000000) (W : World) (hd : Drawn0 w W) => xbit_calls W A n c Q i (hr.below hd.below) hc hn hQ hi
  clear hr hQ
  obtain ⟨res, eres⟩ : ∃ r, r = decide (Q % 2 ^ m ≠ 0) := ⟨_, rfl⟩
  rw [← eres]
  have RT : Hid (Q % 2 ^ m ≠ 0 → res = true) := (show _ → _ from fun h => by rw [eres]; exact decide_eq_true h)
  have RF : Hid (Q % 2 ^ m = 0 → res = false) := (show _ → _ from fun h => by rw [eres]; exact decide_eq_false (by omega))
  clear eres
  have WM : IntKind.i64.wrap (32 * (n : Int)) = 32 * (n : Int) := IntWalk.i64_in _ (by omega)
  go_enter Try.func106, Try.ntmps106
  go_wp2
  go_loopg [5] m (fun kq v5 wr => ∃ i : Nat, v5 = .int .i64 (i : Int) ∧ i ≤ m ∧ m ≤ i + kq ∧ Hid (Q % 2 ^ i = 0) ∧ Aside (Drawn0 w wr))
  case atStart => exact ⟨0, rfl, by omega, by omega, (show _ = _ by simp [Nat.mod_one]), Drawn0.refl _⟩
  case round =>
    obtain ⟨i, rfl, hi, hik, HI, HD⟩ := hrel
    by_cases h1 : i < m ∧ i < 32 * n
    · obtain ⟨h1, h2⟩ := h1
      have h1z : (i : Int) < (m : Int) := by omega
      have h2z : (i : Int) < 32 * (n : Int) := by omega
      have d1 : decide ((i : Int) < (m : Int)) = true := decide_eq_true h1z
      have d2 : decide ((i : Int) < 32 * (n : Int)) = true := decide_eq_true h2z
      have W1 : IntKind.i64.wrap ((i : Int) + 32) = (i : Int) + 32 := IntWalk.i64_in _ (by omega)
      obtain ⟨q, eq⟩ : ∃ q, q = i / 32 := ⟨_, rfl⟩
      obtain ⟨r, er⟩ : ∃ r, r = i % 32 := ⟨_, rfl⟩
      have q1 : (i : Int) / 32 = (q : Int) := by omega
      have r1 : (i : Int) % 32 = (r : Int) := by omega
      by_cases hc3 : r = 0 ∧ i + 32 ≤ m
      · obtain ⟨h3, h4⟩ := hc3
        have h3b : ((r : Int) == 0) = true := by rw [h3]; rfl
        have h4z : (i : Int) + 32 ≤ (m : Int) := by omega
        have d4 : decide ((i : Int) + 32 ≤ (m : Int)) = true := decide_eq_true h4z
        have hqn : q < n := by omega
        have hqz : (q : Int) < (n : Int) := by omega
        have hmw := mod_word (q := q) (by omega) HI.out
        obtain ⟨ad, rfl, hca⟩ := HR.out (by omega)
        have c1 := hca q hqn
        obtain ⟨y, ey⟩ : ∃ y, y = dig Q q := ⟨_, rfl⟩
        rw [← ey] at c1 hmw
        have c2 : wr.cell? (ad.add q) = some (.int .u32 (y : Int)) := by rw [HD.out.below.cell (World.block_lt_of_cell? _ _ c1), c1]
        have W2 : IntKind.i64.wrap ((i : Int) + 31) = (i : Int) + 31 := IntWalk.i64_in _ (by omega)
        by_cases hy : y = 0
        · have hb : ((y : Int) != 0) = false := by rw [hy]; rfl
          have HI2 : Hid (Q % 2 ^ (i + 32) = 0) := (show _ = _ by rw [hmw, hy, Nat.zero_mul])
          clear hmw hca c1 eq er ey hy h3 d2
          go_wp2
          repeat (go_quiet (fail); try go_wp2)
          go_roundg (m - (i + 32))
          case measure => omega
          case rel => exact ⟨i + 32, by go_num, by omega, by omega, HI2, by first | exact HD.out | exact (HD.out.step _) | exact ((HD.out.step _).step _)⟩
        · have hb : ((y : Int) != 0) = true := by rw [bne_iff_ne]; omega
          have E := Lib.hid (RT.out (mod_more (k := i + 32) (by rw [hmw]; exact Nat.mul_ne_zero hy (Nat.pos_iff_ne_zero.1 (Nat.two_pow_pos _))) h4))
          clear hmw hca c1 eq er ey hy h3 d2
          go_wp2
          repeat (go_quiet (fail); try go_wp2)
          go_ret
          exact ⟨by rw [E.out]; rfl, by first | exact HD.out | exact (HD.out.step _) | exact ((HD.out.step _).step _)⟩
      · have HBI := Lib.hid fun W hd => HB.out i (by omega) W hd
        have hmb := mod_bit Q i
        rw [HI.out, Nat.zero_add] at hmb
        obtain ⟨b, eb⟩ : ∃ b, b = Q / 2 ^ i % 2 := ⟨_, rfl⟩
        have hb2 : b ≤ 1 := by omega
        rw [← eb] at HBI hmb
        have HMB := Lib.hid hmb
        clear eb hmb
        rcases (show (r = 0 ∧ ¬ i + 32 ≤ m) ∨ r ≠ 0 by omega) with ⟨h3, h4⟩ | h3
        · have h3b : ((r : Int) == 0) = true := by rw [h3]; rfl
          have h4z : ¬ (i : Int) + 32 ≤ (m : Int) := by omega
          have d4 : decide ((i : Int) + 32 ≤ (m : Int)) = false := decide_eq_false h4z
          by_cases hb : b = 1
          · have hbb : ((b : Int) == 1) = true := by rw [hb]; rfl
            have E := Lib.hid (RT.out (mod_more (k := i + 1) (by rw [HMB.out, hb, Nat.mul_one]; exact (Nat.pos_iff_ne_zero.1 (Nat.two_pow_pos _))) h1))
            clear hb eq er
            have hdd := HD.out
            go_wp2_with (go_at_call 105; refine (HBI.out _ (by first | exact hdd | exact hdd.step _)).mono ?_; rintro e1 w1 ⟨rfl, rfl⟩)
            go_ret
            exact ⟨by rw [E.out]; rfl, by first | exact hdd | exact (hdd.step _) | exact ((hdd.step _).step _)⟩
          · have hbb : ((b : Int) == 1) = false := by rw [beq_eq_false_iff_ne]; omega
            have HI2 : Hid (Q % 2 ^ (i + 1) = 0) := (show _ = _ by rw [HMB.out, show b = 0 by omega, Nat.mul_zero])
            clear hb eq er
            have hdd := HD.out
            go_wp2_with (go_at_call 105; refine (HBI.out _ (by first | exact hdd | exact hdd.step _)).mono ?_; rintro e1 w1 ⟨rfl, rfl⟩)
            go_roundg (m - (i + 1))
            case measure => omega
            case rel => exact ⟨i + 1, by go_num, by omega, by omega, HI2, by first | exact hdd | exact (hdd.step _) | exact ((hdd.step _).step _)⟩
        · have h3b : ((r : Int) == 0) = false := by rw [beq_eq_false_iff_ne]; omega
          by_cases hb : b = 1
          · have hbb : ((b : Int) == 1) = true := by rw [hb]; rfl
            have E := Lib.hid (RT.out (mod_more (k := i + 1) (by rw [HMB.out, hb, Nat.mul_one]; exact (Nat.pos_iff_ne_zero.1 (Nat.two_pow_pos _))) h1))
            clear hb eq er
            have hdd := HD.out
            go_wp2_with (go_at_call 105; refine (HBI.out _ (by first | exact hdd | exact hdd.step _)).mono ?_; rintro e1 w1 ⟨rfl, rfl⟩)
            go_ret
            exact ⟨by rw [E.out]; rfl, by first | exact hdd | exact (hdd.step _) | exact ((hdd.step _).step _)⟩
          · have hbb : ((b : Int) == 1) = false := by rw [beq_eq_false_iff_ne]; omega
            have HI2 : Hid (Q % 2 ^ (i + 1) = 0) := (show _ = _ by rw [HMB.out, show b = 0 by omega, Nat.mul_zero])
            clear hb eq er
            have hdd := HD.out
            go_wp2_with (go_at_call 105; refine (HBI.out _ (by first | exact hdd | exact hdd.step _)).mono ?_; rintro e1 w1 ⟨rfl, rfl⟩)
            go_roundg (m - (i + 1))
            case measure => omega
            case rel => exact ⟨i + 1, by go_num, by omega, by omega, HI2, by first | exact hdd | exact (hdd.step _) | exact ((hdd.step _).step _)⟩
    · have E : Hid (res = false) := (show _ = _ from RF.out (by
        rcases (show i = m ∨ 32 * n ≤ i by omega) with e | e
        · rw [← e]; exact HI.out
        · exact below_full HQ.out e HI.out))
      have hdd := HD.out
      rcases (show i = m ∨ (i < m ∧ 32 * n ≤ i) by omega) with e | ⟨e1, e2⟩
      · have h1z : ¬ (i : Int) < (m : Int) := by omega
        have d1 : decide ((i : Int) < (m : Int)) = false := decide_eq_false h1z
        clear e h1
        go_wp2
        go_ret
        exact ⟨by rw [E.out]; rfl, hdd⟩
      · have h1z : (i : Int) < (m : Int) := by omega
        have h2z : ¬ (i : Int) < 32 * (n : Int) := by omega
        have d1 : decide ((i : Int) < (m : Int)) = true := decide_eq_true h1z
        have d2 : decide ((i : Int) < 32 * (n : Int)) = false := decide_eq_false h2z
        clear h1
        go_wp2
        go_ret
        exact ⟨by rw [E.out]; rfl, hdd⟩
end Go.Proofs.Ytmeifciagepmpaa
