/- halideref2's whole numbers: Up, Down, Times. -/
import Derived.Test.YtmeifciagepmpaaNatD
namespace Go.Proofs.Ytmeifciagepmpaa
open Go.RowKit Go.Proofs.YtmeifciagepmpaaW.PrintWords
set_option linter.unusedSimpArgs false
set_option linter.unusedVariables false

theorem vt_zero : ∀ m, vt (fun _ => 0) m = 0
  | 0 => rfl
  | m + 1 => by rw [vt, vt_zero m]; simp

set_option maxHeartbeats 3200000 in
set_option maxRecDepth 100000 in
theorem up_calls (w : World) (v : Value) (a n : Nat) (hv : NatAt w v a) (hla : len32 a ≤ 1000000) (hn : n ≤ 1000000) :
    Calls Try.prog 81 #[v, .int .i64 (n : Int)] w fun e w' => NatEnd w (a * 2 ^ n) e w' := by
  obtain ⟨A, c, rfl, hc, hr⟩ := hv
  have HR := Lib.hid hr
  obtain ⟨m, em⟩ : ∃ m, m = len32 a := ⟨_, rfl⟩
  have EM := Lib.hid em
  rw [← em] at HR hla hc ⊢
  clear hr em
  rcases Nat.eq_zero_or_pos m with h0 | h0
  · subst h0
    have E : Hid (a * 2 ^ n = 0) := (show _ = _ by
      have h := (lt_len32 a 0).1 (by have := EM.out; omega)
      have : a = 0 := by simpa using h
      rw [this, Nat.zero_mul])
    go_enter Try.func81, Try.ntmps81
    go_wp2_with fail
    go_ret
    exact ⟨_, rfl, by rw [E.out]; exact NatAt.zero _ _ _, Below.refl _ _⟩
  · obtain ⟨ad, rfl, hca⟩ := HR.out (by omega)
    have HCA := Lib.hid hca
    obtain ⟨q, eq⟩ : ∃ q, q = n / 32 := ⟨_, rfl⟩
    obtain ⟨r, er⟩ : ∃ r, r = n % 32 := ⟨_, rfl⟩
    have hr : r < 32 := by omega
    have EN : Hid (n = 32 * q + r) := (show _ = _ by omega)
    have q1 : (n : Int) / 32 = (q : Int) := by omega
    have r1 : (n : Int) % 32 = (r : Int) := by omega
    obtain ⟨N, eN⟩ : ∃ N, N = m + q + 1 := ⟨_, rfl⟩
    have W0 : IntKind.i64.wrap ((m : Int) + (q : Int)) = (m : Int) + (q : Int) := IntWalk.i64_in _ (by omega)
    have W1 : IntKind.i64.wrap ((m : Int) + (q : Int) + 1) = (N : Int) := by rw [IntWalk.i64_in _ (by omega)]; omega
    have hq : q ≤ 40000 := by omega
    have hm := u_make N (by omega)
    rw [arrU_made] at hm
    have hz : ((m : Int) == 0) = false := by rw [beq_eq_false_iff_ne]; omega
    have EN1 := Lib.hid eN
    have hNb : N ≤ 2000000 := by omega
    clear hca eq er eN
    go_enter Try.func81, Try.ntmps81
    go_wp2_with fail
    clear hm W0 W1
    have HO0 := OutW.start w N
    obtain ⟨g, eg⟩ : ∃ g, g = w.heap.size := ⟨_, rfl⟩
    rw [← eg] at HO0 ⊢
    clear eg
    go_loopg [6] m (fun kq v6 wr => ∃ (i : Nat) (f : Nat → Nat), v6 = .int .i64 (i : Int) ∧ i ≤ m ∧ m ≤ i + kq ∧ Hid (vt f (i + q + 1) = a % 2 ^ (32 * i) * 2 ^ (32 * q + r)) ∧ Hid (f (i + q) < 2 ^ r ∧ ∀ k, i + q < k → f k = 0) ∧ Aside (OutW w g N f wr))
    case atStart => exact ⟨0, _, rfl, by omega, by omega, (show _ = _ by rw [vt_zero]; simp [Nat.mod_one]), ⟨Nat.two_pow_pos r, fun _ _ => rfl⟩, HO0⟩
    case round =>
      clear HO0
      obtain ⟨i, f, rfl, hi, hk, HI, HF, HO⟩ := hrel
      by_cases hlt : i < m
      · have hltz : (i : Int) < (m : Int) := by omega
        have hx := dig_lt a i
        obtain ⟨x, ex⟩ : ∃ x, x = dig a i := ⟨_, rfl⟩
        have c1 := HCA.out i hlt
        have HS1 := Lib.hid (up_step hr HI.out)
        rw [← ex] at c1 hx HS1
        have c1' : wr.cell? (ad.add i) = some (.int .u32 (x : Int)) := by rw [HO.out.be.cell (World.block_lt_of_cell? _ _ c1), c1]
        have W1 := u_w64 x (by omega)
        obtain ⟨y, ey⟩ : ∃ y, y = x * 2 ^ r := ⟨_, rfl⟩
        have hy : y < 18446744073709551616 := by
          have h1 : x * 2 ^ r ≤ 4294967295 * 2 ^ r := Nat.mul_le_mul_right _ (by omega)
          have h2 : 4294967295 * 2 ^ r ≤ 4294967295 * 2 ^ 32 := Nat.mul_le_mul_left _ (Nat.pow_le_pow_right (by decide) (by omega))
          omega
        have W2 : IntKind.u64.wrap ((x : Int) * 2 ^ r) = (y : Int) := by rw [show (x : Int) * 2 ^ r = (y : Int) by rw [ey]; push_cast; rfl, u_w64 y hy]
        have hor := up_or (x := x) hr HF.out.1
        have hhi := up_hi (r := r) hx
        rw [← ey] at hor hhi HS1
        obtain ⟨lo, elo⟩ : ∃ lo, lo = y % 4294967296 := ⟨_, rfl⟩
        obtain ⟨hh, ehh⟩ : ∃ hh, hh = y / 4294967296 := ⟨_, rfl⟩
        rw [← elo] at hor HS1
        rw [← ehh] at hhi HS1
        have W3 := u_mask y hy
        rw [← elo] at W3
        have hlo : lo < 4294967296 := by omega
        have hh32 : hh < 4294967296 := by omega
        have W4 := u_w32 lo hlo
        have W5 : (y : Int) / 4294967296 = (hh : Int) := by omega
        have W6 := u_w32 hh hh32
        obtain ⟨j, ej⟩ : ∃ j, j = i + q := ⟨_, rfl⟩
        obtain ⟨j1, ej1⟩ : ∃ k, k = j + 1 := ⟨_, rfl⟩
        rw [← ej] at hor HS1
        rw [← ej1] at HS1
        obtain ⟨p, ep⟩ : ∃ p, p = f j := ⟨_, rfl⟩
        rw [← ep] at hor HS1
        obtain ⟨z, ez⟩ : ∃ z, z = p + lo := ⟨_, rfl⟩
        rw [← ez] at hor HS1
        obtain ⟨hor, hz⟩ := hor
        have hp : p < 4294967296 := by omega
        have W7 : bits .or .u32 (p : Int) (lo : Int) = (z : Int) := by rw [(u_bits p lo hp hlo).2, hor]
        have hjN : j < N := by have := EN1.out; omega
        have hj1N : j1 < N := by have := EN1.out; omega
        have W8 : IntKind.i64.wrap ((i : Int) + (q : Int)) = (j : Int) := by rw [IntWalk.i64_in _ (by omega)]; omega
        have W9 : IntKind.i64.wrap ((j : Int) + 1) = (j1 : Int) := by rw [IntWalk.i64_in _ (by omega)]; omega
        have hjz : (j : Int) < (N : Int) := by omega
        have hj1z : (j1 : Int) < (N : Int) := by omega
        obtain ⟨oc, of1⟩ := HO.out.cell j hjN
        obtain ⟨oc1, of2⟩ := HO.out.cell j1 hj1N
        rw [← ep] at oc
        have hne : ¬ j1 = j := by omega
        have hne2 : ¬ j = j1 := by omega
        have HP : Hid (hh < 2 ^ r ∧ z < 4294967296 ∧ hh < 4294967296 ∧ j = i + q ∧ j1 = i + q + 1) := ⟨hhi, hz, hh32, ej, by omega⟩
        clear c1 ex ey elo ehh ej ej1 ep ez hor hhi hi
        go_wp2
        go_roundg (m - (i + 1))
        case measure => omega
        case rel =>
          refine ⟨i + 1, updN (updN f j z) j1 hh, by go_num, by omega, by omega, ?_, ⟨?_, fun k hk => ?_⟩, (HO.out.set j z HP.out.2.1).set j1 hh HP.out.2.2.1⟩
          · exact HS1.out
          · rw [show i + 1 + q = j1 by have := HP.out.2.2.2.2; omega, updN_same]; exact HP.out.1
          · have h1 := HP.out.2.2.2.1
            have h2 := HP.out.2.2.2.2
            rw [updN_other _ _ (by omega), updN_other _ _ (by omega)]; exact HF.out.2 k (by omega)
      · have hltz : ¬ (i : Int) < (m : Int) := by omega
        have e : i = m := by omega
        subst e
        have HE : Hid (vt f N = a * 2 ^ n) := (show _ = _ by
          rw [EN1.out, HI.out, EN.out, Nat.mod_eq_of_lt ((lt_len32 a i).1 (by have := EM.out; omega))])
        go_wp2_with (go_at_call 75; refine (HO.out.trim (by omega) HE.out).mono ?_; rintro e1 w1 ⟨z, rfl, hz, hb⟩; have HZ := Lib.hid hz; have HB := Lib.hid hb; clear hz hb)
        go_ret
        exact ⟨z, rfl, HZ.out, HB.out⟩

set_option maxHeartbeats 3200000 in
set_option maxRecDepth 100000 in
theorem times_calls (w : World) (v : Value) (a k : Nat) (hv : NatAt w v a) (hla : len32 a ≤ 1000000) (hk : k < 4294967296) :
    Calls Try.prog 42 #[v, .int .u32 (k : Int)] w fun e w' => NatEnd w (a * k) e w' := by
  obtain ⟨A, c, rfl, hc, hr⟩ := hv
  have HR := Lib.hid hr
  obtain ⟨m, em⟩ : ∃ m, m = len32 a := ⟨_, rfl⟩
  have EM := Lib.hid em
  rw [← em] at HR hla hc ⊢
  obtain ⟨N, eN⟩ : ∃ N, N = m + 1 := ⟨_, rfl⟩
  have W0 : IntKind.i64.wrap ((m : Int) + 1) = (N : Int) := by rw [IntWalk.i64_in _ (by omega)]; omega
  have hm := u_make N (by omega)
  rw [arrU_made] at hm
  have EN1 := Lib.hid eN
  have hNb : N ≤ 2000000 := by omega
  have hmN : (m : Int) < (N : Int) := by omega
  clear hr em eN
  go_enter Try.func42, Try.ntmps42
  go_wp2_with fail
  clear hm W0
  have HO0 := OutW.start w N
  obtain ⟨g, eg⟩ : ∃ g, g = w.heap.size := ⟨_, rfl⟩
  rw [← eg] at HO0 ⊢
  clear eg
  go_loopg [6, 7] m (fun kq v6 v7 wr => ∃ (i cy : Nat) (f : Nat → Nat), v6 = .int .u64 (cy : Int) ∧ v7 = .int .i64 (i : Int) ∧ i ≤ m ∧ m ≤ i + kq ∧ cy < 4294967296 ∧ Hid (vt f i + cy * 2 ^ (32 * i) = a % 2 ^ (32 * i) * k) ∧ Aside (OutW w g N f wr))
  case atStart => exact ⟨0, 0, _, rfl, rfl, by omega, by omega, by omega, (show _ = _ by simp [vt, Nat.mod_one]), HO0⟩
  case round =>
    clear HO0
    obtain ⟨i, cy, f, rfl, rfl, hi, hkq, hcy, HI, HO⟩ := hrel
    by_cases hlt : i < m
    · have hltz : (i : Int) < (m : Int) := by omega
      obtain ⟨ad, rfl, hca⟩ := HR.out (by omega)
      have hx := dig_lt a i
      obtain ⟨x, ex⟩ : ∃ x, x = dig a i := ⟨_, rfl⟩
      have c1 := hca i hlt
      have HS1 := Lib.hid (times_step HI.out)
      rw [← ex] at c1 hx HS1
      have c1' : wr.cell? (ad.add i) = some (.int .u32 (x : Int)) := by rw [HO.out.be.cell (World.block_lt_of_cell? _ _ c1), c1]
      have W1 := u_w64 x (by omega)
      have W2 := u_w64 k (by omega)
      obtain ⟨p, ep⟩ : ∃ p, p = x * k := ⟨_, rfl⟩
      have hp : p ≤ 18446744065119617025 := by
        have : x * k ≤ 4294967295 * 4294967295 := Nat.mul_le_mul (by omega) (by omega)
        omega
      rw [← ep] at HS1
      have W3 : IntKind.u64.wrap ((x : Int) * (k : Int)) = (p : Int) := by rw [show (x : Int) * (k : Int) = (p : Int) by rw [ep]; push_cast; rfl, u_w64 p (by omega)]
      obtain ⟨s, es⟩ : ∃ s, s = p + cy := ⟨_, rfl⟩
      rw [← es] at HS1
      have W4 : IntKind.u64.wrap ((p : Int) + (cy : Int)) = (s : Int) := by rw [show (p : Int) + (cy : Int) = (s : Int) by omega, u_w64 s (by omega)]
      obtain ⟨lo, elo⟩ : ∃ lo, lo = s % 4294967296 := ⟨_, rfl⟩
      obtain ⟨hh, ehh⟩ : ∃ hh, hh = s / 4294967296 := ⟨_, rfl⟩
      rw [← elo, ← ehh] at HS1
      have hlo : lo < 4294967296 := by omega
      have hhh : hh < 4294967296 := by omega
      have W5 := u_mask s (by omega)
      rw [← elo] at W5
      have W6 := u_w32 lo hlo
      have W7 : (s : Int) / 4294967296 = (hh : Int) := by omega
      obtain ⟨oc, of'⟩ := HO.out.cell i (by omega)
      have hiN : (i : Int) < (N : Int) := by omega
      clear ex ep es elo ehh hi c1 hca
      go_wp2
      go_roundg (m - (i + 1))
      case measure => omega
      case rel => exact ⟨i + 1, hh, updN f i lo, rfl, by go_num, by omega, by omega, hhh, HS1, HO.out.set i lo hlo⟩
    · have hltz : ¬ (i : Int) < (m : Int) := by omega
      have e : i = m := by omega
      subst e
      have W1 := u_w32 cy hcy
      obtain ⟨oc, of'⟩ := HO.out.cell i (by omega)
      have HE : Hid (vt (updN f i cy) N = a * k) := (show _ = _ by
        rw [EN1.out]
        exact times_end HI.out (by rw [← EM.out]; exact Nat.le_refl _))
      have HO2 := Aside0.mk (HO.out.set i cy hcy)
      go_wp2_with (go_at_call 75; refine (HO2.out.trim (by omega) HE.out).mono ?_; rintro e1 w1 ⟨z, rfl, hz, hb⟩; have HZ := Lib.hid hz; have HB := Lib.hid hb; clear hz hb)
      go_ret
      exact ⟨z, rfl, HZ.out, HB.out⟩
end Go.Proofs.Ytmeifciagepmpaa
