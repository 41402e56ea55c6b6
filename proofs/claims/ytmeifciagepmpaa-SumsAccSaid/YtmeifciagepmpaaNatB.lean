/- halideref2's whole numbers: Bits, Low, Compare. -/
import Derived.Test.YtmeifciagepmpaaNatA
namespace Go.Proofs.Ytmeifciagepmpaa
open Go.RowKit Go.Proofs.YtmeifciagepmpaaW.PrintWords
set_option linter.unusedSimpArgs false
set_option linter.unusedVariables false

set_option maxHeartbeats 1600000 in
set_option maxRecDepth 100000 in
theorem nbits_calls (w : World) (v : Value) (n : Nat) (hv : NatAt w v n) (hl : len32 n ≤ 1000000) :
    Calls Try.prog 78 #[v] w fun e w' => e = .returned (.int .i64 ((bitlen n : Nat) : Int)) ∧ w = w' := by
  obtain ⟨A, c, rfl, hc, hr⟩ := hv
  obtain ⟨m, em⟩ : ∃ m, m = len32 n := ⟨_, rfl⟩
  have EM := Lib.hid em
  rw [← em] at hr hl hc ⊢
  have HR := Lib.hid hr
  clear hr em
  rcases Nat.eq_zero_or_pos m with h0 | h0
  · subst h0
    have E : Hid (bitlen n = 0) := (show _ = _ by
      have h : n = 0 := by
        rcases Nat.eq_zero_or_pos n with h | h
        · exact h
        · have := len32_pos.2 (by omega : n ≠ 0); have := EM.out; omega
      rw [h]; rfl)
    go_enter Try.func78, Try.ntmps78
    go_wp2_with fail
    go_ret
    refine ⟨?_, rfl⟩
    rw [E.out]; exact ret_nat rfl
  · obtain ⟨q, rfl⟩ : ∃ q, m = q + 1 := ⟨m - 1, by omega⟩
    obtain ⟨ad, rfl, hcell⟩ := HR.out (by omega)
    obtain ⟨t, et⟩ : ∃ t, t = dig n q := ⟨_, rfl⟩
    have c1 := hcell q (by omega)
    rw [← et] at c1
    have ht : t < 4294967296 := by rw [et]; exact dig_lt _ _
    have ET := Lib.hid et
    have W1 : IntKind.i64.wrap ((q : Int) + 1 - 1) = (q : Int) := by rw [IntWalk.i64_in _ (by omega)]; omega
    have W2 : IntKind.i64.wrap (((q + 1 : Nat) : Int) - 1) = (q : Int) := by rw [IntWalk.i64_in _ (by omega)]; omega
    have W3 : IntKind.i64.wrap (32 * (q : Int)) = 32 * (q : Int) := IntWalk.i64_in _ (by omega)
    have hq1 : (q : Int) < (q : Int) + 1 := by omega
    have hz : ((q : Int) + 1 == 0) = false := by rw [beq_eq_false_iff_ne]; omega
    clear hcell et
    go_enter Try.func78, Try.ntmps78
    go_wp2_with fail
    clear W1 W2 W3 c1
    go_loopg [3, 4] 32 (fun kq v3 v4 wr => ∃ k z : Nat, v3 = .int .i64 (32 * (q : Int) + (k : Int)) ∧ v4 = .int .u32 (z : Int) ∧ Hid (z = t / 2 ^ k) ∧ k ≤ 32 ∧ 32 ≤ k + kq ∧ Hid (k = 0 ∨ t / 2 ^ (k - 1) ≠ 0) ∧ wr = w)
    case atStart => exact ⟨0, t, by simp, rfl, (show _ = _ by simp), by omega, by omega, .inl rfl, rfl⟩
    case round =>
      obtain ⟨k, z, rfl, rfl, HZ, hk, hkq, HP, rfl⟩ := hrel
      by_cases hz0 : z = 0
      · have hlt : ¬ (0 : Int) < (z : Int) := by omega
        have HZ0 := Lib.hid hz0
        clear hz0
        go_wp2
        go_ret
        refine ⟨?_, rfl⟩
        have hnz : n ≠ 0 := len32_pos.1 (by have := EM.out; omega)
        have e : bitlen n = 32 * q + k := by
          have := bits_top (k := k) hnz (by rw [← EM.out]; exact ET.out) (by rw [← HZ.out, HZ0.out]) HP.out
          rw [← EM.out] at this; omega
        exact ret_nat (by rw [e]; omega)
      · have hlt : (0 : Int) < (z : Int) := by omega
        have hk2 : k < 32 := by
          rcases Nat.lt_or_ge k 32 with h | h
          · exact h
          · exfalso
            have h1 : k = 32 := by omega
            subst h1
            have := HZ.out
            rw [Nat.div_eq_of_lt ht] at this
            exact hz0 this
        have D1 : Hid ((z : Int) / 2 = ((z / 2 : Nat) : Int)) := (show _ = _ by omega)
        have HZ0 := Lib.hid hz0
        clear hz0
        go_wp2
        go_roundg (32 - (k + 1))
        case measure => omega
        case rel => exact ⟨k + 1, z / 2, by first | rfl | go_num | (congr 1; omega), by first | rfl | (rw [← D1.out]), (show _ = _ by rw [HZ.out, Nat.div_div_eq_div_mul, Nat.pow_succ]), by omega, by omega, .inr (by rw [show k + 1 - 1 = k by omega, ← HZ.out]; exact HZ0.out), rfl⟩

theorem u_add0 (a : Addr) : a.add 0 = a := by unfold Addr.add; split <;> simp_all
theorem u_or64 (a b : Nat) (ha : a < 4294967296) (hb : b < 4294967296) : bits .or .u64 (a : Int) ((b * 4294967296 : Nat) : Int) = ((a + b * 4294967296 : Nat) : Int) := by
  have h := (bits_nat .u64 64 (by decide) (fun n h0 h1 => by rw [IntKind.wrap_u64]; omega) a (b * 4294967296) (by omega) (by omega)).2
  have e : a ||| b * 4294967296 = a + b * 4294967296 := by
    have h1 := Nat.shiftLeft_add_eq_or_of_lt (i := 32) (b := a) (by omega) b
    rw [Nat.or_comm, show b * 4294967296 = b <<< 32 by rw [Nat.shiftLeft_eq], ← h1, Nat.add_comm]
  rw [e] at h
  exact h

set_option maxHeartbeats 1600000 in
set_option maxRecDepth 100000 in
theorem low_calls (w : World) (v : Value) (n : Nat) (hv : NatAt w v n) (hl : len32 n ≤ 1000000) :
    Calls Try.prog 83 #[v] w fun e w' => e = .returned (.int .u64 ((n % 18446744073709551616 : Nat) : Int)) ∧ w = w' := by
  obtain ⟨A, c, rfl, hc, hr⟩ := hv
  obtain ⟨m, em⟩ : ∃ m, m = len32 n := ⟨_, rfl⟩
  have e0 : n % 18446744073709551616 = dig n 0 + dig n 1 * 4294967296 := by
    have h := mod_dig n 1
    have h2 := mod_dig n 0
    simp [Nat.mod_one] at h h2
    rw [h2] at h
    exact h
  have E := Lib.hid e0
  have EM := Lib.hid em
  rw [← em] at hr hl hc ⊢
  have HR := Lib.hid hr
  clear hr e0
  rcases (show m = 0 ∨ m = 1 ∨ 2 ≤ m by omega) with h | h | h
  · subst h
    have H : Hid (n % 18446744073709551616 = 0) := (show _ = _ by rw [E.out, dig_high (k := 0) (by omega), dig_high (k := 1) (by omega)])
    clear em
    go_enter Try.func83, Try.ntmps83
    go_wp2_with fail
    go_ret
    refine ⟨?_, rfl⟩
    rw [H.out]; exact ret_nat rfl
  · subst h
    obtain ⟨ad, rfl, hcell⟩ := HR.out (by omega)
    obtain ⟨t, et⟩ : ∃ t, t = dig n 0 := ⟨_, rfl⟩
    have c1 := hcell 0 (by omega)
    rw [← et, u_add0] at c1
    have ht : t < 4294967296 := by rw [et]; exact dig_lt _ _
    have H : Hid (n % 18446744073709551616 = t) := (show _ = _ by rw [E.out, dig_high (k := 1) (by omega), ← et]; omega)
    have W1 := u_w64 t (by omega)
    clear em et hcell
    go_enter Try.func83, Try.ntmps83
    go_wp2_with fail
    go_ret
    refine ⟨?_, rfl⟩
    rw [H.out]; exact ret_nat rfl
  · obtain ⟨ad, rfl, hcell⟩ := HR.out (by omega)
    obtain ⟨t, et⟩ : ∃ t, t = dig n 0 := ⟨_, rfl⟩
    obtain ⟨s, es⟩ : ∃ s, s = dig n 1 := ⟨_, rfl⟩
    have c1 := hcell 0 (by omega)
    have c2 : w.cell? ⟨ad.block, ad.off + 1, none⟩ = some (.int .u32 ((dig n 1 : Nat) : Int)) := hcell 1 (by omega)
    rw [← et, u_add0] at c1
    rw [← es] at c2
    have ht : t < 4294967296 := by rw [et]; exact dig_lt _ _
    have hs : s < 4294967296 := by rw [es]; exact dig_lt _ _
    have H : Hid (n % 18446744073709551616 = t + s * 4294967296) := (show _ = _ by rw [E.out, ← et, ← es])
    have W1 := u_w64 t (by omega)
    have W2 := u_w64 s (by omega)
    obtain ⟨z, ez⟩ : ∃ z, z = t + s * 4294967296 := ⟨_, rfl⟩
    obtain ⟨y, ey⟩ : ∃ y, y = s * 4294967296 := ⟨_, rfl⟩
    have W3 : IntKind.u64.wrap ((s : Int) * 4294967296) = (y : Int) := by rw [show (s : Int) * 4294967296 = ((s * 4294967296 : Nat) : Int) by omega, u_w64 _ (by omega), ey]
    have B := u_or64 t s ht hs
    rw [← ey] at B
    rw [← ey] at ez
    rw [← ez] at B
    have h1 : (1 : Int) < (m : Int) := by omega
    have h2 : (0 : Int) < (m : Int) := by omega
    have h3 : 0 < m := by omega
    have h4 : 1 < m := by omega
    have HZ : Hid (z = t + s * 4294967296) := (show _ = _ by rw [ez, ey])
    clear em et es hcell ez ey
    go_enter Try.func83, Try.ntmps83
    go_wp2_with fail
    go_ret
    refine ⟨?_, rfl⟩
    rw [H.out, ← HZ.out]; exact ret_nat rfl
end Go.Proofs.Ytmeifciagepmpaa
