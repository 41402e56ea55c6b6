/- halideref2's whole numbers: trimmed, NatOf, Bit, Low, Bits. halideref2's whole numbers: Bits, Low, Compare. halideref2's whole numbers: Compare, Plus, Minus. halideref2's whole numbers: Plus, Minus. halideref2's whole numbers: Up, Down, Times. halideref2's whole numbers: Down. -/
import Derived.Test.YtdcpeeolfgohmaaU
namespace Go.Proofs.Ytdcpeeolfgohmaa
open Go.RowKit Go.Proofs.YtdcpeeolfgohmaaW.PrintWords
set_option linter.unusedSimpArgs false
set_option linter.unusedVariables false

set_option maxHeartbeats 1600000 in
set_option maxRecDepth 100000 in
theorem trimmed_calls (w : World) (A : Option Addr) (m c n : Nat) (x : Nat → Nat) (hr : RowU w A m x) (hm : m ≤ c) (hc : c ≤ 4611686018427387904) (hx : ∀ k, k < m → x k < 4294967296) (hv : vt x m = n) :
    Calls Try.prog 153 #[.slice A m c] w fun e w' => (∃ v, e = .returned v ∧ NatAt w v n) ∧ w = w' := by
  have HR := Lib.hid hr
  have HX := Lib.hid hx
  have HV := Lib.hid hv
  clear hr hx hv
  go_enter Try.func153, Try.ntmps153
  go_wp2_with fail
  go_loopg [3] m (fun kq v3 wr => ∃ k : Nat, v3 = .int .i64 k ∧ k ≤ m ∧ k ≤ kq ∧ Hid (vt x k = n) ∧ wr = w)
  case atStart => exact ⟨m, rfl, by omega, by omega, HV, rfl⟩
  case round =>
    obtain ⟨k, rfl, hk, hkq, HK, rfl⟩ := hrel
    have hle : (k : Int) ≤ (c : Int) := by omega
    rcases Nat.eq_zero_or_pos k with h0 | h0
    · subst h0
      have E : Hid (n = 0) := (show _ = _ from HK.out.symm)
      go_wp2
      go_ret
      exact ⟨⟨_, rfl, by rw [E.out]; exact NatAt.zero _ _ _⟩, rfl⟩
    · obtain ⟨q, rfl⟩ : ∃ q, k = q + 1 := ⟨k - 1, by omega⟩
      obtain ⟨ad, rfl, hcell⟩ := HR.out (by omega)
      obtain ⟨y, ey⟩ : ∃ y, y = x q := ⟨_, rfl⟩
      have c1 := hcell q (by omega)
      rw [← ey] at c1
      have EY := Lib.hid ey
      have HC := Lib.hid hcell
      clear ey hcell
      have hq1 : (0 : Int) < (q : Int) + 1 := by omega
      have hq2 : ((q + 1 : Nat) : Int) - 1 = (q : Int) := by omega
      have W1 : IntKind.i64.wrap ((q : Int) + 1 - 1) = (q : Int) := by rw [IntWalk.i64_in _ (by omega)]; omega
      have W2 : IntKind.i64.wrap (((q + 1 : Nat) : Int) - 1) = (q : Int) := by rw [IntWalk.i64_in _ (by omega)]; omega
      have hqm : (q : Int) < (m : Int) := by omega
      by_cases hy : y = 0
      · have hb : (((y : Nat) : Int) == 0) = true := by rw [hy]; rfl
        have HY := Lib.hid hy
        clear hy
        go_wp2
        go_roundg q
        case measure => omega
        case rel => exact ⟨q, by first | rfl | go_num, by omega, by omega, (show _ = _ by have := HK.out; rw [vt, ← EY.out, HY.out] at this; omega), rfl⟩
      · have hb : (((y : Nat) : Int) == 0) = false := by rw [beq_eq_false_iff_ne]; omega
        have HY := Lib.hid hy
        clear hy
        go_wp2
        go_ret
        have hcn := canon (x := x) (m := q + 1) (n := n) (fun k h => HX.out k (by omega)) HK.out (.inr (by rw [show q + 1 - 1 = q by omega, ← EY.out]; exact HY.out))
        refine ⟨⟨_, rfl, some ad, c, ?_, by omega, fun _ => ⟨ad, rfl, fun i hi => ?_⟩⟩, rfl⟩
        · rw [← hcn.1]; first | rfl | simp
        · rw [HC.out i (by omega), hcn.2 i (by omega)]

theorem u_mask (n : Nat) (h : n < 18446744073709551616) : bits .and .u64 (n : Int) 4294967295 = ((n % 4294967296 : Nat) : Int) := by
  rw [Go.Proofs.Mul64.maskN n (by omega)]
theorem u_w32 (n : Nat) (h : n < 4294967296) : IntKind.u32.wrap (n : Int) = (n : Int) := by
  unfold IntKind.wrap; simp [IntKind.min, IntKind.max, IntKind.bits, IntKind.signed]; omega
theorem u_w64 (n : Nat) (h : n < 18446744073709551616) : IntKind.u64.wrap (n : Int) = (n : Int) := Go.Proofs.Mul64.wrapN n (by omega)

theorem two_digits (n : Nat) (h : n < 18446744073709551616) : vt (fun k => if k = 0 then n % 4294967296 else n / 4294967296) 2 = n := by
  simp [vt]; omega

set_option maxHeartbeats 1600000 in
set_option maxRecDepth 100000 in
theorem natOf_calls (n : Nat) (w : World) (h : n < 18446744073709551616) :
    Calls Try.prog 132 #[.int .u64 (n : Int)] w fun e w' => NatEnd w n e w' := by
  have b1 := u_mask n h
  obtain ⟨p, ep⟩ : ∃ p, p = n % 4294967296 := ⟨_, rfl⟩
  obtain ⟨q, eq⟩ : ∃ q, q = n / 4294967296 := ⟨_, rfl⟩
  have hp : p < 4294967296 := by omega
  have hq : q < 4294967296 := by omega
  rw [← ep] at b1
  have d1 : (n : Int) / 4294967296 = (q : Int) := by omega
  have w1 := u_w32 p hp
  have w2 := u_w32 q hq
  have T := two_digits n h
  rw [← ep, ← eq] at T
  have HT : Hid (∀ W : World, Calls Try.prog 153 #[.slice (some ⟨W.heap.size, 0, none⟩) 2 2] (W.alloc (.cells #[.int .u32 (p : Int), .int .u32 (q : Int)] 65)) fun e w' => (∃ v, e = .returned v ∧ NatAt (W.alloc (.cells #[.int .u32 (p : Int), .int .u32 (q : Int)] 65)) v n) ∧ (W.alloc (.cells #[.int .u32 (p : Int), .int .u32 (q : Int)] 65)) = w') := fun W =>
    trimmed_calls _ _ 2 2 n (fun k => if k = 0 then p else q) (fun _ => ⟨_, rfl, fun i hi => by
      rcases (show i = 0 ∨ i = 1 by omega) with rfl | rfl <;> simp [add_plain]⟩) (by omega) (by omega) (fun k hk => by split <;> omega) T
  clear ep eq T h hp hq
  go_enter Try.func132, Try.ntmps132
  go_wp2_with (go_at_call 153; refine (HT.out _).mono ?_; rintro e1 w1 ⟨⟨v, rfl, hn⟩, rfl⟩; have HN := Lib.hid hn; clear hn)
  go_ret
  exact ⟨v, rfl, HN.out, (Below.refl _ _).alloc (Nat.le_refl _) _⟩

theorem u_bits (a b : Nat) (ha : a < 4294967296) (hb : b < 4294967296) : bits .and .u32 (a : Int) (b : Int) = ((a &&& b : Nat) : Int) ∧ bits .or .u32 (a : Int) (b : Int) = ((a ||| b : Nat) : Int) := by
  have h := bits_nat .u32 32 (by decide) (fun n h0 h1 => by rw [IntKind.wrap_u32]; omega) a b ha hb
  exact ⟨h.1, h.2⟩
theorem u_and1 (a : Nat) (ha : a < 4294967296) : bits .and .u32 (a : Int) 1 = ((a % 2 : Nat) : Int) := by
  have h := (u_bits a 1 ha (by decide)).1
  rw [Nat.and_one_is_mod] at h
  exact h
theorem ret_nat {k : IntKind} {a : Int} {b : Nat} (h : a = (b : Int)) : Ending.returned (.int k a) = .returned (.int k (b : Int)) := by rw [h]

set_option maxHeartbeats 1600000 in
set_option maxRecDepth 100000 in
theorem bit_calls (w : World) (v : Value) (n i : Nat) (hv : NatAt w v n) (hl : len32 n ≤ 1000000) (hi : i ≤ 1000000000) :
    Calls Try.prog 138 #[v, .int .i64 (i : Int)] w fun e w' => e = .returned (.int .i64 ((n / 2 ^ i % 2 : Nat) : Int)) ∧ w = w' := by
  obtain ⟨A, c, rfl, hc, hr⟩ := hv
  obtain ⟨m, em⟩ : ∃ m, m = len32 n := ⟨_, rfl⟩
  have EM := Lib.hid em
  rw [← em] at hr hl hc ⊢
  have HR := Lib.hid hr
  clear hr em
  have d0 : decide ((i : Int) < 0) = false := decide_eq_false (by omega)
  by_cases hb : i / 32 < m
  · obtain ⟨ad, rfl, hcell⟩ := HR.out (by omega)
    obtain ⟨q, eq⟩ : ∃ q, q = i / 32 := ⟨_, rfl⟩
    obtain ⟨r, er⟩ : ∃ r, r = i % 32 := ⟨_, rfl⟩
    obtain ⟨y, ey⟩ : ∃ y, y = dig n q := ⟨_, rfl⟩
    have c1 := hcell q (by omega)
    rw [← ey] at c1
    have hy : y < 4294967296 := by rw [ey]; exact dig_lt _ _
    have E : Hid (n / 2 ^ i % 2 = y / 2 ^ r % 2) := (show _ = _ by rw [bit_dig, ey, er, eq])
    have q1 : (i : Int) / 32 = (q : Int) := by omega
    have r1 : (i : Int) % 32 = (r : Int) := by omega
    have r2 : r < 32 := by omega
    have q2 : (q : Int) < (m : Int) := by omega
    obtain ⟨z, ez⟩ : ∃ z, z = y / 2 ^ r % 2 := ⟨_, rfl⟩
    have hz : z ≤ 1 := by omega
    have B1 : bits .and .u32 ((y : Int) / 2 ^ r) 1 = (z : Int) := by
      have h := u_and1 (y / 2 ^ r) (Nat.lt_of_le_of_lt (Nat.div_le_self _ _) hy)
      rw [← ez] at h
      rw [← h]; norm_cast
    have Z1 : wrap64 (z : Int) = (z : Int) := by unfold wrap64; omega
    rw [← ez] at E
    clear hcell ey eq er ez
    go_enter Try.func138, Try.ntmps138
    go_wp2_with fail
    go_ret
    refine ⟨?_, rfl⟩
    rw [E.out]; exact ret_nat (by first | rfl | simp [Z1])
  · have E : Hid (n / 2 ^ i % 2 = 0) := (show _ = _ by rw [bit_dig, dig_high (by rw [← EM.out]; omega)]; simp)
    obtain ⟨q, eq⟩ : ∃ q, q = i / 32 := ⟨_, rfl⟩
    have q1 : (i : Int) / 32 = (q : Int) := by omega
    have hq : (m : Int) ≤ (q : Int) := by omega
    have hd : decide ((m : Int) ≤ (q : Int)) = true := decide_eq_true hq
    have hd2 : decide (m ≤ q) = true := decide_eq_true (by omega)
    clear eq hb
    go_enter Try.func138, Try.ntmps138
    go_wp2_with fail
    go_ret
    refine ⟨?_, rfl⟩
    rw [E.out]; exact ret_nat rfl

set_option maxHeartbeats 1600000 in
set_option maxRecDepth 100000 in
theorem nbits_calls (w : World) (v : Value) (n : Nat) (hv : NatAt w v n) (hl : len32 n ≤ 1000000) :
    Calls Try.prog 137 #[v] w fun e w' => e = .returned (.int .i64 ((bitlen n : Nat) : Int)) ∧ w = w' := by
  obtain ⟨A, c, rfl, hc, hr⟩ := hv
  obtain ⟨m, em⟩ : ∃ m, m = len32 n := ⟨_, rfl⟩
  have EM := Lib.hid em
  rw [← em] at hr hl hc ⊢
  have HR := Lib.hid hr
  clear hr em
  rcases Nat.eq_zero_or_pos m with h0 | h0
  · subst h0
    have E : Hid (bitlen n = 0) := (show _ = _ by
      have h : n = 0 := by
        rcases Nat.eq_zero_or_pos n with h | h
        · exact h
        · have := len32_pos.2 (by omega : n ≠ 0); have := EM.out; omega
      rw [h]; rfl)
    go_enter Try.func137, Try.ntmps137
    go_wp2_with fail
    go_ret
    refine ⟨?_, rfl⟩
    rw [E.out]; exact ret_nat rfl
  · obtain ⟨q, rfl⟩ : ∃ q, m = q + 1 := ⟨m - 1, by omega⟩
    obtain ⟨ad, rfl, hcell⟩ := HR.out (by omega)
    obtain ⟨t, et⟩ : ∃ t, t = dig n q := ⟨_, rfl⟩
    have c1 := hcell q (by omega)
    rw [← et] at c1
    have ht : t < 4294967296 := by rw [et]; exact dig_lt _ _
    have ET := Lib.hid et
    have W1 : IntKind.i64.wrap ((q : Int) + 1 - 1) = (q : Int) := by rw [IntWalk.i64_in _ (by omega)]; omega
    have W2 : IntKind.i64.wrap (((q + 1 : Nat) : Int) - 1) = (q : Int) := by rw [IntWalk.i64_in _ (by omega)]; omega
    have W3 : IntKind.i64.wrap (32 * (q : Int)) = 32 * (q : Int) := IntWalk.i64_in _ (by omega)
    have hq1 : (q : Int) < (q : Int) + 1 := by omega
    have hz : ((q : Int) + 1 == 0) = false := by rw [beq_eq_false_iff_ne]; omega
    clear hcell et
    go_enter Try.func137, Try.ntmps137
    go_wp2_with fail
    clear W1 W2 W3 c1
    go_loopg [3, 4] 32 (fun kq v3 v4 wr => ∃ k z : Nat, v3 = .int .i64 (32 * (q : Int) + (k : Int)) ∧ v4 = .int .u32 (z : Int) ∧ Hid (z = t / 2 ^ k) ∧ k ≤ 32 ∧ 32 ≤ k + kq ∧ Hid (k = 0 ∨ t / 2 ^ (k - 1) ≠ 0) ∧ wr = w)
    case atStart => exact ⟨0, t, by simp, rfl, (show _ = _ by simp), by omega, by omega, .inl rfl, rfl⟩
    case round =>
      obtain ⟨k, z, rfl, rfl, HZ, hk, hkq, HP, rfl⟩ := hrel
      by_cases hz0 : z = 0
      · have hlt : ¬ (0 : Int) < (z : Int) := by omega
        have HZ0 := Lib.hid hz0
        clear hz0
        go_wp2
        go_ret
        refine ⟨?_, rfl⟩
        have hnz : n ≠ 0 := len32_pos.1 (by have := EM.out; omega)
        have e : bitlen n = 32 * q + k := by
          have := bits_top (k := k) hnz (by rw [← EM.out]; exact ET.out) (by rw [← HZ.out, HZ0.out]) HP.out
          rw [← EM.out] at this; omega
        exact ret_nat (by rw [e]; omega)
      · have hlt : (0 : Int) < (z : Int) := by omega
        have hk2 : k < 32 := by
          rcases Nat.lt_or_ge k 32 with h | h
          · exact h
          · exfalso
            have h1 : k = 32 := by omega
            subst h1
            have := HZ.out
            rw [Nat.div_eq_of_lt ht] at this
            exact hz0 this
        have D1 : Hid ((z : Int) / 2 = ((z / 2 : Nat) : Int)) := (show _ = _ by omega)
        have HZ0 := Lib.hid hz0
        clear hz0
        go_wp2
        go_roundg (32 - (k + 1))
        case measure => omega
        case rel => exact ⟨k + 1, z / 2, by first | rfl | go_num | (congr 1; omega), by first | rfl | (rw [← D1.out]), (show _ = _ by rw [HZ.out, Nat.div_div_eq_div_mul, Nat.pow_succ]), by omega, by omega, .inr (by rw [show k + 1 - 1 = k by omega, ← HZ.out]; exact HZ0.out), rfl⟩

theorem u_add0 (a : Addr) : a.add 0 = a := by unfold Addr.add; split <;> simp_all
theorem u_or64 (a b : Nat) (ha : a < 4294967296) (hb : b < 4294967296) : bits .or .u64 (a : Int) ((b * 4294967296 : Nat) : Int) = ((a + b * 4294967296 : Nat) : Int) := by
  have h := (bits_nat .u64 64 (by decide) (fun n h0 h1 => by rw [IntKind.wrap_u64]; omega) a (b * 4294967296) (by omega) (by omega)).2
  have e : a ||| b * 4294967296 = a + b * 4294967296 := by
    have h1 := Nat.shiftLeft_add_eq_or_of_lt (i := 32) (b := a) (by omega) b
    rw [Nat.or_comm, show b * 4294967296 = b <<< 32 by rw [Nat.shiftLeft_eq], ← h1, Nat.add_comm]
  rw [e] at h
  exact h

set_option maxHeartbeats 1600000 in
set_option maxRecDepth 100000 in
theorem low_calls (w : World) (v : Value) (n : Nat) (hv : NatAt w v n) (hl : len32 n ≤ 1000000) :
    Calls Try.prog 142 #[v] w fun e w' => e = .returned (.int .u64 ((n % 18446744073709551616 : Nat) : Int)) ∧ w = w' := by
  obtain ⟨A, c, rfl, hc, hr⟩ := hv
  obtain ⟨m, em⟩ : ∃ m, m = len32 n := ⟨_, rfl⟩
  have e0 : n % 18446744073709551616 = dig n 0 + dig n 1 * 4294967296 := by
    have h := mod_dig n 1
    have h2 := mod_dig n 0
    simp [Nat.mod_one] at h h2
    rw [h2] at h
    exact h
  have E := Lib.hid e0
  have EM := Lib.hid em
  rw [← em] at hr hl hc ⊢
  have HR := Lib.hid hr
  clear hr e0
  rcases (show m = 0 ∨ m = 1 ∨ 2 ≤ m by omega) with h | h | h
  · subst h
    have H : Hid (n % 18446744073709551616 = 0) := (show _ = _ by rw [E.out, dig_high (k := 0) (by omega), dig_high (k := 1) (by omega)])
    clear em
    go_enter Try.func142, Try.ntmps142
    go_wp2_with fail
    go_ret
    refine ⟨?_, rfl⟩
    rw [H.out]; exact ret_nat rfl
  · subst h
    obtain ⟨ad, rfl, hcell⟩ := HR.out (by omega)
    obtain ⟨t, et⟩ : ∃ t, t = dig n 0 := ⟨_, rfl⟩
    have c1 := hcell 0 (by omega)
    rw [← et, u_add0] at c1
    have ht : t < 4294967296 := by rw [et]; exact dig_lt _ _
    have H : Hid (n % 18446744073709551616 = t) := (show _ = _ by rw [E.out, dig_high (k := 1) (by omega), ← et]; omega)
    have W1 := u_w64 t (by omega)
    clear em et hcell
    go_enter Try.func142, Try.ntmps142
    go_wp2_with fail
    go_ret
    refine ⟨?_, rfl⟩
    rw [H.out]; exact ret_nat rfl
  · obtain ⟨ad, rfl, hcell⟩ := HR.out (by omega)
    obtain ⟨t, et⟩ : ∃ t, t = dig n 0 := ⟨_, rfl⟩
    obtain ⟨s, es⟩ : ∃ s, s = dig n 1 := ⟨_, rfl⟩
    have c1 := hcell 0 (by omega)
    have c2 : w.cell? ⟨ad.block, ad.off + 1, none⟩ = some (.int .u32 ((dig n 1 : Nat) : Int)) := hcell 1 (by omega)
    rw [← et, u_add0] at c1
    rw [← es] at c2
    have ht : t < 4294967296 := by rw [et]; exact dig_lt _ _
    have hs : s < 4294967296 := by rw [es]; exact dig_lt _ _
    have H : Hid (n % 18446744073709551616 = t + s * 4294967296) := (show _ = _ by rw [E.out, ← et, ← es])
    have W1 := u_w64 t (by omega)
    have W2 := u_w64 s (by omega)
    obtain ⟨z, ez⟩ : ∃ z, z = t + s * 4294967296 := ⟨_, rfl⟩
    obtain ⟨y, ey⟩ : ∃ y, y = s * 4294967296 := ⟨_, rfl⟩
    have W3 : IntKind.u64.wrap ((s : Int) * 4294967296) = (y : Int) := by rw [show (s : Int) * 4294967296 = ((s * 4294967296 : Nat) : Int) by omega, u_w64 _ (by omega), ey]
    have B := u_or64 t s ht hs
    rw [← ey] at B
    rw [← ey] at ez
    rw [← ez] at B
    have h1 : (1 : Int) < (m : Int) := by omega
    have h2 : (0 : Int) < (m : Int) := by omega
    have h3 : 0 < m := by omega
    have h4 : 1 < m := by omega
    have HZ : Hid (z = t + s * 4294967296) := (show _ = _ by rw [ez, ey])
    clear em et es hcell ez ey
    go_enter Try.func142, Try.ntmps142
    go_wp2_with fail
    go_ret
    refine ⟨?_, rfl⟩
    rw [H.out, ← HZ.out]; exact ret_nat rfl

theorem ret_int {k : IntKind} {a b : Int} (h : a = b) : Ending.returned (.int k a) = .returned (.int k b) := by rw [h]
theorem cmpN_lt {a b : Nat} (h : a < b) : cmpN a b = -1 := if_pos h
theorem cmpN_gt {a b : Nat} (h : b < a) : cmpN a b = 1 := by unfold cmpN; rw [if_neg (by omega), if_neg (by omega)]
theorem cmpN_eq {a b : Nat} (h : a = b) : cmpN a b = 0 := by unfold cmpN; rw [if_neg (by omega), if_pos h]

set_option maxHeartbeats 1600000 in
set_option maxRecDepth 100000 in
theorem ncompare_calls (w : World) (v u : Value) (a b : Nat) (hv : NatAt w v a) (hu : NatAt w u b) (hla : len32 a ≤ 1000000) (hlb : len32 b ≤ 1000000) :
    Calls Try.prog 159 #[v, u] w fun e w' => e = .returned (.int .i64 (cmpN a b)) ∧ Drawn0 w w' := by
  obtain ⟨A, c, rfl, hc, hr⟩ := hv
  obtain ⟨B, d, rfl, hd, hs⟩ := hu
  obtain ⟨m, em⟩ : ∃ m, m = len32 a := ⟨_, rfl⟩
  obtain ⟨n, en⟩ : ∃ n, n = len32 b := ⟨_, rfl⟩
  have EM := Lib.hid em
  have EN := Lib.hid en
  rw [← em] at hr hla hc ⊢
  rw [← en] at hs hlb hd ⊢
  have HR := Lib.hid hr
  have HS := Lib.hid hs
  clear hr hs em en
  rcases Nat.lt_trichotomy m n with h | h | h
  · have E := Lib.hid (cmpN_lt (a := a) (b := b) (cmp_len (by rw [← EM.out, ← EN.out]; exact h)))
    have h1 : ((m : Int) != (n : Int)) = true := by rw [bne_iff_ne]; omega
    have h2 : ((m : Int) == (n : Int)) = false := by rw [beq_eq_false_iff_ne]; omega
    have h3 : (m : Int) < (n : Int) := by omega
    go_enter Try.func159, Try.ntmps159
    go_wp2_with fail
    go_ret
    exact ⟨ret_int E.out.symm, Drawn0.refl _⟩
  · subst h
    have heq : ((m : Int) == (m : Int)) = true := beq_iff_eq.2 rfl
    have hne : ((m : Int) != (m : Int)) = false := bne_self_eq_false _
    have W0 : IntKind.i64.wrap ((m : Int) - 1) = (m : Int) - 1 := IntWalk.i64_in _ (by omega)
    go_enter Try.func159, Try.ntmps159
    go_wp2_with fail
    clear W0
    go_loopg [5] m (fun kq v5 wr => ∃ k : Nat, v5 = .int .i64 ((k : Int) - 1) ∧ k ≤ m ∧ k ≤ kq ∧ Hid (a / 2 ^ (32 * k) = b / 2 ^ (32 * k)) ∧ Aside (Drawn0 w wr))
    case atStart =>
      refine ⟨m, by first | rfl | simp, by omega, by omega, (show _ = _ from ?_), Drawn0.refl _⟩
      rw [Nat.div_eq_of_lt ((lt_len32 a m).1 (by have := EM.out; omega)), Nat.div_eq_of_lt ((lt_len32 b m).1 (by have := EN.out; omega))]
    case round =>
      obtain ⟨k, rfl, hk, hkq, HE, HD0⟩ := hrel
      obtain ⟨qn, rfl⟩ := HD0.out.out
      rcases Nat.eq_zero_or_pos k with h0 | h0
      · subst h0
        have E : Hid (cmpN a b = 0) := cmpN_eq (by have := HE.out; simpa using this)
        have hneg : ¬ (0 : Int) ≤ ((0 : Nat) : Int) - 1 := by omega
        go_wp2
        go_ret
        exact ⟨ret_int E.out.symm, HD0.out⟩
      · obtain ⟨q, rfl⟩ : ∃ q, k = q + 1 := ⟨k - 1, by omega⟩
        have hq2 : ((q + 1 : Nat) : Int) - 1 = (q : Int) := by omega
        rw [hq2]
        obtain ⟨ad, rfl, hca⟩ := HR.out (by omega)
        obtain ⟨be, rfl, hcb⟩ := HS.out (by omega)
        obtain ⟨x, ex⟩ : ∃ x, x = dig a q := ⟨_, rfl⟩
        obtain ⟨y, ey⟩ : ∃ y, y = dig b q := ⟨_, rfl⟩
        have c1 := hca q (by omega)
        have c2 := hcb q (by omega)
        rw [← ex] at c1
        rw [← ey] at c2
        have EX := Lib.hid ex
        have EY := Lib.hid ey
        have hqm : (q : Int) < (m : Int) := by omega
        have hq0 : (0 : Int) ≤ (q : Int) := by omega
        clear hca hcb ex ey hq2
        by_cases hxy : x = y
        · have hb : ((x : Int) != (y : Int)) = false := by rw [hxy]; exact bne_self_eq_false _
          have HXY := Lib.hid hxy
          clear hxy
          go_wp2
          repeat (go_quiet (fail); try go_wp2)
          go_roundg q
          case measure => omega
          case rel => exact ⟨q, by first | rfl | go_num | simp, by omega, by omega, cmp_same HE.out (by rw [← EX.out, ← EY.out]; exact HXY.out), Drawn0.mk ⟨_, rfl⟩⟩
        · have hb : ((x : Int) != (y : Int)) = true := by rw [bne_iff_ne]; omega
          by_cases hlt : x < y
          · have hlti : (x : Int) < (y : Int) := by omega
            have E := Lib.hid (cmpN_lt (cmp_dig HE.out (by rw [← EX.out, ← EY.out]; exact hlt)))
            clear hxy
            go_wp2
            repeat (go_quiet (fail); try go_wp2)
            go_ret
            exact ⟨ret_int E.out.symm, ((HD0.out.step _).step _)⟩
          · have hlti : ¬ (x : Int) < (y : Int) := by omega
            have E := Lib.hid (cmpN_gt (cmp_dig HE.out.symm (by rw [← EX.out, ← EY.out]; omega)))
            clear hxy
            go_wp2
            repeat (go_quiet (fail); try go_wp2)
            go_ret
            exact ⟨ret_int E.out.symm, ((HD0.out.step _).step _)⟩
  · have E := Lib.hid (cmpN_gt (a := a) (b := b) (cmp_len (by rw [← EM.out, ← EN.out]; exact h)))
    have h1 : ((m : Int) != (n : Int)) = true := by rw [bne_iff_ne]; omega
    have h2 : ((m : Int) == (n : Int)) = false := by rw [beq_eq_false_iff_ne]; omega
    have h3 : ¬ (m : Int) < (n : Int) := by omega
    go_enter Try.func159, Try.ntmps159
    go_wp2_with fail
    go_ret
    exact ⟨ret_int E.out.symm, Drawn0.refl _⟩

theorem u_make (n : Nat) (hn : n ≤ 1000000000) (W : World) :
    (Instr.makeSlice 164 (.int .i64 (n : Int)) (.int .i64 (n : Int))).run Try.prog W = .ok (.slice (some ⟨W.heap.size, 0, none⟩) n n) (W.alloc (.cells (madeCells #[.int .u32 0] n) 65)) := by
  obtain ⟨i, hi, hz⟩ := Option.map_eq_some_iff.1 u_info
  simp only [Prod.mk.injEq] at hz
  have h := run_make (P := Try.prog) W 164 65 i (.int .u32 0) Try.underlying164 hi hz.1 .i64 .i64 n n (by omega) (by omega) (by rw [hz.2.2]; omega) (by omega)
  rw [hz.2.1] at h
  simpa [Value.cells] using h

/-- A block of the call's own beside what is read. -/
structure OutW (w : World) (g n : Nat) (f : Nat → Nat) (W : World) : Prop where
  lo : w.heap.size ≤ g
  bl : W.heap[g]? = some (.cells (arrU n f) 65 (0, 0))
  be : Below w.heap.size w W
  di : ∀ k, k < n → f k < 4294967296
theorem OutW.set {w W : World} {g n : Nat} {f : Nat → Nat} (h : OutW w g n f W) (i v : Nat) (hv : v < 4294967296) : OutW w g n (updN f i v) (W.setCell ⟨g, i, none⟩ (.int .u32 (v : Int))) :=
  ⟨h.lo, uset h.bl i v, h.be.setCell h.lo _, fun k hk => by unfold updN; split; exact hv; exact h.di k hk⟩
theorem OutW.start (w : World) (n : Nat) : OutW w w.heap.size n (fun _ => 0) (w.alloc (.cells (arrU n fun _ => 0) 65)) :=
  ⟨Nat.le_refl _, heap_alloc_new w _, (Below.refl _ _).alloc (Nat.le_refl _) _, fun _ _ => by omega⟩
theorem OutW.cell {w W : World} {g n : Nat} {f : Nat → Nat} (h : OutW w g n f W) (i : Nat) (hi : i < n) : W.cell? ⟨g, i, none⟩ = some (.int .u32 ((f i : Nat) : Int)) ∧ W.frozen? ⟨g, i, none⟩ = false :=
  ⟨(ucell h.bl i).trans (arrU_get n f i hi), ufree h.bl i⟩
theorem OutW.trim {w W : World} {g n s : Nat} {f : Nat → Nat} (h : OutW w g n f W) (hn : n ≤ 4611686018427387904) (hv : vt f n = s) :
    Calls Try.prog 153 #[.slice (some ⟨g, 0, none⟩) n n] W fun e w' => NatEnd w s e w' :=
  (trimmed_calls W (some ⟨g, 0, none⟩) n n s f (RowU.arr h.bl) (Nat.le_refl _) hn h.di hv).mono fun e w' ⟨⟨v, he, hn⟩, hw⟩ => by
    subst hw; exact ⟨v, he, hn, h.be⟩

/-- A digit that is read, or that is not there. -/
def DigIs (w : World) (A : Option Addr) (m i x : Nat) : Prop := (i < m ∧ ∃ ad, A = some ad ∧ w.cell? (ad.add i) = some (.int .u32 (x : Int))) ∨ (¬ i < m ∧ x = 0)
theorem DigIs.of {w : World} {A : Option Addr} {a : Nat} (h : RowU w A (len32 a) (dig a)) (i : Nat) : DigIs w A (len32 a) i (dig a i) := by
  by_cases hi : i < len32 a
  · obtain ⟨ad, e, hc⟩ := h (by omega)
    exact .inl ⟨hi, ad, e, hc i hi⟩
  · exact .inr ⟨hi, dig_high (by omega)⟩

set_option maxHeartbeats 3200000 in
set_option maxRecDepth 100000 in
theorem plus_calls (w : World) (v u : Value) (a b : Nat) (hv : NatAt w v a) (hu : NatAt w u b) (hla : len32 a ≤ 1000000) (hlb : len32 b ≤ 1000000) :
    Calls Try.prog 141 #[v, u] w fun e w' => NatEnd w (a + b) e w' := by
  obtain ⟨A, c, rfl, hc, hr⟩ := hv
  obtain ⟨B, d, rfl, hd, hs⟩ := hu
  have HR := Lib.hid hr
  have HS := Lib.hid hs
  obtain ⟨m, em⟩ : ∃ m, m = len32 a := ⟨_, rfl⟩
  obtain ⟨n, en⟩ : ∃ n, n = len32 b := ⟨_, rfl⟩
  have EM := Lib.hid em
  have EN := Lib.hid en
  rw [← em] at HR hla hc ⊢
  rw [← en] at HS hlb hd ⊢
  obtain ⟨t, et⟩ : ∃ t, t = max m n := ⟨_, rfl⟩
  have ht1 : m ≤ t := by omega
  have ht2 : n ≤ t := by omega
  obtain ⟨N, eN⟩ : ∃ N, N = t + 1 := ⟨_, rfl⟩
  have hz : Hid ((if m < n then (n : Int) else (m : Int)) + 1 = (N : Int)) := (show _ = _ by rw [eN, et]; split <;> omega)
  have hN : N ≤ 1000001 := by omega
  have EN1 := Lib.hid eN
  have HM := Lib.hid (u_make N (by omega))
  clear hr hs em en et
  go_enter Try.func141, Try.ntmps141
  clear eN
  go_upto_region 2 with (fail)
  obtain ⟨mm, emm⟩ : ∃ mm : Int, (if m < n then (n : Int) else (m : Int)) = mm := ⟨_, rfl⟩
  have hz2 : Hid (mm + 1 = (N : Int)) := (show _ = _ by rw [← emm]; exact hz.out)
  rw [emm, hz2.out]
  clear emm hz2
  have hm := HM.out
  rw [arrU_made] at hm
  clear hz HM
  go_wp2_with fail
  clear hm
  have HO0 := OutW.start w N
  obtain ⟨g, eg⟩ : ∃ g, g = w.heap.size := ⟨_, rfl⟩
  rw [← eg] at HO0 ⊢
  clear eg
  go_loopg [7, 8] N (fun kq v7 v8 wr => ∃ (i cy : Nat) (f : Nat → Nat), v7 = .int .u64 (cy : Int) ∧ v8 = .int .i64 (i : Int) ∧ i ≤ N ∧ N ≤ i + kq ∧ cy ≤ 1 ∧ Hid (vt f i + cy * 2 ^ (32 * i) = a % 2 ^ (32 * i) + b % 2 ^ (32 * i)) ∧ Aside (OutW w g N f wr))
  case atStart => exact ⟨0, 0, _, rfl, rfl, by omega, by omega, by omega, (show _ = _ by simp [vt, Nat.mod_one]), HO0⟩
  case round =>
    clear HO0
    obtain ⟨i, cy, f, rfl, rfl, hi, hk, hcy, HI, HO⟩ := hrel
    by_cases hlt : i < N
    · have hltz : (i : Int) < (N : Int) := by omega
      have HSTEP := Lib.hid (plus_step HI.out)
      have hda := DigIs.of (HR.out.below HO.out.be |> fun h => by rw [EM.out] at h; exact h) i
      have hdb := DigIs.of (HS.out.below HO.out.be |> fun h => by rw [EN.out] at h; exact h) i
      have hx := dig_lt a i
      have hy := dig_lt b i
      obtain ⟨x, ex⟩ : ∃ x, x = dig a i := ⟨_, rfl⟩
      obtain ⟨y, ey⟩ : ∃ y, y = dig b i := ⟨_, rfl⟩
      rw [← EM.out, ← ex] at hda
      rw [← EN.out, ← ey] at hdb
      rw [← ex] at hx
      rw [← ey] at hy
      rw [← ex, ← ey] at HSTEP
      obtain ⟨p, ep⟩ : ∃ p, p = cy + x := ⟨_, rfl⟩
      obtain ⟨s, es⟩ : ∃ s, s = p + y := ⟨_, rfl⟩
      rw [← ep, ← es] at HSTEP
      obtain ⟨lo, elo⟩ : ∃ lo, lo = s % 4294967296 := ⟨_, rfl⟩
      obtain ⟨hh, ehh⟩ : ∃ hh, hh = s / 4294967296 := ⟨_, rfl⟩
      rw [← elo, ← ehh] at HSTEP
      have hlo : lo < 4294967296 := by omega
      have hhh : hh ≤ 1 := by omega
      have W1 := u_w64 x (by omega)
      have W2 : IntKind.u64.wrap ((cy : Int) + (x : Int)) = (p : Int) := by rw [show (cy : Int) + (x : Int) = (p : Int) by omega, u_w64 p (by omega)]
      have W3 := u_w64 y (by omega)
      have W4 : IntKind.u64.wrap ((p : Int) + (y : Int)) = (s : Int) := by rw [show (p : Int) + (y : Int) = (s : Int) by omega, u_w64 s (by omega)]
      have W5 := u_mask s (by omega)
      rw [← elo] at W5
      have W6 := u_w32 lo hlo
      have W7 : (s : Int) / 4294967296 = (hh : Int) := by omega
      obtain ⟨oc, of'⟩ := HO.out.cell i hlt
      clear ex ey elo ehh hi
      have hda2 : (i < m ∧ ∃ ad, A = some ad ∧ wr.cell? (ad.add i) = some (.int .u32 (x : Int))) ∨ (¬ i < m ∧ p = cy) := hda.imp id (fun h => ⟨h.1, by omega⟩)
      have hdb2 : (i < n ∧ ∃ ad, B = some ad ∧ wr.cell? (ad.add i) = some (.int .u32 (y : Int))) ∨ (¬ i < n ∧ s = p) := hdb.imp id (fun h => ⟨h.1, by omega⟩)
      clear hda hdb ep es
      rcases hdb2 with ⟨hdb, be, rfl, c2⟩ | ⟨hdb, rfl⟩
      all_goals rcases hda2 with ⟨hda, ad, rfl, c1⟩ | ⟨hda, rfl⟩
      all_goals
        go_wp2
        go_roundg (N - (i + 1))
        case measure => omega
        case rel => exact ⟨i + 1, hh, updN f i lo, rfl, by go_num, by omega, by omega, hhh, HSTEP, HO.out.set i lo hlo⟩
    · have hltz : ¬ (i : Int) < (N : Int) := by omega
      have e : i = N := by omega
      subst e
      have HE : Hid (vt f i = a + b) := (show _ = _ by
        have h := HI.out
        rw [EN1.out] at h ⊢
        exact plus_end h (by rw [← EM.out]; omega) (by rw [← EN.out]; omega))
      go_wp2_with (go_at_call 153; refine (HO.out.trim (by omega) HE.out).mono ?_; rintro e1 w1 ⟨z, rfl, hz, hb⟩; have HZ := Lib.hid hz; have HB := Lib.hid hb; clear hz hb)
      go_ret
      exact ⟨z, rfl, HZ.out, HB.out⟩

set_option maxHeartbeats 3200000 in
set_option maxRecDepth 100000 in
theorem minus_calls (w : World) (v u : Value) (a b : Nat) (hv : NatAt w v a) (hu : NatAt w u b) (hba : b ≤ a) (hla : len32 a ≤ 1000000) :
    Calls Try.prog 160 #[v, u] w fun e w' => NatEnd w (a - b) e w' := by
  have hlb := len32_mono hba
  have HBA := Lib.hid hba
  obtain ⟨A, c, rfl, hc, hr⟩ := hv
  obtain ⟨B, d, rfl, hd, hs⟩ := hu
  have HR := Lib.hid hr
  have HS := Lib.hid hs
  obtain ⟨m, em⟩ : ∃ m, m = len32 a := ⟨_, rfl⟩
  obtain ⟨n, en⟩ : ∃ n, n = len32 b := ⟨_, rfl⟩
  have EM := Lib.hid em
  have EN := Lib.hid en
  rw [← em] at HR hla hlb hc ⊢
  rw [← en] at HS hlb hd ⊢
  have hm := u_make m (by omega)
  rw [arrU_made] at hm
  clear hr hs em en hba
  go_enter Try.func160, Try.ntmps160
  go_wp2_with fail
  clear hm
  have HO0 := OutW.start w m
  obtain ⟨g, eg⟩ : ∃ g, g = w.heap.size := ⟨_, rfl⟩
  rw [← eg] at HO0 ⊢
  clear eg
  go_loopg [6, 7] m (fun kq v6 v7 wr => ∃ (i r : Nat) (f : Nat → Nat), v6 = .int .u64 (r : Int) ∧ v7 = .int .i64 (i : Int) ∧ i ≤ m ∧ m ≤ i + kq ∧ r ≤ 1 ∧ Hid (vt f i + b % 2 ^ (32 * i) = a % 2 ^ (32 * i) + r * 2 ^ (32 * i)) ∧ Aside (OutW w g m f wr))
  case atStart => exact ⟨0, 0, _, rfl, rfl, by omega, by omega, by omega, (show _ = _ by simp [vt, Nat.mod_one]), HO0⟩
  case round =>
    clear HO0
    obtain ⟨i, r, f, rfl, rfl, hi, hk, hr1, HI, HO⟩ := hrel
    by_cases hlt : i < m
    · have hltz : (i : Int) < (m : Int) := by omega
      obtain ⟨ad, rfl, hca⟩ := HR.out (by omega)
      have hdb := DigIs.of (HS.out.below HO.out.be |> fun h => by rw [EN.out] at h; exact h) i
      have hx := dig_lt a i
      have hy := dig_lt b i
      obtain ⟨x, ex⟩ : ∃ x, x = dig a i := ⟨_, rfl⟩
      obtain ⟨y, ey⟩ : ∃ y, y = dig b i := ⟨_, rfl⟩
      have c1 := hca i hlt
      rw [← ex] at c1
      have c1' : wr.cell? (ad.add i) = some (.int .u32 (x : Int)) := by rw [HO.out.be.cell (World.block_lt_of_cell? _ _ c1), c1]
      rw [← EN.out, ← ey] at hdb
      rw [← ex] at hx
      rw [← ey] at hy
      obtain ⟨p, ep⟩ : ∃ p, p = r + y := ⟨_, rfl⟩
      have hp : p ≤ 4294967296 := by omega
      have W1 := u_w64 x (by omega)
      have W2 := u_w64 y (by omega)
      have W3 : IntKind.u64.wrap ((r : Int) + (y : Int)) = (p : Int) := by rw [show (r : Int) + (y : Int) = (p : Int) by omega, u_w64 p (by omega)]
      obtain ⟨oc, of'⟩ := HO.out.cell i hlt
      have hdb2 : (i < n ∧ ∃ ad, B = some ad ∧ wr.cell? (ad.add i) = some (.int .u32 (y : Int))) ∨ (¬ i < n ∧ p = r) := hdb.imp id (fun h => ⟨h.1, by omega⟩)
      have hxp : (∃ o xx : Nat, o + p = x + 4294967296 ∧ o < 4294967296 ∧ xx = x + 4294967296 ∧ x < p) ∨ (∃ o : Nat, o + p = x ∧ o < 4294967296 ∧ ¬ x < p) := by
        by_cases h : x < p
        · exact .inl ⟨x + 4294967296 - p, _, by omega, by omega, rfl, h⟩
        · exact .inr ⟨x - p, by omega, by omega, h⟩
      have HX : Hid (x = dig a i ∧ y = dig b i ∧ p = r + y) := ⟨ex, ey, ep⟩
      clear hdb ep ex ey hca c1 hi
      rcases hxp with ⟨o, xx, h1, h2, h3, h4⟩ | ⟨o, h1, h2, h4⟩
      · have h4' : (x : Int) < (p : Int) := by omega
        have HS1 := Lib.hid (minus_step (o := o) (r' := 1) HI.out (by rw [← HX.out.1, ← HX.out.2.1, ← HX.out.2.2]; omega))
        have W4 : IntKind.u64.wrap ((x : Int) + 4294967296) = (xx : Int) := by rw [show (x : Int) + 4294967296 = (xx : Int) by omega, u_w64 xx (by omega)]
        have W5 : IntKind.u64.wrap ((xx : Int) - (p : Int)) = (o : Int) := by rw [show (xx : Int) - (p : Int) = (o : Int) by omega, u_w64 o (by omega)]
        have W6 := u_w32 o h2
        have H2 := Lib.hid h2
        clear h1 h3 HX
        rcases hdb2 with ⟨hdb, be, rfl, c2⟩ | ⟨hdb, rfl⟩
        all_goals
          go_wp2
          go_roundg (m - (i + 1))
          case measure => omega
          case rel => exact ⟨i + 1, 1, updN f i o, rfl, by go_num, by omega, by omega, by omega, HS1, HO.out.set i o H2.out⟩
      · have h4' : ¬ (x : Int) < (p : Int) := by omega
        have HS1 := Lib.hid (minus_step (o := o) (r' := 0) HI.out (by rw [← HX.out.1, ← HX.out.2.1, ← HX.out.2.2]; omega))
        have W5 : IntKind.u64.wrap ((x : Int) - (p : Int)) = (o : Int) := by rw [show (x : Int) - (p : Int) = (o : Int) by omega, u_w64 o (by omega)]
        have W6 := u_w32 o h2
        have H2 := Lib.hid h2
        clear h1 HX
        rcases hdb2 with ⟨hdb, be, rfl, c2⟩ | ⟨hdb, rfl⟩
        all_goals
          go_wp2
          go_roundg (m - (i + 1))
          case measure => omega
          case rel => exact ⟨i + 1, 0, updN f i o, rfl, by go_num, by omega, by omega, by omega, HS1, HO.out.set i o H2.out⟩
    · have hltz : ¬ (i : Int) < (m : Int) := by omega
      have e : i = m := by omega
      subst e
      have HE : Hid (vt f i = a - b) := minus_end HI.out (vt_lt _ HO.out.di) HBA.out (by rw [← EM.out]; omega)
      go_wp2_with (go_at_call 153; refine (HO.out.trim (by omega) HE.out).mono ?_; rintro e1 w1 ⟨z, rfl, hz, hb⟩; have HZ := Lib.hid hz; have HB := Lib.hid hb; clear hz hb)
      go_ret
      exact ⟨z, rfl, HZ.out, HB.out⟩

theorem vt_zero : ∀ m, vt (fun _ => 0) m = 0
  | 0 => rfl
  | m + 1 => by rw [vt, vt_zero m]; simp

set_option maxHeartbeats 3200000 in
set_option maxRecDepth 100000 in
theorem up_calls (w : World) (v : Value) (a n : Nat) (hv : NatAt w v a) (hla : len32 a ≤ 1000000) (hn : n ≤ 1000000) :
    Calls Try.prog 140 #[v, .int .i64 (n : Int)] w fun e w' => NatEnd w (a * 2 ^ n) e w' := by
  obtain ⟨A, c, rfl, hc, hr⟩ := hv
  have HR := Lib.hid hr
  obtain ⟨m, em⟩ : ∃ m, m = len32 a := ⟨_, rfl⟩
  have EM := Lib.hid em
  rw [← em] at HR hla hc ⊢
  clear hr em
  rcases Nat.eq_zero_or_pos m with h0 | h0
  · subst h0
    have E : Hid (a * 2 ^ n = 0) := (show _ = _ by
      have h := (lt_len32 a 0).1 (by have := EM.out; omega)
      have : a = 0 := by simpa using h
      rw [this, Nat.zero_mul])
    go_enter Try.func140, Try.ntmps140
    go_wp2_with fail
    go_ret
    exact ⟨_, rfl, by rw [E.out]; exact NatAt.zero _ _ _, Below.refl _ _⟩
  · obtain ⟨ad, rfl, hca⟩ := HR.out (by omega)
    have HCA := Lib.hid hca
    obtain ⟨q, eq⟩ : ∃ q, q = n / 32 := ⟨_, rfl⟩
    obtain ⟨r, er⟩ : ∃ r, r = n % 32 := ⟨_, rfl⟩
    have hr : r < 32 := by omega
    have EN : Hid (n = 32 * q + r) := (show _ = _ by omega)
    have q1 : (n : Int) / 32 = (q : Int) := by omega
    have r1 : (n : Int) % 32 = (r : Int) := by omega
    obtain ⟨N, eN⟩ : ∃ N, N = m + q + 1 := ⟨_, rfl⟩
    have W0 : IntKind.i64.wrap ((m : Int) + (q : Int)) = (m : Int) + (q : Int) := IntWalk.i64_in _ (by omega)
    have W1 : IntKind.i64.wrap ((m : Int) + (q : Int) + 1) = (N : Int) := by rw [IntWalk.i64_in _ (by omega)]; omega
    have hq : q ≤ 40000 := by omega
    have hm := u_make N (by omega)
    rw [arrU_made] at hm
    have hz : ((m : Int) == 0) = false := by rw [beq_eq_false_iff_ne]; omega
    have EN1 := Lib.hid eN
    have hNb : N ≤ 2000000 := by omega
    clear hca eq er eN
    go_enter Try.func140, Try.ntmps140
    go_wp2_with fail
    clear hm W0 W1
    have HO0 := OutW.start w N
    obtain ⟨g, eg⟩ : ∃ g, g = w.heap.size := ⟨_, rfl⟩
    rw [← eg] at HO0 ⊢
    clear eg
    go_loopg [6] m (fun kq v6 wr => ∃ (i : Nat) (f : Nat → Nat), v6 = .int .i64 (i : Int) ∧ i ≤ m ∧ m ≤ i + kq ∧ Hid (vt f (i + q + 1) = a % 2 ^ (32 * i) * 2 ^ (32 * q + r)) ∧ Hid (f (i + q) < 2 ^ r ∧ ∀ k, i + q < k → f k = 0) ∧ Aside (OutW w g N f wr))
    case atStart => exact ⟨0, _, rfl, by omega, by omega, (show _ = _ by rw [vt_zero]; simp [Nat.mod_one]), ⟨Nat.two_pow_pos r, fun _ _ => rfl⟩, HO0⟩
    case round =>
      clear HO0
      obtain ⟨i, f, rfl, hi, hk, HI, HF, HO⟩ := hrel
      by_cases hlt : i < m
      · have hltz : (i : Int) < (m : Int) := by omega
        have hx := dig_lt a i
        obtain ⟨x, ex⟩ : ∃ x, x = dig a i := ⟨_, rfl⟩
        have c1 := HCA.out i hlt
        have HS1 := Lib.hid (up_step hr HI.out)
        rw [← ex] at c1 hx HS1
        have c1' : wr.cell? (ad.add i) = some (.int .u32 (x : Int)) := by rw [HO.out.be.cell (World.block_lt_of_cell? _ _ c1), c1]
        have W1 := u_w64 x (by omega)
        obtain ⟨y, ey⟩ : ∃ y, y = x * 2 ^ r := ⟨_, rfl⟩
        have hy : y < 18446744073709551616 := by
          have h1 : x * 2 ^ r ≤ 4294967295 * 2 ^ r := Nat.mul_le_mul_right _ (by omega)
          have h2 : 4294967295 * 2 ^ r ≤ 4294967295 * 2 ^ 32 := Nat.mul_le_mul_left _ (Nat.pow_le_pow_right (by decide) (by omega))
          omega
        have W2 : IntKind.u64.wrap ((x : Int) * 2 ^ r) = (y : Int) := by rw [show (x : Int) * 2 ^ r = (y : Int) by rw [ey]; push_cast; rfl, u_w64 y hy]
        have hor := up_or (x := x) hr HF.out.1
        have hhi := up_hi (r := r) hx
        rw [← ey] at hor hhi HS1
        obtain ⟨lo, elo⟩ : ∃ lo, lo = y % 4294967296 := ⟨_, rfl⟩
        obtain ⟨hh, ehh⟩ : ∃ hh, hh = y / 4294967296 := ⟨_, rfl⟩
        rw [← elo] at hor HS1
        rw [← ehh] at hhi HS1
        have W3 := u_mask y hy
        rw [← elo] at W3
        have hlo : lo < 4294967296 := by omega
        have hh32 : hh < 4294967296 := by omega
        have W4 := u_w32 lo hlo
        have W5 : (y : Int) / 4294967296 = (hh : Int) := by omega
        have W6 := u_w32 hh hh32
        obtain ⟨j, ej⟩ : ∃ j, j = i + q := ⟨_, rfl⟩
        obtain ⟨j1, ej1⟩ : ∃ k, k = j + 1 := ⟨_, rfl⟩
        rw [← ej] at hor HS1
        rw [← ej1] at HS1
        obtain ⟨p, ep⟩ : ∃ p, p = f j := ⟨_, rfl⟩
        rw [← ep] at hor HS1
        obtain ⟨z, ez⟩ : ∃ z, z = p + lo := ⟨_, rfl⟩
        rw [← ez] at hor HS1
        obtain ⟨hor, hz⟩ := hor
        have hp : p < 4294967296 := by omega
        have W7 : bits .or .u32 (p : Int) (lo : Int) = (z : Int) := by rw [(u_bits p lo hp hlo).2, hor]
        have hjN : j < N := by have := EN1.out; omega
        have hj1N : j1 < N := by have := EN1.out; omega
        have W8 : IntKind.i64.wrap ((i : Int) + (q : Int)) = (j : Int) := by rw [IntWalk.i64_in _ (by omega)]; omega
        have W9 : IntKind.i64.wrap ((j : Int) + 1) = (j1 : Int) := by rw [IntWalk.i64_in _ (by omega)]; omega
        have hjz : (j : Int) < (N : Int) := by omega
        have hj1z : (j1 : Int) < (N : Int) := by omega
        obtain ⟨oc, of1⟩ := HO.out.cell j hjN
        obtain ⟨oc1, of2⟩ := HO.out.cell j1 hj1N
        rw [← ep] at oc
        have hne : ¬ j1 = j := by omega
        have hne2 : ¬ j = j1 := by omega
        have HP : Hid (hh < 2 ^ r ∧ z < 4294967296 ∧ hh < 4294967296 ∧ j = i + q ∧ j1 = i + q + 1) := ⟨hhi, hz, hh32, ej, by omega⟩
        clear c1 ex ey elo ehh ej ej1 ep ez hor hhi hi
        go_wp2
        go_roundg (m - (i + 1))
        case measure => omega
        case rel =>
          refine ⟨i + 1, updN (updN f j z) j1 hh, by go_num, by omega, by omega, ?_, ⟨?_, fun k hk => ?_⟩, (HO.out.set j z HP.out.2.1).set j1 hh HP.out.2.2.1⟩
          · exact HS1.out
          · rw [show i + 1 + q = j1 by have := HP.out.2.2.2.2; omega, updN_same]; exact HP.out.1
          · have h1 := HP.out.2.2.2.1
            have h2 := HP.out.2.2.2.2
            rw [updN_other _ _ (by omega), updN_other _ _ (by omega)]; exact HF.out.2 k (by omega)
      · have hltz : ¬ (i : Int) < (m : Int) := by omega
        have e : i = m := by omega
        subst e
        have HE : Hid (vt f N = a * 2 ^ n) := (show _ = _ by
          rw [EN1.out, HI.out, EN.out, Nat.mod_eq_of_lt ((lt_len32 a i).1 (by have := EM.out; omega))])
        go_wp2_with (go_at_call 153; refine (HO.out.trim (by omega) HE.out).mono ?_; rintro e1 w1 ⟨z, rfl, hz, hb⟩; have HZ := Lib.hid hz; have HB := Lib.hid hb; clear hz hb)
        go_ret
        exact ⟨z, rfl, HZ.out, HB.out⟩

set_option maxHeartbeats 3200000 in
set_option maxRecDepth 100000 in
theorem times_calls (w : World) (v : Value) (a k : Nat) (hv : NatAt w v a) (hla : len32 a ≤ 1000000) (hk : k < 4294967296) :
    Calls Try.prog 150 #[v, .int .u32 (k : Int)] w fun e w' => NatEnd w (a * k) e w' := by
  obtain ⟨A, c, rfl, hc, hr⟩ := hv
  have HR := Lib.hid hr
  obtain ⟨m, em⟩ : ∃ m, m = len32 a := ⟨_, rfl⟩
  have EM := Lib.hid em
  rw [← em] at HR hla hc ⊢
  obtain ⟨N, eN⟩ : ∃ N, N = m + 1 := ⟨_, rfl⟩
  have W0 : IntKind.i64.wrap ((m : Int) + 1) = (N : Int) := by rw [IntWalk.i64_in _ (by omega)]; omega
  have hm := u_make N (by omega)
  rw [arrU_made] at hm
  have EN1 := Lib.hid eN
  have hNb : N ≤ 2000000 := by omega
  have hmN : (m : Int) < (N : Int) := by omega
  clear hr em eN
  go_enter Try.func150, Try.ntmps150
  go_wp2_with fail
  clear hm W0
  have HO0 := OutW.start w N
  obtain ⟨g, eg⟩ : ∃ g, g = w.heap.size := ⟨_, rfl⟩
  rw [← eg] at HO0 ⊢
  clear eg
  go_loopg [6, 7] m (fun kq v6 v7 wr => ∃ (i cy : Nat) (f : Nat → Nat), v6 = .int .u64 (cy : Int) ∧ v7 = .int .i64 (i : Int) ∧ i ≤ m ∧ m ≤ i + kq ∧ cy < 4294967296 ∧ Hid (vt f i + cy * 2 ^ (32 * i) = a % 2 ^ (32 * i) * k) ∧ Aside (OutW w g N f wr))
  case atStart => exact ⟨0, 0, _, rfl, rfl, by omega, by omega, by omega, (show _ = _ by simp [vt, Nat.mod_one]), HO0⟩
  case round =>
    clear HO0
    obtain ⟨i, cy, f, rfl, rfl, hi, hkq, hcy, HI, HO⟩ := hrel
    by_cases hlt : i < m
    · have hltz : (i : Int) < (m : Int) := by omega
      obtain ⟨ad, rfl, hca⟩ := HR.out (by omega)
      have hx := dig_lt a i
      obtain ⟨x, ex⟩ : ∃ x, x = dig a i := ⟨_, rfl⟩
      have c1 := hca i hlt
      have HS1 := Lib.hid (times_step HI.out)
      rw [← ex] at c1 hx HS1
      have c1' : wr.cell? (ad.add i) = some (.int .u32 (x : Int)) := by rw [HO.out.be.cell (World.block_lt_of_cell? _ _ c1), c1]
      have W1 := u_w64 x (by omega)
      have W2 := u_w64 k (by omega)
      obtain ⟨p, ep⟩ : ∃ p, p = x * k := ⟨_, rfl⟩
      have hp : p ≤ 18446744065119617025 := by
        have : x * k ≤ 4294967295 * 4294967295 := Nat.mul_le_mul (by omega) (by omega)
        omega
      rw [← ep] at HS1
      have W3 : IntKind.u64.wrap ((x : Int) * (k : Int)) = (p : Int) := by rw [show (x : Int) * (k : Int) = (p : Int) by rw [ep]; push_cast; rfl, u_w64 p (by omega)]
      obtain ⟨s, es⟩ : ∃ s, s = p + cy := ⟨_, rfl⟩
      rw [← es] at HS1
      have W4 : IntKind.u64.wrap ((p : Int) + (cy : Int)) = (s : Int) := by rw [show (p : Int) + (cy : Int) = (s : Int) by omega, u_w64 s (by omega)]
      obtain ⟨lo, elo⟩ : ∃ lo, lo = s % 4294967296 := ⟨_, rfl⟩
      obtain ⟨hh, ehh⟩ : ∃ hh, hh = s / 4294967296 := ⟨_, rfl⟩
      rw [← elo, ← ehh] at HS1
      have hlo : lo < 4294967296 := by omega
      have hhh : hh < 4294967296 := by omega
      have W5 := u_mask s (by omega)
      rw [← elo] at W5
      have W6 := u_w32 lo hlo
      have W7 : (s : Int) / 4294967296 = (hh : Int) := by omega
      obtain ⟨oc, of'⟩ := HO.out.cell i (by omega)
      have hiN : (i : Int) < (N : Int) := by omega
      clear ex ep es elo ehh hi c1 hca
      go_wp2
      go_roundg (m - (i + 1))
      case measure => omega
      case rel => exact ⟨i + 1, hh, updN f i lo, rfl, by go_num, by omega, by omega, hhh, HS1, HO.out.set i lo hlo⟩
    · have hltz : ¬ (i : Int) < (m : Int) := by omega
      have e : i = m := by omega
      subst e
      have W1 := u_w32 cy hcy
      obtain ⟨oc, of'⟩ := HO.out.cell i (by omega)
      have HE : Hid (vt (updN f i cy) N = a * k) := (show _ = _ by
        rw [EN1.out]
        exact times_end HI.out (by rw [← EM.out]; exact Nat.le_refl _))
      have HO2 := Aside0.mk (HO.out.set i cy hcy)
      go_wp2_with (go_at_call 153; refine (HO2.out.trim (by omega) HE.out).mono ?_; rintro e1 w1 ⟨z, rfl, hz, hb⟩; have HZ := Lib.hid hz; have HB := Lib.hid hb; clear hz hb)
      go_ret
      exact ⟨z, rfl, HZ.out, HB.out⟩

theorem ret_pairB {v : Value} {a b : Bool} (h : a = b) : Ending.returned (.tuple #[v, .bool a]) = .returned (.tuple #[v, .bool b]) := by rw [h]
def DownEnd (w : World) (a n : Nat) (e : Ending) (w' : World) : Prop := ∃ v, e = .returned (.tuple #[v, .bool (decide (a % 2 ^ n ≠ 0))]) ∧ NatAt w' v (a / 2 ^ n) ∧ Below w.heap.size w w'

set_option maxHeartbeats 6400000 in
set_option maxRecDepth 100000 in
theorem down_calls (w : World) (v : Value) (a n : Nat) (hv : NatAt w v a) (hla : len32 a ≤ 1000000) (hn : n ≤ 1000000) :
    Calls Try.prog 139 #[v, .int .i64 (n : Int)] w fun e w' => DownEnd w a n e w' := by
  have HV := Lib.hid hv
  obtain ⟨A, c, rfl, hc, hr⟩ := hv
  have HBIT : Hid (∀ i : Nat, i ≤ 1000000000 → Calls Try.prog 138 #[.slice A (len32 a) c, .int .i64 (i : Int)] w fun e w' => e = .returned (.int .i64 ((a / 2 ^ i % 2 : Nat) : Int)) ∧ w = w') := fun i hi => bit_calls w _ a i HV.out hla hi
  have HR := Lib.hid hr
  obtain ⟨m, em⟩ : ∃ m, m = len32 a := ⟨_, rfl⟩
  have EM := Lib.hid em
  rw [← em] at HR hla hc HBIT ⊢
  clear hr em HV
  go_enter Try.func139, Try.ntmps139
  go_wp2_with fail
  go_loopg [6, 7] n (fun kq v6 v7 wr => ∃ (i : Nat) (rb : Bool), v6 = .bool rb ∧ v7 = .int .i64 (i : Int) ∧ i ≤ n ∧ i ≤ 32 * m ∧ n ≤ i + kq ∧ Hid (rb = decide (a % 2 ^ i ≠ 0)) ∧ wr = w)
  case atStart => exact ⟨0, false, rfl, rfl, by omega, by omega, by omega, (show _ = _ by simp [Nat.mod_one]), rfl⟩
  case round =>
    obtain ⟨i, rb, rfl, rfl, hi, him, hk, HRB, rfl⟩ := hrel
    by_cases hin : i < n ∧ i < 32 * m
    · obtain ⟨h1, h2⟩ := hin
      have h1z : (i : Int) < (n : Int) := by omega
      have h2z : (i : Int) < 32 * (m : Int) := by omega
      cases rb with
      | true =>
        have H2 : Hid (true = decide (a % 2 ^ (i + 1) ≠ 0)) := (show _ = _ by rw [rest_step, ← HRB.out]; rfl)
        go_wp2
        go_roundg (n - (i + 1))
        case measure => omega
        case rel => exact ⟨i + 1, true, rfl, by go_num, by omega, by omega, by omega, H2, rfl⟩
      | false =>
        obtain ⟨z, ez⟩ : ∃ z, z = a / 2 ^ i % 2 := ⟨_, rfl⟩
        have HB := HBIT.out i (by omega)
        rw [← ez] at HB
        have HB2 := Lib.hid HB
        obtain ⟨zb, hzb⟩ : ∃ zb : Bool, zb = decide (z = 1) := ⟨_, rfl⟩
        have HZB : ((z : Int) == 1) = zb := by rw [hzb]; by_cases h : z = 1 <;> simp [h]; omega
        have H2 : Hid (zb = decide (a % 2 ^ (i + 1) ≠ 0)) := (show _ = _ by rw [rest_step, ← HRB.out, ← ez, hzb]; rfl)
        clear HB ez hzb
        go_wp2_with (go_at_call 138; refine HB2.out.mono ?_; rintro e1 w1 ⟨rfl, rfl⟩)
        go_roundg (n - (i + 1))
        case measure => omega
        case rel => exact ⟨i + 1, zb, by first | rfl | (rw [← HZB]; rfl) | (simp [HZB]), by go_num, by omega, by omega, by omega, H2, rfl⟩
    · have hex : (i = 32 * m ∧ 32 * m ≤ n) ∨ (i = n ∧ n < 32 * m) := by omega
      clear hin HBIT
      rcases hex with ⟨e1, e2⟩ | ⟨e1, e2⟩
      · have E : Hid (a / 2 ^ n = 0 ∧ rb = decide (a % 2 ^ n ≠ 0)) := (show _ ∧ _ by
          have h := (lt_len32 a m).1 (by have := EM.out; omega)
          have h' : a < 2 ^ n := Nat.lt_of_lt_of_le h (Nat.pow_le_pow_right (by decide) e2)
          refine ⟨Nat.div_eq_of_lt h', ?_⟩
          rw [HRB.out, e1, Nat.mod_eq_of_lt h, Nat.mod_eq_of_lt h'])
        have h2z : ¬ (i : Int) < 32 * (m : Int) := by omega
        have h3z : 32 * (m : Int) ≤ (n : Int) := by omega
        by_cases h1 : (i : Int) < (n : Int)
        all_goals
          clear e1 e2
          go_wp2
          go_ret2
          exact ⟨_, ret_pairB E.out.2, by rw [E.out.1]; exact NatAt.zero _ _ _, Below.refl _ _⟩
      · subst e1
        have h1z : ¬ (i : Int) < (i : Int) := by omega
        have h3z : ¬ 32 * (m : Int) ≤ (i : Int) := by omega
        obtain ⟨ad, rfl, hca⟩ := HR.out (by omega)
        have HCA := Lib.hid hca
        obtain ⟨q, eq⟩ : ∃ q, q = i / 32 := ⟨_, rfl⟩
        obtain ⟨r, er⟩ : ∃ r, r = i % 32 := ⟨_, rfl⟩
        have hr : r < 32 := by omega
        have EQ := Lib.hid eq
        have ER := Lib.hid er
        have q1 : (i : Int) / 32 = (q : Int) := by omega
        have r1 : (i : Int) % 32 = (r : Int) := by omega
        have hqm : q < m := by omega
        obtain ⟨N, eN⟩ : ∃ N, N = m - q := ⟨_, rfl⟩
        have W0 : IntKind.i64.wrap ((m : Int) - (q : Int)) = (N : Int) := by rw [IntWalk.i64_in _ (by omega)]; omega
        have hm := u_make N (by omega)
        rw [arrU_made] at hm
        have EN1 := Lib.hid eN
        have hNb : N ≤ 1000000 := by omega
        clear hca eq er eN e2 hi him hk
        go_wp2_with fail
        clear hm W0
        obtain ⟨wo, rfl⟩ : ∃ wo : World, wo = wr := ⟨_, rfl⟩
        have HO0 := OutW.start wo N
        obtain ⟨g, eg⟩ : ∃ g, g = wo.heap.size := ⟨_, rfl⟩
        rw [← eg] at HO0 ⊢
        clear eg
        go_loopg [9] N (fun kq v9 wr => ∃ (j : Nat) (f : Nat → Nat), v9 = .int .i64 (j : Int) ∧ j ≤ N ∧ N ≤ j + kq ∧ Hid (∀ k, k < j → f k = dig (a / 2 ^ i) k) ∧ Aside (OutW wo g N f wr))
        case atStart => exact ⟨0, _, rfl, by omega, by omega, fun k hk => by omega, HO0⟩
        case round =>
          clear HO0
          obtain ⟨j, f, rfl, hj, hjk, HF, HO⟩ := hrel
          by_cases hlt : j < N
          · have hltz : (j : Int) < (N : Int) := by omega
            have hdd := down_dig a i j
            rw [← EQ.out, ← ER.out] at hdd
            obtain ⟨jq, ejq⟩ : ∃ k, k = j + q := ⟨_, rfl⟩
            obtain ⟨jq1, ejq1⟩ : ∃ k, k = jq + 1 := ⟨_, rfl⟩
            rw [← ejq, ← ejq1] at hdd
            have hjm : jq < m := by have := EN1.out; omega
            obtain ⟨t, et⟩ : ∃ t, t = dig a jq := ⟨_, rfl⟩
            obtain ⟨s, es⟩ : ∃ s, s = dig a jq1 := ⟨_, rfl⟩
            rw [← et, ← es] at hdd
            have ht := dig_lt a jq
            have hs := dig_lt a jq1
            rw [← et] at ht
            rw [← es] at hs
            obtain ⟨y, ey⟩ : ∃ y, y = t + 4294967296 * s := ⟨_, rfl⟩
            rw [← ey] at hdd
            obtain ⟨o6, eo6⟩ : ∃ o, o = y / 2 ^ r := ⟨_, rfl⟩
            obtain ⟨o, eo⟩ : ∃ o, o = o6 % 4294967296 := ⟨_, rfl⟩
            rw [← eo6, ← eo] at hdd
            have hy : y < 18446744073709551616 := by omega
            have ho6 : o6 < 18446744073709551616 := by rw [eo6]; exact Nat.lt_of_le_of_lt (Nat.div_le_self _ _) hy
            have ho : o < 4294967296 := by omega
            have W1 := u_w64 t (by omega)
            have W2 := u_w64 s (by omega)
            obtain ⟨ys, eys⟩ : ∃ z, z = s * 4294967296 := ⟨_, rfl⟩
            have W3 : IntKind.u64.wrap ((s : Int) * 4294967296) = (ys : Int) := by rw [show (s : Int) * 4294967296 = (ys : Int) by omega, u_w64 _ (by omega)]
            have W4 := u_or64 t s ht hs
            rw [← eys, show t + ys = y by omega] at W4
            have W5 : (y : Int) / 2 ^ r = (o6 : Int) := by rw [eo6]; push_cast; rfl
            have W6 := u_mask o6 ho6
            rw [← eo] at W6
            have W7 := u_w32 o ho
            have W8 : IntKind.i64.wrap ((j : Int) + (q : Int)) = (jq : Int) := by rw [IntWalk.i64_in _ (by omega)]; omega
            have W9 : IntKind.i64.wrap ((jq : Int) + 1) = (jq1 : Int) := by rw [IntWalk.i64_in _ (by omega)]; omega
            have hjz : (jq : Int) < (m : Int) := by omega
            obtain ⟨oc, of'⟩ := HO.out.cell j hlt
            have c1 := HCA.out jq hjm
            rw [← et] at c1
            have c1' : wr.cell? (ad.add jq) = some (.int .u32 (t : Int)) := by rw [HO.out.be.cell (World.block_lt_of_cell? _ _ c1), c1]
            have HDD := Lib.hid hdd
            have HO' := Lib.hid ho
            by_cases hs1 : jq1 < m
            · have hs1z : (jq1 : Int) < (m : Int) := by omega
              have c2 := HCA.out jq1 hs1
              rw [← es] at c2
              have c2' : wr.cell? (ad.add jq1) = some (.int .u32 (s : Int)) := by rw [HO.out.be.cell (World.block_lt_of_cell? _ _ c2), c2]
              clear ejq ejq1 et es ey eo6 eo eys hdd c1 c2 hj
              go_wp2
              go_roundg (N - (j + 1))
              case measure => omega
              case rel =>
                refine ⟨j + 1, updN f j o, by go_num, by omega, by omega, fun k hk => ?_, HO.out.set j o HO'.out⟩
                by_cases e : k = j
                · rw [e, updN_same, HDD.out]
                · rw [updN_other _ _ e]; exact HF.out k (by omega)
            · have hs1z : ¬ (jq1 : Int) < (m : Int) := by omega
              have hs0 : s = 0 := by rw [es]; exact dig_high (by rw [← EM.out]; omega)
              have hyt : y = t := by omega
              subst hyt
              clear ejq ejq1 et es ey eo6 eo eys hdd c1 hj hs0 W3 W4 W2
              go_wp2
              go_roundg (N - (j + 1))
              case measure => omega
              case rel =>
                refine ⟨j + 1, updN f j o, by go_num, by omega, by omega, fun k hk => ?_, HO.out.set j o HO'.out⟩
                by_cases e : k = j
                · rw [e, updN_same, HDD.out]
                · rw [updN_other _ _ e]; exact HF.out k (by omega)
          · have hltz : ¬ (j : Int) < (N : Int) := by omega
            have e : j = N := by omega
            subst e
            have HE : Hid (vt f j = a / 2 ^ i) := (show _ = _ by
              rw [vt_congr j HF.out, vt_all]
              rw [EN1.out, EM.out, EQ.out]
              exact len_down a i (by have := EM.out; have := EQ.out; omega))
            go_wp2_with (go_at_call 153; refine (HO.out.trim (by omega) HE.out).mono ?_; rintro e1 w1 ⟨z, rfl, hz, hb⟩; have HZ := Lib.hid hz; have HB := Lib.hid hb; clear hz hb)
            go_ret2
            exact ⟨_, ret_pairB HRB.out, HZ.out, HB.out⟩
end Go.Proofs.Ytdcpeeolfgohmaa
