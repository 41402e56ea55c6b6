/- halideref2's whole numbers: trimmed, NatOf, Bit, Low, Bits. -/
import Derived.Test.YtmeifciagepmpaaU
namespace Go.Proofs.Ytmeifciagepmpaa
open Go.RowKit Go.Proofs.YtmeifciagepmpaaW.PrintWords
set_option linter.unusedSimpArgs false
set_option linter.unusedVariables false

set_option maxHeartbeats 1600000 in
set_option maxRecDepth 100000 in
theorem trimmed_calls (w : World) (A : Option Addr) (m c n : Nat) (x : Nat → Nat) (hr : RowU w A m x) (hm : m ≤ c) (hc : c ≤ 4611686018427387904) (hx : ∀ k, k < m → x k < 4294967296) (hv : vt x m = n) :
    Calls Try.prog 75 #[.slice A m c] w fun e w' => (∃ v, e = .returned v ∧ NatAt w v n) ∧ w = w' := by
  have HR := Lib.hid hr
  have HX := Lib.hid hx
  have HV := Lib.hid hv
  clear hr hx hv
  go_enter Try.func75, Try.ntmps75
  go_wp2_with fail
  go_loopg [3] m (fun kq v3 wr => ∃ k : Nat, v3 = .int .i64 k ∧ k ≤ m ∧ k ≤ kq ∧ Hid (vt x k = n) ∧ wr = w)
  case atStart => exact ⟨m, rfl, by omega, by omega, HV, rfl⟩
  case round =>
    obtain ⟨k, rfl, hk, hkq, HK, rfl⟩ := hrel
    have hle : (k : Int) ≤ (c : Int) := by omega
    rcases Nat.eq_zero_or_pos k with h0 | h0
    · subst h0
      have E : Hid (n = 0) := (show _ = _ from HK.out.symm)
      go_wp2
      go_ret
      exact ⟨⟨_, rfl, by rw [E.out]; exact NatAt.zero _ _ _⟩, rfl⟩
    · obtain ⟨q, rfl⟩ : ∃ q, k = q + 1 := ⟨k - 1, by omega⟩
      obtain ⟨ad, rfl, hcell⟩ := HR.out (by omega)
      obtain ⟨y, ey⟩ : ∃ y, y = x q := ⟨_, rfl⟩
      have c1 := hcell q (by omega)
      rw [← ey] at c1
      have EY := Lib.hid ey
      have HC := Lib.hid hcell
      clear ey hcell
      have hq1 : (0 : Int) < (q : Int) + 1 := by omega
      have hq2 : ((q + 1 : Nat) : Int) - 1 = (q : Int) := by omega
      have W1 : IntKind.i64.wrap ((q : Int) + 1 - 1) = (q : Int) := by rw [IntWalk.i64_in _ (by omega)]; omega
      have W2 : IntKind.i64.wrap (((q + 1 : Nat) : Int) - 1) = (q : Int) := by rw [IntWalk.i64_in _ (by omega)]; omega
      have hqm : (q : Int) < (m : Int) := by omega
      by_cases hy : y = 0
      · have hb : (((y : Nat) : Int) == 0) = true := by rw [hy]; rfl
        have HY := Lib.hid hy
        clear hy
        go_wp2
        go_roundg q
        case measure => omega
        case rel => exact ⟨q, by first | rfl | go_num, by omega, by omega, (show _ = _ by have := HK.out; rw [vt, ← EY.out, HY.out] at this; omega), rfl⟩
      · have hb : (((y : Nat) : Int) == 0) = false := by rw [beq_eq_false_iff_ne]; omega
        have HY := Lib.hid hy
        clear hy
        go_wp2
        go_ret
        have hcn := canon (x := x) (m := q + 1) (n := n) (fun k h => HX.out k (by omega)) HK.out (.inr (by rw [show q + 1 - 1 = q by omega, ← EY.out]; exact HY.out))
        refine ⟨⟨_, rfl, some ad, c, ?_, by omega, fun _ => ⟨ad, rfl, fun i hi => ?_⟩⟩, rfl⟩
        · rw [← hcn.1]; first | rfl | simp
        · rw [HC.out i (by omega), hcn.2 i (by omega)]

theorem u_mask (n : Nat) (h : n < 18446744073709551616) : bits .and .u64 (n : Int) 4294967295 = ((n % 4294967296 : Nat) : Int) := by
  rw [Go.Proofs.Mul64.maskN n (by omega)]
theorem u_w32 (n : Nat) (h : n < 4294967296) : IntKind.u32.wrap (n : Int) = (n : Int) := by
  unfold IntKind.wrap; simp [IntKind.min, IntKind.max, IntKind.bits, IntKind.signed]; omega
theorem u_w64 (n : Nat) (h : n < 18446744073709551616) : IntKind.u64.wrap (n : Int) = (n : Int) := Go.Proofs.Mul64.wrapN n (by omega)

theorem two_digits (n : Nat) (h : n < 18446744073709551616) : vt (fun k => if k = 0 then n % 4294967296 else n / 4294967296) 2 = n := by
  simp [vt]; omega

set_option maxHeartbeats 1600000 in
set_option maxRecDepth 100000 in
theorem natOf_calls (n : Nat) (w : World) (h : n < 18446744073709551616) :
    Calls Try.prog 72 #[.int .u64 (n : Int)] w fun e w' => NatEnd w n e w' := by
  have b1 := u_mask n h
  obtain ⟨p, ep⟩ : ∃ p, p = n % 4294967296 := ⟨_, rfl⟩
  obtain ⟨q, eq⟩ : ∃ q, q = n / 4294967296 := ⟨_, rfl⟩
  have hp : p < 4294967296 := by omega
  have hq : q < 4294967296 := by omega
  rw [← ep] at b1
  have d1 : (n : Int) / 4294967296 = (q : Int) := by omega
  have w1 := u_w32 p hp
  have w2 := u_w32 q hq
  have T := two_digits n h
  rw [← ep, ← eq] at T
  have HT : Hid (∀ W : World, Calls Try.prog 75 #[.slice (some ⟨W.heap.size, 0, none⟩) 2 2] (W.alloc (.cells #[.int .u32 (p : Int), .int .u32 (q : Int)] 25)) fun e w' => (∃ v, e = .returned v ∧ NatAt (W.alloc (.cells #[.int .u32 (p : Int), .int .u32 (q : Int)] 25)) v n) ∧ (W.alloc (.cells #[.int .u32 (p : Int), .int .u32 (q : Int)] 25)) = w') := fun W =>
    trimmed_calls _ _ 2 2 n (fun k => if k = 0 then p else q) (fun _ => ⟨_, rfl, fun i hi => by
      rcases (show i = 0 ∨ i = 1 by omega) with rfl | rfl <;> simp [add_plain]⟩) (by omega) (by omega) (fun k hk => by split <;> omega) T
  clear ep eq T h hp hq
  go_enter Try.func72, Try.ntmps72
  go_wp2_with (go_at_call 75; refine (HT.out _).mono ?_; rintro e1 w1 ⟨⟨v, rfl, hn⟩, rfl⟩; have HN := Lib.hid hn; clear hn)
  go_ret
  exact ⟨v, rfl, HN.out, (Below.refl _ _).alloc (Nat.le_refl _) _⟩

theorem u_bits (a b : Nat) (ha : a < 4294967296) (hb : b < 4294967296) : bits .and .u32 (a : Int) (b : Int) = ((a &&& b : Nat) : Int) ∧ bits .or .u32 (a : Int) (b : Int) = ((a ||| b : Nat) : Int) := by
  have h := bits_nat .u32 32 (by decide) (fun n h0 h1 => by rw [IntKind.wrap_u32]; omega) a b ha hb
  exact ⟨h.1, h.2⟩
theorem u_and1 (a : Nat) (ha : a < 4294967296) : bits .and .u32 (a : Int) 1 = ((a % 2 : Nat) : Int) := by
  have h := (u_bits a 1 ha (by decide)).1
  rw [Nat.and_one_is_mod] at h
  exact h
theorem ret_nat {k : IntKind} {a : Int} {b : Nat} (h : a = (b : Int)) : Ending.returned (.int k a) = .returned (.int k (b : Int)) := by rw [h]

set_option maxHeartbeats 1600000 in
set_option maxRecDepth 100000 in
theorem bit_calls (w : World) (v : Value) (n i : Nat) (hv : NatAt w v n) (hl : len32 n ≤ 1000000) (hi : i ≤ 1000000000) :
    Calls Try.prog 79 #[v, .int .i64 (i : Int)] w fun e w' => e = .returned (.int .i64 ((n / 2 ^ i % 2 : Nat) : Int)) ∧ w = w' := by
  obtain ⟨A, c, rfl, hc, hr⟩ := hv
  obtain ⟨m, em⟩ : ∃ m, m = len32 n := ⟨_, rfl⟩
  have EM := Lib.hid em
  rw [← em] at hr hl hc ⊢
  have HR := Lib.hid hr
  clear hr em
  have d0 : decide ((i : Int) < 0) = false := decide_eq_false (by omega)
  by_cases hb : i / 32 < m
  · obtain ⟨ad, rfl, hcell⟩ := HR.out (by omega)
    obtain ⟨q, eq⟩ : ∃ q, q = i / 32 := ⟨_, rfl⟩
    obtain ⟨r, er⟩ : ∃ r, r = i % 32 := ⟨_, rfl⟩
    obtain ⟨y, ey⟩ : ∃ y, y = dig n q := ⟨_, rfl⟩
    have c1 := hcell q (by omega)
    rw [← ey] at c1
    have hy : y < 4294967296 := by rw [ey]; exact dig_lt _ _
    have E : Hid (n / 2 ^ i % 2 = y / 2 ^ r % 2) := (show _ = _ by rw [bit_dig, ey, er, eq])
    have q1 : (i : Int) / 32 = (q : Int) := by omega
    have r1 : (i : Int) % 32 = (r : Int) := by omega
    have r2 : r < 32 := by omega
    have q2 : (q : Int) < (m : Int) := by omega
    obtain ⟨z, ez⟩ : ∃ z, z = y / 2 ^ r % 2 := ⟨_, rfl⟩
    have hz : z ≤ 1 := by omega
    have B1 : bits .and .u32 ((y : Int) / 2 ^ r) 1 = (z : Int) := by
      have h := u_and1 (y / 2 ^ r) (Nat.lt_of_le_of_lt (Nat.div_le_self _ _) hy)
      rw [← ez] at h
      rw [← h]; norm_cast
    have Z1 : wrap64 (z : Int) = (z : Int) := by unfold wrap64; omega
    rw [← ez] at E
    clear hcell ey eq er ez
    go_enter Try.func79, Try.ntmps79
    go_wp2_with fail
    go_ret
    refine ⟨?_, rfl⟩
    rw [E.out]; exact ret_nat (by first | rfl | simp [Z1])
  · have E : Hid (n / 2 ^ i % 2 = 0) := (show _ = _ by rw [bit_dig, dig_high (by rw [← EM.out]; omega)]; simp)
    obtain ⟨q, eq⟩ : ∃ q, q = i / 32 := ⟨_, rfl⟩
    have q1 : (i : Int) / 32 = (q : Int) := by omega
    have hq : (m : Int) ≤ (q : Int) := by omega
    have hd : decide ((m : Int) ≤ (q : Int)) = true := decide_eq_true hq
    have hd2 : decide (m ≤ q) = true := decide_eq_true (by omega)
    clear eq hb
    go_enter Try.func79, Try.ntmps79
    go_wp2_with fail
    go_ret
    refine ⟨?_, rfl⟩
    rw [E.out]; exact ret_nat rfl
end Go.Proofs.Ytmeifciagepmpaa
