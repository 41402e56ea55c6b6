/- math/bits.Len32; exact.top, bit, below. -/
import Derived.Test.YtmeifciagepmpaaExA
import Derived.Lib.Strings
import Derived.Lib.Slices
import Derived.Lib.Small
import Derived.Lib.Walk
import Derived.Lib.BitFns
namespace Go.Proofs.Ytmeifciagepmpaa
open Go.RowKit Go.Proofs.YtmeifciagepmpaaW.PrintWords
set_option linter.unusedSimpArgs false
set_option linter.unusedVariables false

set_option maxRecDepth 100000 in
theorem len8tab_size : (Lib.len8tab.size : Int) = 256 := by
  have : Lib.len8tab.size = 256 := by decide
  omega
theorem wrap_add (k a b : Nat) (hk : k ≤ 56) (ha : a ≤ 8) (hb : b = k + a) : RowKit.wrap64 ((k : Int) + RowKit.wrap64 (a : Int)) = (b : Int) := by
  unfold RowKit.wrap64
  omega
theorem wrap_wrap (a : Nat) (ha : a ≤ 8) : RowKit.wrap64 (RowKit.wrap64 (a : Int)) = (a : Int) := by
  unfold RowKit.wrap64
  omega
theorem wrap_one (a : Nat) (ha : a ≤ 8) : RowKit.wrap64 (a : Int) = (a : Int) := by
  unfold RowKit.wrap64
  omega
theorem len8_get (y : Int) (h : y.toNat < Lib.len8tab.size) : ((Lib.len8tab[y.toNat]'h).toNat : Int) = Lib.len8 y := by
  unfold Lib.len8
  rw [getElem?_pos Lib.len8tab y.toNat h]
  rfl

set_option maxHeartbeats 4000000 in
set_option maxRecDepth 100000 in
theorem len32_walk (x : Int) (w : World) (h0 : 0 ≤ x) (h1 : x ≤ 4294967295) :
    Calls Try.prog 108 #[.int .u32 x] w fun e w' => e = .returned (.int .i64 (Lib.bitLen x.toNat)) ∧ w' = w := by
  go_enter Try.func108, Try.ntmps108
  go_wp2
  all_goals first
    | (go_ret; refine ⟨congrArg Ending.returned (congrArg (Value.int IntKind.i64) ?_), rfl⟩)
    | (exfalso
       skip
       have hs := len8tab_size
       omega)
  all_goals first
    | (rw [len8_get (x / 65536 / 256) _, Lib.len8_of (x / 65536 / 256) (by omega) (by omega)]
       have e : (x / 65536 / 256).toNat = x.toNat / 16777216 := by omega
       have l := Lib.bitLen_le8' (x / 65536 / 256) (by omega) (by omega)
       have s := Lib.bitLen_shift24 x.toNat (by omega) (by omega)
       rw [e] at l ⊢
       exact wrap_add 24 _ _ (by decide) l s)
    | (rw [len8_get (x / 65536) _, Lib.len8_of (x / 65536) (by omega) (by omega)]
       have e : (x / 65536).toNat = x.toNat / 65536 := by omega
       have l := Lib.bitLen_le8' (x / 65536) (by omega) (by omega)
       have s := Lib.bitLen_shift16 x.toNat (by omega) (by omega)
       rw [e] at l ⊢
       exact wrap_add 16 _ _ (by decide) l s)
    | (rw [len8_get (x / 256) _, Lib.len8_of (x / 256) (by omega) (by omega)]
       have e : (x / 256).toNat = x.toNat / 256 := by omega
       have l := Lib.bitLen_le8' (x / 256) (by omega) (by omega)
       have s := Lib.bitLen_shift8 x.toNat (by omega) (by omega)
       rw [e] at l ⊢
       exact wrap_add 8 _ _ (by decide) l s)
    | (rw [len8_get (x) _, Lib.len8_of (x) (by omega) (by omega)]
       have l := Lib.bitLen_le8' (x) (by omega) (by omega)
       first | exact wrap_wrap _ l | exact wrap_add 0 _ _ (by decide) l (by omega) | exact wrap_one _ l)
theorem bitLen_eq (x : Nat) (hx : x < 18446744073709551616) : Lib.bitLen x = bitlen x := by
  by_cases h : x = 0
  · subst h; rfl
  · unfold bitlen
    rw [if_neg h]
    have h1 : 2 ^ x.log2 ≤ x := Nat.log2_self_le h
    have h2 : x < 2 ^ (x.log2 + 1) := Nat.lt_log2_self
    rw [Lib.bitLen_shift x.log2 x h1 hx]
    have : x / 2 ^ x.log2 = 1 := by
      rw [Nat.div_eq_iff (Nat.two_pow_pos _)]
      rw [Nat.pow_succ] at h2
      omega
    rw [this]
    rfl
theorem len32_calls (a : Nat) (ha : a < 4294967296) (w : World) : Calls Try.prog 108 #[.int .u32 (a : Int)] w fun e w' => e = .returned (.int .i64 ((bitlen a : Nat) : Int)) ∧ w = w' :=
  (len32_walk (a : Int) w (by omega) (by omega)).mono fun e w' ⟨h1, h2⟩ => ⟨by rw [h1, Int.toNat_natCast, bitLen_eq a (by omega)], h2.symm⟩
theorem bitlen_top {Q i y : Nat} (hy : y ≠ 0) (h : Q / 2 ^ (32 * i) = y) : bitlen Q = 32 * i + bitlen y := by
  obtain ⟨b1, b2, b3⟩ := bitlen_spec hy
  have hp := p32_pos i
  have e := Nat.div_add_mod Q (2 ^ (32 * i))
  have hm := Nat.mod_lt Q hp
  rw [h] at e
  rw [show 32 * i + bitlen y = 32 * i + (bitlen y - 1) + 1 by omega]
  refine bitlen_of ?_ ?_
  · rw [Nat.pow_add]
    have := Nat.mul_le_mul_left (2 ^ (32 * i)) b1
    omega
  · rw [show 32 * i + (bitlen y - 1) + 1 = 32 * i + bitlen y by omega, Nat.pow_add]
    have := Nat.mul_le_mul_left (2 ^ (32 * i)) (show y + 1 ≤ 2 ^ bitlen y from b2)
    rw [Nat.mul_add] at this
    omega
theorem div_zero_dig {Q q : Nat} (h : Q / 2 ^ (32 * (q + 1)) = 0) : Q / 2 ^ (32 * q) = dig Q q := by
  rw [p32, ← Nat.div_div_eq_div_mul] at h
  unfold dig
  omega

set_option maxHeartbeats 1600000 in
set_option maxRecDepth 100000 in
theorem xtop_calls (w : World) (A : Option Addr) (n c Q : Nat) (hr : RowU w A n (dig Q)) (hc : n ≤ c) (hn : n ≤ 1000000) (hQ : len32 Q ≤ n) :
    Calls Try.prog 104 #[.slice A n c] w fun e w' => e = .returned (.int .i64 ((bitlen Q : Int) - 1)) ∧ Drawn0 w w' := by
  have HR := Lib.hid hr
  have HZ : Hid (Q / 2 ^ (32 * n) = 0) := (show _ = _ from Nat.div_eq_of_lt ((lt_len32 Q n).1 hQ))
  clear hr hQ
  have W0 : IntKind.i64.wrap ((n : Int) - 1) = (n : Int) - 1 := IntWalk.i64_in _ (by omega)
  go_enter Try.func104, Try.ntmps104
  go_wp2
  clear W0
  go_loopg [3] n (fun kq v3 wr => ∃ j : Nat, v3 = .int .i64 ((j : Int) - 1) ∧ j ≤ n ∧ j ≤ kq ∧ Hid (Q / 2 ^ (32 * j) = 0) ∧ wr = w)
  case atStart => exact ⟨n, rfl, by omega, by omega, HZ, rfl⟩
  case round =>
    obtain ⟨j, rfl, hj, hjk, HQ, rfl⟩ := hrel
    rcases Nat.eq_zero_or_pos j with h0 | h0
    · subst h0
      have E : Hid ((bitlen Q : Int) - 1 = -1) := (show _ = _ by
        have := HQ.out
        have : Q = 0 := by simpa using this
        rw [this]; rfl)
      have hneg : ¬ (0 : Int) ≤ ((0 : Nat) : Int) - 1 := by omega
      go_wp2
      go_ret
      exact ⟨ret_int E.out.symm, Drawn0.refl _⟩
    · obtain ⟨q, rfl⟩ : ∃ q, j = q + 1 := ⟨j - 1, by omega⟩
      have hq2 : ((q + 1 : Nat) : Int) - 1 = (q : Int) := by omega
      rw [hq2]
      have hqN : (q : Int) < (n : Int) := by omega
      have hq0 : (0 : Int) ≤ (q : Int) := by omega
      have hdz := div_zero_dig HQ.out
      obtain ⟨ad, rfl, hca⟩ := HR.out (by omega)
      have c1 := hca q (by omega)
      obtain ⟨y, ey⟩ : ∃ y, y = dig Q q := ⟨_, rfl⟩
      have hy : y < 4294967296 := by rw [ey]; exact dig_lt _ _
      rw [← ey] at c1 hdz
      by_cases hyz : y = 0
      · have HQ2 : Hid (Q / 2 ^ (32 * q) = 0) := (show _ = _ by rw [hdz, hyz])
        have hb : ((y : Int) != 0) = false := by rw [hyz]; rfl
        clear hca ey hq2 hdz hyz
        go_wp2
        go_roundg q
        case measure => omega
        case rel => exact ⟨q, by go_num, by omega, by omega, HQ2, rfl⟩
      · have hb : ((y : Int) != 0) = true := by rw [bne_iff_ne]; omega
        have hbt := bitlen_top hyz hdz
        have HL := Lib.hid fun W => len32_calls y hy W
        obtain ⟨l, el⟩ : ∃ l, l = bitlen y := ⟨_, rfl⟩
        have hl : l ≤ 32 := by rw [el]; exact (bitlen_lt y 32).2 hy
        rw [← el] at HL hbt
        have E : Hid ((bitlen Q : Int) - 1 = 32 * (q : Int) + (l : Int) - 1) := (show _ = _ by omega)
        have W1 : IntKind.i64.wrap (32 * (q : Int)) = 32 * (q : Int) := IntWalk.i64_in _ (by omega)
        have W2 : IntKind.i64.wrap (32 * (q : Int) + (l : Int)) = 32 * (q : Int) + (l : Int) := IntWalk.i64_in _ (by omega)
        have W3 : IntKind.i64.wrap (32 * (q : Int) + (l : Int) - 1) = 32 * (q : Int) + (l : Int) - 1 := IntWalk.i64_in _ (by omega)
        clear hca ey hq2 hdz hyz hbt el
        go_wp2_with (go_at_call 108; (with_reducible refine (HL.out _).mono ?_); rintro e1 w1 ⟨rfl, rfl⟩)
        go_ret
        exact ⟨ret_int E.out.symm, Drawn0.refl _⟩

set_option maxHeartbeats 1600000 in
set_option maxRecDepth 100000 in
theorem xbit_calls (w : World) (A : Option Addr) (n c Q i : Nat) (hr : RowU w A n (dig Q)) (hc : n ≤ c) (hn : n ≤ 1000000) (hQ : len32 Q ≤ n) (hi : i ≤ 1000000000) :
    Calls Try.prog 105 #[.slice A n c, .int .i64 (i : Int)] w fun e w' => e = .returned (.int .u32 ((Q / 2 ^ i % 2 : Nat) : Int)) ∧ w = w' := by
  have HR := Lib.hid hr
  clear hr
  have d0 : decide ((i : Int) < 0) = false := decide_eq_false (by omega)
  obtain ⟨res, eres⟩ : ∃ r, r = Q / 2 ^ i % 2 := ⟨_, rfl⟩
  rw [← eres]
  by_cases hb : i / 32 < n
  · obtain ⟨ad, rfl, hcell⟩ := HR.out (by omega)
    obtain ⟨q, eq⟩ : ∃ q, q = i / 32 := ⟨_, rfl⟩
    obtain ⟨r, er⟩ : ∃ r, r = i % 32 := ⟨_, rfl⟩
    obtain ⟨y, ey⟩ : ∃ y, y = dig Q q := ⟨_, rfl⟩
    have c1 := hcell q (by omega)
    rw [← ey] at c1
    have hy : y < 4294967296 := by rw [ey]; exact dig_lt _ _
    have E : Hid (res = y / 2 ^ r % 2) := (show _ = _ by rw [eres, bit_dig, ey, er, eq])
    have q1 : (i : Int) / 32 = (q : Int) := by omega
    have r1 : (i : Int) % 32 = (r : Int) := by omega
    have r2 : r < 32 := by omega
    have q2 : (q : Int) < (n : Int) := by omega
    have q3 : ¬ (n : Int) ≤ (q : Int) := by omega
    obtain ⟨z, ez⟩ : ∃ z, z = y / 2 ^ r % 2 := ⟨_, rfl⟩
    have hz : z ≤ 1 := by omega
    have B1 : bits .and .u32 ((y : Int) / 2 ^ r) 1 = (z : Int) := by
      have h := u_and1 (y / 2 ^ r) (Nat.lt_of_le_of_lt (Nat.div_le_self _ _) hy)
      rw [← ez] at h
      rw [← h]; norm_cast
    rw [← ez] at E
    clear hcell ey eq er ez eres
    go_enter Try.func105, Try.ntmps105
    go_wp2_with fail
    go_ret
    exact ⟨ret_int (by rw [E.out]), rfl⟩
  · have E : Hid (res = 0) := (show _ = _ by rw [eres, bit_dig, dig_high (by omega)]; simp)
    obtain ⟨q, eq⟩ : ∃ q, q = i / 32 := ⟨_, rfl⟩
    have q1 : (i : Int) / 32 = (q : Int) := by omega
    have hq : (n : Int) ≤ (q : Int) := by omega
    have hd : decide ((n : Int) ≤ (q : Int)) = true := decide_eq_true hq
    have hd2 : decide (n ≤ q) = true := decide_eq_true (by omega)
    clear eq hb eres
    go_enter Try.func105, Try.ntmps105
    go_wp2_with fail
    go_ret
    exact ⟨ret_int (by rw [E.out]; rfl), rfl⟩
end Go.Proofs.Ytmeifciagepmpaa
