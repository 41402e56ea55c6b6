/- math/bits.Div64 of a small number, exact.quotient. -/
import Derived.Test.YtmeifciagepmpaaSumK
namespace Go.Proofs.Ytmeifciagepmpaa
open Go.RowKit Go.Proofs.YtmeifciagepmpaaW.PrintWords
set_option linter.unusedSimpArgs false
set_option linter.unusedVariables false

/-! ### A digit of a quotient -/
theorem q_step (V d j : Nat) (hd : 0 < d) :
    (V / 2 ^ (32 * (j + 1)) % d * 4294967296 + dig V j) / d = dig (V / d) j ∧ (V / 2 ^ (32 * (j + 1)) % d * 4294967296 + dig V j) % d = V / 2 ^ (32 * j) % d := by
  obtain ⟨A, eA⟩ : ∃ A, A = V / 2 ^ (32 * (j + 1)) := ⟨_, rfl⟩
  obtain ⟨B, eB⟩ : ∃ B, B = V / 2 ^ (32 * j) := ⟨_, rfl⟩
  have hBA : B / 4294967296 = A := by rw [eA, eB, Nat.div_div_eq_div_mul, p32]
  have hwd : dig V j = B % 4294967296 := by rw [eB]; rfl
  have hq : dig (V / d) j = B / d % 4294967296 := by
    rw [dig, eB, Nat.div_div_eq_div_mul, Nat.div_div_eq_div_mul, Nat.mul_comm]
  rw [← eA, ← eB, hwd, hq, ← hBA]
  obtain ⟨t, et⟩ : ∃ t, t = B % 4294967296 := ⟨_, rfl⟩
  obtain ⟨A', eA'⟩ : ∃ A', A' = B / 4294967296 := ⟨_, rfl⟩
  have hB : B = A' * 4294967296 + t := by omega
  have ht : t < 4294967296 := by omega
  rw [← et, ← eA', hB]
  clear et eA' eA eB hBA hwd hq hB
  obtain ⟨q, eq⟩ : ∃ q, q = A' / d := ⟨_, rfl⟩
  obtain ⟨r, er⟩ : ∃ r, r = A' % d := ⟨_, rfl⟩
  have hr : r < d := by rw [er]; exact Nat.mod_lt _ hd
  have hA : A' = d * q + r := by rw [eq, er]; exact (Nat.div_add_mod _ _).symm
  rw [← er, hA]
  have e1 : (d * q + r) * 4294967296 + t = r * 4294967296 + t + d * (q * 4294967296) := by rw [Nat.add_mul, Nat.mul_assoc]; omega
  have hlt : (r * 4294967296 + t) / d < 4294967296 := by
    rw [Nat.div_lt_iff_lt_mul hd]
    have : (r + 1) * 4294967296 ≤ d * 4294967296 := Nat.mul_le_mul_right _ hr
    omega
  rw [e1, Nat.add_mul_div_left _ _ hd, Nat.add_mul_mod_self_left]
  obtain ⟨g, eg⟩ : ∃ g, g = (r * 4294967296 + t) / d := ⟨_, rfl⟩
  rw [← eg] at hlt ⊢
  exact ⟨by omega, rfl⟩
theorem q_dig {x : Nat → Nat} {n V : Nat} (hx : ∀ k, k < n → x k < 4294967296) (hV : V = vt x n * 2 ^ 96) (k : Nat) (hk : k < n + 3) : dig V k = if k < 3 then 0 else x (k - 3) := by
  subst hV
  have e96 : (2 : Nat) ^ 96 = 2 ^ (32 * 3) := by decide
  unfold dig
  by_cases h : k < 3
  · rw [if_pos h]
    have : (2 : Nat) ^ 96 = 2 ^ (32 * k) * (2 ^ (32 * (2 - k)) * 4294967296) := by
      rw [show (4294967296 : Nat) = 2 ^ 32 by decide, ← Nat.pow_add, ← Nat.pow_add]; congr 1; omega
    rw [this, Nat.mul_left_comm, Nat.mul_div_cancel_left _ (p32_pos k), ← Nat.mul_assoc, Nat.mul_mod_left]
  · rw [if_neg h]
    have : (2 : Nat) ^ (32 * k) = 2 ^ (32 * (k - 3)) * 2 ^ 96 := by rw [← Nat.pow_add]; congr 1; omega
    rw [this, Nat.mul_div_mul_right _ _ (Nat.two_pow_pos 96)]
    exact dig_vt hx (by omega)
theorem q_lt {x : Nat → Nat} {n V d : Nat} (hx : ∀ k, k < n → x k < 4294967296) (hV : V = vt x n * 2 ^ 96) : V / d < 2 ^ (32 * (n + 3)) := by
  refine Nat.lt_of_le_of_lt (Nat.div_le_self _ _) ?_
  rw [hV, show 32 * (n + 3) = 32 * n + 96 by omega, Nat.pow_add]
  exact Nat.mul_lt_mul_of_pos_right (vt_lt n hx) (Nat.two_pow_pos 96)
theorem u_or64b (a b : Nat) (ha : a < 4294967296) (hb : b < 4294967296) : bits .or .u64 ((b * 4294967296 : Nat) : Int) (a : Int) = ((b * 4294967296 + a : Nat) : Int) := by
  have h := (bits_nat .u64 64 (by decide) (fun n h0 h1 => by rw [IntKind.wrap_u64]; omega) (b * 4294967296) a (by omega) (by omega)).2
  have e : b * 4294967296 ||| a = b * 4294967296 + a := by
    have h1 := Nat.shiftLeft_add_eq_or_of_lt (i := 32) (b := a) (by omega) b
    rw [show b * 4294967296 = b <<< 32 by rw [Nat.shiftLeft_eq], ← h1]
  rw [e] at h
  exact h

set_option maxHeartbeats 1600000 in
set_option maxRecDepth 100000 in
theorem div64_calls (lo d : Nat) (hlo : lo < 18446744073709551616) (hd : 0 < d) (hd2 : d < 18446744073709551616) (w : World) :
    Calls Try.prog 107 #[.int .u64 0, .int .u64 (lo : Int), .int .u64 (d : Int)] w fun e w' => e = .returned (.tuple #[.int .u64 ((lo / d : Nat) : Int), .int .u64 ((lo % d : Nat) : Int)]) ∧ Drawn0 w w' := by
  have h1 : ((d : Int) == 0) = false := by rw [beq_eq_false_iff_ne]; omega
  have h2 : ¬ (d : Int) ≤ 0 := by omega
  obtain ⟨q, eq⟩ : ∃ q, q = lo / d := ⟨_, rfl⟩
  obtain ⟨r, er⟩ : ∃ r, r = lo % d := ⟨_, rfl⟩
  have W1 : (lo : Int) / (d : Int) = (q : Int) := by rw [eq]; push_cast; rfl
  have W2 : (lo : Int) % (d : Int) = (r : Int) := by rw [er]; push_cast; rfl
  have hq : q < 18446744073709551616 := by rw [eq]; exact Nat.lt_of_le_of_lt (Nat.div_le_self _ _) hlo
  have W3 := u_w64 q hq
  have hd0 : ¬ d = 0 := by omega
  rw [← eq, ← er]
  clear eq er
  go_enter Try.func107, Try.ntmps107
  go_wp2
  repeat (go_quiet (fail); try go_wp2)
  go_ret2
  refine ⟨?_, Drawn0.mk ⟨_, rfl⟩⟩
  rw [← W2]
  rfl

theorem u_makeU (n : Nat) (hn : n ≤ 1000000000) (W : World) :
    (Instr.makeSlice 23 (.int .i64 (n : Int)) (.int .i64 (n : Int))).run Try.prog W = .ok (.slice (some ⟨W.heap.size, 0, none⟩) n n) (W.alloc (.cells (madeCells #[.int .u32 0] n) 25)) := by
  obtain ⟨i, hi, hz⟩ := Option.map_eq_some_iff.1 u_info
  simp only [Prod.mk.injEq] at hz
  have h := run_make (P := Try.prog) W 23 25 i (.int .u32 0) Try.underlying23 hi hz.1 .i64 .i64 n n (by omega) (by omega) (by rw [hz.2.2]; omega) (by omega)
  rw [hz.2.1] at h
  simpa [Value.cells] using h
theorem OutW.drawn {w W W' : World} {g n : Nat} {f : Nat → Nat} (h : OutW w g n f W) (hd : Drawn0 W W') : OutW w g n f W' := by
  obtain ⟨k, rfl⟩ := hd.out
  exact ⟨h.lo, h.bl, h.be.trans ((Drawn0.mk ⟨k, rfl⟩).below.mono (by first | exact h.be.size | omega)), h.di⟩
def QuoEnd (w : World) (n V d : Nat) (e : Ending) (w' : World) : Prop :=
  ∃ g, e = .returned (.tuple #[.slice (some ⟨g, 0, none⟩) (n + 3) (n + 3), .bool (decide (V % d ≠ 0))]) ∧ RowU w' (some ⟨g, 0, none⟩) (n + 3) (dig (V / d)) ∧ Below w.heap.size w w'

set_option maxHeartbeats 6400000 in
set_option maxRecDepth 100000 in
theorem quotient_calls (w : World) (A : Option Addr) (n c : Nat) (x : Nat → Nat) (d V : Nat) (hr : RowU w A n x) (hc : n ≤ c) (hn : n ≤ 1000000) (hx : ∀ k, k < n → x k < 4294967296) (hd : 0 < d) (hd2 : d < 4294967296) (hV : V = vt x n * 2 ^ 96) :
    Calls Try.prog 103 #[.slice A n c, .int .u64 (d : Int)] w fun e w' => QuoEnd w n V d e w' := by
  have HR := Lib.hid hr
  have HD : Hid (∀ k, k < n + 3 → dig V k = if k < 3 then 0 else x (k - 3)) := (show _ from q_dig hx hV)
  have HS := Lib.hid (q_step V d)
  have HZ : Hid (V / 2 ^ (32 * (n + 3)) = 0) := (show _ = _ by
    have := q_lt (d := 1) hx hV
    rw [Nat.div_one] at this
    exact Nat.div_eq_of_lt this)
  have HX := Lib.hid hx
  clear hr hx hV
  obtain ⟨N, eN⟩ : ∃ N, N = n + 3 := ⟨_, rfl⟩
  have W0 : IntKind.i64.wrap ((n : Int) + 3) = (N : Int) := by rw [IntWalk.i64_in _ (by omega)]; omega
  have hmk := u_makeU N (by omega)
  rw [show ((N : Nat) : Int) = (n : Int) + 3 by omega] at hmk
  rw [arrU_made] at hmk
  have W1 : IntKind.i64.wrap ((N : Int) - 1) = (N : Int) - 1 := IntWalk.i64_in _ (by omega)
  unfold QuoEnd
  rw [← eN] at HZ HD ⊢
  have EN := Lib.hid eN
  have hN : N ≤ 1000003 := by omega
  have hN3 : 3 ≤ N := by omega
  clear eN W0
  go_enter Try.func103, Try.ntmps103
  go_wp2
  have HO0 := Lib.hid (OutW.start w N)
  obtain ⟨g, eg⟩ : ∃ g, g = w.heap.size := ⟨_, rfl⟩
  rw [← eg] at HO0 ⊢
  have EG := Lib.hid eg
  clear eg hmk
  go_loopg [7, 8] N (fun kq v7 v8 wr => ∃ (j r : Nat) (f : Nat → Nat), v7 = .int .u64 (r : Int) ∧ v8 = .int .i64 ((j : Int) - 1) ∧ j ≤ N ∧ j ≤ kq ∧ Hid (r = V / 2 ^ (32 * j) % d) ∧ Hid (∀ k, j ≤ k → k < N → f k = dig (V / d) k) ∧ Aside (OutW w g N f wr))
  case atStart => exact ⟨N, 0, _, rfl, rfl, by omega, by omega, (show _ = _ by rw [HZ.out, Nat.zero_mod]), (show _ from fun k h1 h2 => by omega), HO0⟩
  case round =>
    clear HO0
    obtain ⟨j, r, f, rfl, rfl, hj, hjk, HRR, HF, HO⟩ := hrel
    rcases Nat.eq_zero_or_pos j with h0 | h0
    · subst h0
      have HV : Hid (r = V % d) := (show _ = _ by have := HRR.out; simpa using this)
      have HB : Hid (decide (0 < r) = !decide (V % d = 0)) := (show _ = _ by rw [← HV.out]; by_cases h : r = 0 <;> simp [h] <;> omega)
      have hneg : ¬ (0 : Int) ≤ ((0 : Nat) : Int) - 1 := by omega
      have HF2 : Hid (RowU wr (some ⟨g, 0, none⟩) N (dig (V / d))) := (show _ from (RowU.arr HO.out.bl).congr fun k hk => HF.out k (Nat.zero_le _) hk)
      clear HV HRR HF
      go_wp2
      go_ret2
      exact ⟨g, ret_pairB HB.out, HF2.out, HO.out.be⟩
    · obtain ⟨q, rfl⟩ : ∃ q, j = q + 1 := ⟨j - 1, by omega⟩
      have hq2 : ((q + 1 : Nat) : Int) - 1 = (q : Int) := by omega
      rw [hq2]
      have hqN : (q : Int) < (N : Int) := by omega
      have hq0 : (0 : Int) ≤ (q : Int) := by omega
      have hr : r < d := by rw [HRR.out]; exact Nat.mod_lt _ hd
      have hst := HS.out q hd
      rw [← HRR.out] at hst
      obtain ⟨t, et⟩ : ∃ t, t = dig V q := ⟨_, rfl⟩
      have ht : t < 4294967296 := by rw [et]; exact dig_lt _ _
      have hdg := HD.out q (by omega)
      rw [← et] at hst hdg
      obtain ⟨rs, ers⟩ : ∃ z, z = r * 4294967296 := ⟨_, rfl⟩
      obtain ⟨lo, elo⟩ : ∃ z, z = rs + t := ⟨_, rfl⟩
      have hlo : lo < 18446744073709551616 := by omega
      have hor := u_or64b t r ht (by omega)
      rw [← ers, ← elo] at hst hor
      have HDV := Lib.hid fun W => div64_calls lo d hlo hd (by omega) W
      obtain ⟨o, eo⟩ : ∃ o, o = lo / d := ⟨_, rfl⟩
      obtain ⟨r2, er2⟩ : ∃ z, z = lo % d := ⟨_, rfl⟩
      rw [← eo, ← er2] at hst HDV
      have ho : o < 4294967296 := by rw [hst.1]; exact dig_lt _ _
      have HOO := Lib.hid hst.1
      have HOB := Lib.hid ho
      have HR2 := Lib.hid hst.2
      have W2 : (r : Int) / 4294967296 = 0 := by omega
      have W3 : IntKind.u64.wrap ((r : Int) * 4294967296) = (rs : Int) := by rw [show (r : Int) * 4294967296 = (rs : Int) by omega, u_w64 _ (by omega)]
      have W4 := u_w64 t (by omega)
      have W5 := u_w32 o ho
      have hqn2 : q < N := by omega
      clear hst et ers elo eo er2 HRR hq2 ho
      by_cases h3 : q < 3
      · have h3z : ¬ (3 : Int) ≤ (q : Int) := by omega
        rw [if_pos h3] at hdg
        have T0 := Lib.hid hdg
        subst hdg
        have hor0 : bits .or .u64 (rs : Int) 0 = (lo : Int) := by simpa using hor
        clear hor
        go_wp2_with (go_at_call 107; (with_reducible refine (HDV.out _).mono ?_); rintro e1 w1 ⟨rfl, hdr⟩; have HO1 := Lib.hid (HO.out.drawn hdr); clear hdr HO; obtain ⟨oc, of'⟩ := HO1.out.cell q hqn2)
        go_roundg q
        case measure => omega
        case rel =>
          refine ⟨q, r2, updN f q o, rfl, by go_num, by omega, by omega, HR2, (show _ from fun k h1 h2 => ?_), HO1.out.set q o HOB.out⟩
          by_cases e : k = q
          · rw [e, updN_same, HOO.out]
          · rw [updN_other _ _ e]; exact HF.out k (by omega) h2
      · have h3z : (3 : Int) ≤ (q : Int) := by omega
        rw [if_neg h3] at hdg
        obtain ⟨p, ep⟩ : ∃ p, p = q - 3 := ⟨_, rfl⟩
        rw [← ep] at hdg
        have hpn : p < n := by have := EN.out; omega
        obtain ⟨ad, rfl, hca⟩ := HR.out (by omega)
        have c1 := hca p hpn
        rw [← hdg] at c1
        have c2 : wr.cell? (ad.add p) = some (.int .u32 (t : Int)) := by rw [HO.out.be.cell (World.block_lt_of_cell? _ _ c1), c1]
        have W6 : IntKind.i64.wrap ((q : Int) - 3) = (p : Int) := by rw [IntWalk.i64_in _ (by omega)]; omega
        have hpz : (p : Int) < (n : Int) := by omega
        clear hca c1 hdg ep
        go_wp2_with (go_at_call 107; (with_reducible refine (HDV.out _).mono ?_); rintro e1 w1 ⟨rfl, hdr⟩; have HO1 := Lib.hid (HO.out.drawn hdr); clear hdr HO; obtain ⟨oc, of'⟩ := HO1.out.cell q hqn2)
        go_roundg q
        case measure => omega
        case rel =>
          refine ⟨q, r2, updN f q o, rfl, by go_num, by omega, by omega, HR2, (show _ from fun k h1 h2 => ?_), HO1.out.set q o HOB.out⟩
          by_cases e : k = q
          · rw [e, updN_same, HOO.out]
          · rw [updN_other _ _ e]; exact HF.out k (by omega) h2
end Go.Proofs.Ytmeifciagepmpaa
