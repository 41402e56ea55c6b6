/- halideref2's whole numbers: Down. -/
import Derived.Test.YtmeifciagepmpaaNatE
namespace Go.Proofs.Ytmeifciagepmpaa
open Go.RowKit Go.Proofs.YtmeifciagepmpaaW.PrintWords
set_option linter.unusedSimpArgs false
set_option linter.unusedVariables false

theorem ret_pairB {v : Value} {a b : Bool} (h : a = b) : Ending.returned (.tuple #[v, .bool a]) = .returned (.tuple #[v, .bool b]) := by rw [h]
def DownEnd (w : World) (a n : Nat) (e : Ending) (w' : World) : Prop := ∃ v, e = .returned (.tuple #[v, .bool (decide (a % 2 ^ n ≠ 0))]) ∧ NatAt w' v (a / 2 ^ n) ∧ Below w.heap.size w w'

set_option maxHeartbeats 6400000 in
set_option maxRecDepth 100000 in
theorem down_calls (w : World) (v : Value) (a n : Nat) (hv : NatAt w v a) (hla : len32 a ≤ 1000000) (hn : n ≤ 1000000) :
    Calls Try.prog 80 #[v, .int .i64 (n : Int)] w fun e w' => DownEnd w a n e w' := by
  have HV := Lib.hid hv
  obtain ⟨A, c, rfl, hc, hr⟩ := hv
  have HBIT : Hid (∀ i : Nat, i ≤ 1000000000 → Calls Try.prog 79 #[.slice A (len32 a) c, .int .i64 (i : Int)] w fun e w' => e = .returned (.int .i64 ((a / 2 ^ i % 2 : Nat) : Int)) ∧ w = w') := fun i hi => bit_calls w _ a i HV.out hla hi
  have HR := Lib.hid hr
  obtain ⟨m, em⟩ : ∃ m, m = len32 a := ⟨_, rfl⟩
  have EM := Lib.hid em
  rw [← em] at HR hla hc HBIT ⊢
  clear hr em HV
  go_enter Try.func80, Try.ntmps80
  go_wp2_with fail
  go_loopg [6, 7] n (fun kq v6 v7 wr => ∃ (i : Nat) (rb : Bool), v6 = .bool rb ∧ v7 = .int .i64 (i : Int) ∧ i ≤ n ∧ i ≤ 32 * m ∧ n ≤ i + kq ∧ Hid (rb = decide (a % 2 ^ i ≠ 0)) ∧ wr = w)
  case atStart => exact ⟨0, false, rfl, rfl, by omega, by omega, by omega, (show _ = _ by simp [Nat.mod_one]), rfl⟩
  case round =>
    obtain ⟨i, rb, rfl, rfl, hi, him, hk, HRB, rfl⟩ := hrel
    by_cases hin : i < n ∧ i < 32 * m
    · obtain ⟨h1, h2⟩ := hin
      have h1z : (i : Int) < (n : Int) := by omega
      have h2z : (i : Int) < 32 * (m : Int) := by omega
      cases rb with
      | true =>
        have H2 : Hid (true = decide (a % 2 ^ (i + 1) ≠ 0)) := (show _ = _ by rw [rest_step, ← HRB.out]; rfl)
        go_wp2
        go_roundg (n - (i + 1))
        case measure => omega
        case rel => exact ⟨i + 1, true, rfl, by go_num, by omega, by omega, by omega, H2, rfl⟩
      | false =>
        obtain ⟨z, ez⟩ : ∃ z, z = a / 2 ^ i % 2 := ⟨_, rfl⟩
        have HB := HBIT.out i (by omega)
        rw [← ez] at HB
        have HB2 := Lib.hid HB
        obtain ⟨zb, hzb⟩ : ∃ zb : Bool, zb = decide (z = 1) := ⟨_, rfl⟩
        have HZB : ((z : Int) == 1) = zb := by rw [hzb]; by_cases h : z = 1 <;> simp [h]; omega
        have H2 : Hid (zb = decide (a % 2 ^ (i + 1) ≠ 0)) := (show _ = _ by rw [rest_step, ← HRB.out, ← ez, hzb]; rfl)
        clear HB ez hzb
        go_wp2_with (go_at_call 79; refine HB2.out.mono ?_; rintro e1 w1 ⟨rfl, rfl⟩)
        go_roundg (n - (i + 1))
        case measure => omega
        case rel => exact ⟨i + 1, zb, by first | rfl | (rw [← HZB]; rfl) | (simp [HZB]), by go_num, by omega, by omega, by omega, H2, rfl⟩
    · have hex : (i = 32 * m ∧ 32 * m ≤ n) ∨ (i = n ∧ n < 32 * m) := by omega
      clear hin HBIT
      rcases hex with ⟨e1, e2⟩ | ⟨e1, e2⟩
      · have E : Hid (a / 2 ^ n = 0 ∧ rb = decide (a % 2 ^ n ≠ 0)) := (show _ ∧ _ by
          have h := (lt_len32 a m).1 (by have := EM.out; omega)
          have h' : a < 2 ^ n := Nat.lt_of_lt_of_le h (Nat.pow_le_pow_right (by decide) e2)
          refine ⟨Nat.div_eq_of_lt h', ?_⟩
          rw [HRB.out, e1, Nat.mod_eq_of_lt h, Nat.mod_eq_of_lt h'])
        have h2z : ¬ (i : Int) < 32 * (m : Int) := by omega
        have h3z : 32 * (m : Int) ≤ (n : Int) := by omega
        by_cases h1 : (i : Int) < (n : Int)
        all_goals
          clear e1 e2
          go_wp2
          go_ret2
          exact ⟨_, ret_pairB E.out.2, by rw [E.out.1]; exact NatAt.zero _ _ _, Below.refl _ _⟩
      · subst e1
        have h1z : ¬ (i : Int) < (i : Int) := by omega
        have h3z : ¬ 32 * (m : Int) ≤ (i : Int) := by omega
        obtain ⟨ad, rfl, hca⟩ := HR.out (by omega)
        have HCA := Lib.hid hca
        obtain ⟨q, eq⟩ : ∃ q, q = i / 32 := ⟨_, rfl⟩
        obtain ⟨r, er⟩ : ∃ r, r = i % 32 := ⟨_, rfl⟩
        have hr : r < 32 := by omega
        have EQ := Lib.hid eq
        have ER := Lib.hid er
        have q1 : (i : Int) / 32 = (q : Int) := by omega
        have r1 : (i : Int) % 32 = (r : Int) := by omega
        have hqm : q < m := by omega
        obtain ⟨N, eN⟩ : ∃ N, N = m - q := ⟨_, rfl⟩
        have W0 : IntKind.i64.wrap ((m : Int) - (q : Int)) = (N : Int) := by rw [IntWalk.i64_in _ (by omega)]; omega
        have hm := u_make N (by omega)
        rw [arrU_made] at hm
        have EN1 := Lib.hid eN
        have hNb : N ≤ 1000000 := by omega
        clear hca eq er eN e2 hi him hk
        go_wp2_with fail
        clear hm W0
        obtain ⟨wo, rfl⟩ : ∃ wo : World, wo = wr := ⟨_, rfl⟩
        have HO0 := OutW.start wo N
        obtain ⟨g, eg⟩ : ∃ g, g = wo.heap.size := ⟨_, rfl⟩
        rw [← eg] at HO0 ⊢
        clear eg
        go_loopg [9] N (fun kq v9 wr => ∃ (j : Nat) (f : Nat → Nat), v9 = .int .i64 (j : Int) ∧ j ≤ N ∧ N ≤ j + kq ∧ Hid (∀ k, k < j → f k = dig (a / 2 ^ i) k) ∧ Aside (OutW wo g N f wr))
        case atStart => exact ⟨0, _, rfl, by omega, by omega, fun k hk => by omega, HO0⟩
        case round =>
          clear HO0
          obtain ⟨j, f, rfl, hj, hjk, HF, HO⟩ := hrel
          by_cases hlt : j < N
          · have hltz : (j : Int) < (N : Int) := by omega
            have hdd := down_dig a i j
            rw [← EQ.out, ← ER.out] at hdd
            obtain ⟨jq, ejq⟩ : ∃ k, k = j + q := ⟨_, rfl⟩
            obtain ⟨jq1, ejq1⟩ : ∃ k, k = jq + 1 := ⟨_, rfl⟩
            rw [← ejq, ← ejq1] at hdd
            have hjm : jq < m := by have := EN1.out; omega
            obtain ⟨t, et⟩ : ∃ t, t = dig a jq := ⟨_, rfl⟩
            obtain ⟨s, es⟩ : ∃ s, s = dig a jq1 := ⟨_, rfl⟩
            rw [← et, ← es] at hdd
            have ht := dig_lt a jq
            have hs := dig_lt a jq1
            rw [← et] at ht
            rw [← es] at hs
            obtain ⟨y, ey⟩ : ∃ y, y = t + 4294967296 * s := ⟨_, rfl⟩
            rw [← ey] at hdd
            obtain ⟨o6, eo6⟩ : ∃ o, o = y / 2 ^ r := ⟨_, rfl⟩
            obtain ⟨o, eo⟩ : ∃ o, o = o6 % 4294967296 := ⟨_, rfl⟩
            rw [← eo6, ← eo] at hdd
            have hy : y < 18446744073709551616 := by omega
            have ho6 : o6 < 18446744073709551616 := by rw [eo6]; exact Nat.lt_of_le_of_lt (Nat.div_le_self _ _) hy
            have ho : o < 4294967296 := by omega
            have W1 := u_w64 t (by omega)
            have W2 := u_w64 s (by omega)
            obtain ⟨ys, eys⟩ : ∃ z, z = s * 4294967296 := ⟨_, rfl⟩
            have W3 : IntKind.u64.wrap ((s : Int) * 4294967296) = (ys : Int) := by rw [show (s : Int) * 4294967296 = (ys : Int) by omega, u_w64 _ (by omega)]
            have W4 := u_or64 t s ht hs
            rw [← eys, show t + ys = y by omega] at W4
            have W5 : (y : Int) / 2 ^ r = (o6 : Int) := by rw [eo6]; push_cast; rfl
            have W6 := u_mask o6 ho6
            rw [← eo] at W6
            have W7 := u_w32 o ho
            have W8 : IntKind.i64.wrap ((j : Int) + (q : Int)) = (jq : Int) := by rw [IntWalk.i64_in _ (by omega)]; omega
            have W9 : IntKind.i64.wrap ((jq : Int) + 1) = (jq1 : Int) := by rw [IntWalk.i64_in _ (by omega)]; omega
            have hjz : (jq : Int) < (m : Int) := by omega
            obtain ⟨oc, of'⟩ := HO.out.cell j hlt
            have c1 := HCA.out jq hjm
            rw [← et] at c1
            have c1' : wr.cell? (ad.add jq) = some (.int .u32 (t : Int)) := by rw [HO.out.be.cell (World.block_lt_of_cell? _ _ c1), c1]
            have HDD := Lib.hid hdd
            have HO' := Lib.hid ho
            by_cases hs1 : jq1 < m
            · have hs1z : (jq1 : Int) < (m : Int) := by omega
              have c2 := HCA.out jq1 hs1
              rw [← es] at c2
              have c2' : wr.cell? (ad.add jq1) = some (.int .u32 (s : Int)) := by rw [HO.out.be.cell (World.block_lt_of_cell? _ _ c2), c2]
              clear ejq ejq1 et es ey eo6 eo eys hdd c1 c2 hj
              go_wp2
              go_roundg (N - (j + 1))
              case measure => omega
              case rel =>
                refine ⟨j + 1, updN f j o, by go_num, by omega, by omega, fun k hk => ?_, HO.out.set j o HO'.out⟩
                by_cases e : k = j
                · rw [e, updN_same, HDD.out]
                · rw [updN_other _ _ e]; exact HF.out k (by omega)
            · have hs1z : ¬ (jq1 : Int) < (m : Int) := by omega
              have hs0 : s = 0 := by rw [es]; exact dig_high (by rw [← EM.out]; omega)
              have hyt : y = t := by omega
              subst hyt
              clear ejq ejq1 et es ey eo6 eo eys hdd c1 hj hs0 W3 W4 W2
              go_wp2
              go_roundg (N - (j + 1))
              case measure => omega
              case rel =>
                refine ⟨j + 1, updN f j o, by go_num, by omega, by omega, fun k hk => ?_, HO.out.set j o HO'.out⟩
                by_cases e : k = j
                · rw [e, updN_same, HDD.out]
                · rw [updN_other _ _ e]; exact HF.out k (by omega)
          · have hltz : ¬ (j : Int) < (N : Int) := by omega
            have e : j = N := by omega
            subst e
            have HE : Hid (vt f j = a / 2 ^ i) := (show _ = _ by
              rw [vt_congr j HF.out, vt_all]
              rw [EN1.out, EM.out, EQ.out]
              exact len_down a i (by have := EM.out; have := EQ.out; omega))
            go_wp2_with (go_at_call 75; refine (HO.out.trim (by omega) HE.out).mono ?_; rintro e1 w1 ⟨z, rfl, hz, hb⟩; have HZ := Lib.hid hz; have HB := Lib.hid hb; clear hz hb)
            go_ret2
            exact ⟨_, ret_pairB HRB.out, HZ.out, HB.out⟩
end Go.Proofs.Ytmeifciagepmpaa
