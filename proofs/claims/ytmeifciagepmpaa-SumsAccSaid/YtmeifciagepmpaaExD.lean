/- exact.Round. -/
import Derived.Test.YtmeifciagepmpaaExC
namespace Go.Proofs.Ytmeifciagepmpaa
open Go.RowKit Go.Proofs.YtmeifciagepmpaaW.PrintWords
set_option linter.unusedSimpArgs false
set_option linter.unusedVariables false

/-- L by d and by 2^149, as a sample, rounded once. -/
def exR (L d : Nat) : Nat := if L * 2 ^ 96 / d = 0 then 0 else refRound 23 8 150 255 false (L * 2 ^ 96 / d) (-245) (decide (L * 2 ^ 96 % d ≠ 0))

theorem exR_zero {L d : Nat} (h : L * 2 ^ 96 / d = 0) : exR L d = 0 := if_pos h
theorem ret_bool {a b : Bool} (h : a = b) : Ending.returned (.bool a) = .returned (.bool b) := by rw [h]
theorem u_or32 (a b : Nat) (ha : a < 2147483648) (hb : b ≤ 1) : bits .or .u32 ((2 * a : Nat) : Int) (b : Int) = ((2 * a + b : Nat) : Int) := by
  have h := (u_bits (2 * a) b (by omega) (by omega)).2
  have e : 2 * a ||| b = 2 * a + b := by
    have h1 := Nat.shiftLeft_add_eq_or_of_lt (i := 1) (b := b) (by omega) a
    rw [show 2 * a = a <<< 1 by rw [Nat.shiftLeft_eq]; omega, ← h1]
  rw [e] at h
  exact h
theorem half_bit (Q k : Nat) : Q / 2 ^ k = 2 * (Q / 2 ^ (k + 1)) + Q / 2 ^ k % 2 := by
  rw [Nat.pow_succ, ← Nat.div_div_eq_div_mul]
  omega
/-- What is kept, told by the place of the last digit. -/
theorem exR_some {L d Q k n0 : Nat} {more inc : Bool} (hQ : Q = L * 2 ^ 96 / d) (hQ0 : Q ≠ 0) (hm : more = decide (L * 2 ^ 96 % d ≠ 0)) (hk : (k : Int) = max ((bitlen Q : Int) - 269) (-149) + 245) (hn : n0 = Q / 2 ^ k)
    (hi : inc = decide (Q / 2 ^ (k - 1) % 2 = 1 ∧ (more = true ∨ Q % 2 ^ (k - 1) ≠ 0 ∨ n0 % 2 = 1))) :
    exR L d = rRung 23 150 255 ((k : Int) - 245) (n0 + inc.toNat) ∧ n0 < 16777216 ∧ 96 ≤ k ∧ (8388608 ≤ n0 → 96 < k ∨ True) := by
  have ht : rTo 23 150 Q (-245) = (k : Int) - 245 := by unfold rTo; omega
  have hk96 : 96 ≤ k := by omega
  have hlt : n0 < 16777216 := by
    rw [hn, Nat.div_lt_iff_lt_mul (Nat.two_pow_pos _)]
    have h1 := (bitlen_spec hQ0).2.1
    refine Nat.lt_of_lt_of_le h1 ?_
    rw [show (16777216 : Nat) = 2 ^ 24 by decide, ← Nat.pow_add]
    exact Nat.pow_le_pow_right (by decide) (by omega)
  refine ⟨?_, hlt, hk96, fun _ => .inr trivial⟩
  unfold exR
  rw [← hQ, ← hm, if_neg hQ0]
  unfold refRound
  rw [ht, show (k : Int) - 245 - -245 = (k : Int) by omega]
  have : rKept Q (k : Int) more = n0 + inc.toNat := by
    unfold rKept
    rw [if_pos (by omega), Int.toNat_natCast, ← hn, hi]
    congr 1
    split <;> rename_i h <;> simp [h]
  rw [this]
  exact Nat.zero_add _
/-- The word of it. -/
theorem rung_low {k m0 : Nat} (h : m0 < 8388608) : rRung 23 150 255 ((k : Int) - 245) m0 = m0 := by
  unfold rRung
  have : bitlen m0 ≤ 24 := (bitlen_lt m0 24).2 (by omega)
  rw [if_neg (by omega), if_pos (by omega)]
theorem rung_high {k m0 : Nat} (hk : 96 ≤ k) (h : 8388608 ≤ m0) (h2 : m0 ≤ 16777216) : rRung 23 150 255 ((k : Int) - 245) m0 = min ((k - 95) * 8388608 + (m0 - 8388608)) 2139095040 := by
  unfold rRung
  have e : (2 : Nat) ^ 23 = 8388608 := by decide
  by_cases h3 : m0 = 16777216
  · subst h3
    rw [if_pos (by decide +kernel), e]
    split <;> rename_i h4 <;> omega
  · have : bitlen m0 ≤ 24 := (bitlen_lt m0 24).2 (by omega)
    rw [if_neg (by omega), e, if_neg (by omega)]
    split <;> rename_i h4 <;> omega

set_option maxHeartbeats 3200000 in
set_option maxRecDepth 100000 in
theorem xround_calls (w : World) (A : Option Addr) (n c : Nat) (x : Nat → Nat) (d L : Nat) (hr : RowU w A n x) (hc : n ≤ c) (hn : n ≤ 14) (hx : ∀ k, k < n → x k < 4294967296) (hd : 0 < d) (hd2 : d < 4294967296) (hL : L = vt x n) :
    Calls Try.prog 98 #[.slice A n c, .int .u64 (d : Int), .int .i64 149] w fun e w' => Gives w (.int .u32 ((exR L d : Nat) : Int)) e w' := by
  have HQT := Lib.hid fun W (hb : Below w.heap.size w W) => quotient_calls W A n c x d (L * 2 ^ 96) (hr.below hb) hc (by omega) hx hd hd2 (by rw [hL])
  unfold QuoEnd at HQT
  have hqlt := q_lt (d := d) hx (show L * 2 ^ 96 = vt x n * 2 ^ 96 by rw [hL])
  have HES := Lib.hid fun (Q k n0 : Nat) (more inc : Bool) => @exR_some L d Q k n0 more inc
  have HEZ := Lib.hid fun h => @exR_zero L d h
  obtain ⟨V, eV⟩ : ∃ V, V = L * 2 ^ 96 := ⟨_, rfl⟩
  rw [← eV] at HQT HES HEZ hqlt
  obtain ⟨Q, eQ⟩ : ∃ Q, Q = V / d := ⟨_, rfl⟩
  obtain ⟨more, em⟩ : ∃ more, more = decide (V % d ≠ 0) := ⟨_, rfl⟩
  rw [← em] at HQT
  rw [← eQ] at HQT HEZ hqlt
  obtain ⟨res, eres⟩ : ∃ r, r = exR L d := ⟨_, rfl⟩
  rw [← eres] at HES HEZ ⊢
  have HES2 := Lib.hid fun (k n0 : Nat) (inc : Bool) (hQ0 : Q ≠ 0) => HES.out Q k n0 more inc eQ hQ0 em
  have hb : bitlen Q ≤ 544 := Nat.le_trans ((bitlen_lt Q _).2 hqlt) (by omega)
  have hlen : len32 Q ≤ n + 3 := (lt_len32 Q _).2 hqlt
  have HTP := Lib.hid fun W A hr => xtop_calls W A (n + 3) (n + 3) Q hr (Nat.le_refl _) (by omega) hlen
  have HBI := Lib.hid fun W A hr i hi => xbit_calls W A (n + 3) (n + 3) Q i hr (Nat.le_refl _) (by omega) hlen hi
  have HBE := Lib.hid fun W A hr m hm => xbelow_calls W A (n + 3) (n + 3) Q m hr (Nat.le_refl _) (by omega) hlen hm
  obtain ⟨N, eN⟩ : ∃ N, N = n + 3 := ⟨_, rfl⟩
  rw [← eN] at HTP HBI HBE HQT
  have hN : N ≤ 17 := by omega
  obtain ⟨B, eB⟩ : ∃ B, B = bitlen Q := ⟨_, rfl⟩
  rw [← eB] at HTP HES2 hb
  have hz0 : Hid (B = 0 ↔ Q = 0) := (show _ ↔ _ from ⟨fun h => by
    by_cases hq : Q = 0
    · exact hq
    · have := (bitlen_spec hq).2.2; omega, fun h => by rw [eB, h]; rfl⟩)
  have hQB : Hid (Q < 2 ^ B) := (show _ < _ from (bitlen_lt Q B).1 (by omega))
  have hb0 : Below w.heap.size w w := Below.refl _ _
  clear eV em eQ eres HES hqlt hlen eN eB hr hx hL
  by_cases hQ0 : Q = 0
  · have hB : B = 0 := hz0.out.2 hQ0
    have E := Lib.hid (HEZ.out hQ0)
    subst hB
    clear hQ0 hz0 hQB
    go_enter Try.func98, Try.ntmps98
    go_wp2_with (first
      | (go_at_call 103; refine (HQT.out _ hb0).mono ?_; rintro e1 w1 ⟨g, rfl, hrow, hbel⟩; have HRW := Lib.hid hrow; have HB1 := Lib.hid hbel; clear hrow hbel)
      | (go_at_call 104; refine (HTP.out _ _ HRW.out).mono ?_; rintro e1 w2 ⟨rfl, hdr⟩; have HRW2 := Lib.hid (HRW.out.below hdr.below); have HB2 := Lib.hid (ujoin HB1.out hdr.below); clear hdr HRW HB1))
    go_ret
    exact ⟨ret_int (by rw [E.out]; rfl), HB2.out⟩
  · have hB : 1 ≤ B := by
      by_cases h : B = 0
      · exact absurd (hz0.out.1 h) hQ0
      · omega
    obtain ⟨k, ek⟩ : ∃ k : Nat, (k : Int) = max ((B : Int) - 269) (-149) + 245 := ⟨(max ((B : Int) - 269) (-149) + 245).toNat, by omega⟩
    have hk96 : 96 ≤ k := by omega
    have hk2 : k ≤ 520 := by omega
    have hBk : B ≤ k + 24 := by omega
    have hm1 : max ((B : Int) - 269) (-149) = (k : Int) - 245 := by omega
    have hm2 : max (-149) ((B : Int) - 269) = (k : Int) - 245 := by omega
    have hB0 : (0 : Int) ≤ (B : Int) - 1 := by omega
    have EK := Lib.hid ek
    have HQ0 := Lib.hid hQ0
    clear ek hz0 HEZ hQ0
    go_enter Try.func98, Try.ntmps98
    go_upto_region 9 with (first
      | (go_at_call 103; refine (HQT.out _ hb0).mono ?_; rintro e1 w1 ⟨g, rfl, hrow, hbel⟩; have HRW := Lib.hid hrow; have HB1 := Lib.hid hbel; clear hrow hbel)
      | (go_at_call 104; refine (HTP.out _ _ HRW.out).mono ?_; rintro e1 w2 ⟨rfl, hdr⟩; have HRW2 := Lib.hid (HRW.out.below hdr.below); have HB2 := Lib.hid (ujoin HB1.out hdr.below); clear hdr HRW HB1))
    rw [show max ((B : Int) - 1 - 245 - 23) (-149) = (k : Int) - 245 by omega, show (k : Int) - 245 + 245 = (k : Int) by omega]
    clear hm1 hm2 hB0
    go_wp2
    go_loopg [13, 14] 25 (fun kq v13 v14 wr => ∃ j n0 : Nat, v14 = .int .i64 ((j : Int) - 1) ∧ v13 = .int .u32 (n0 : Int) ∧ j ≤ 25 ∧ j ≤ kq ∧ Hid (n0 = Q / 2 ^ (k + j)) ∧ wr = w2)
    case atStart =>
      refine ⟨25, 0, by first | rfl | go_num, by first | rfl | go_num, by omega, by omega, (show _ = _ from ?_), rfl⟩
      exact (Nat.div_eq_of_lt (Nat.lt_of_lt_of_le hQB.out (Nat.pow_le_pow_right (by decide) (by omega)))).symm
    case round =>
      obtain ⟨j, n0, rfl, rfl, hj, hjk, HN, rfl⟩ := hrel
      rcases Nat.eq_zero_or_pos j with h0 | h0
      · subst h0
        have hneg : ¬ (0 : Int) ≤ ((0 : Nat) : Int) - 1 := by omega
        have hn0 : n0 = Q / 2 ^ k := HN.out
        have HX := Lib.hid fun inc => HES2.out k n0 inc HQ0.out EK.out hn0
        obtain ⟨p, ep⟩ : ∃ p, p = k - 1 := ⟨_, rfl⟩
        rw [← ep] at HX
        have HBI2 := Lib.hid (HBI.out wr _ HRW2.out p (by omega))
        have HBE2 := Lib.hid fun W (hd : Drawn0 wr W) => HBE.out W _ (HRW2.out.below hd.below) p (by omega)
        have hn1 := (HX.out _ rfl).2.1
        obtain ⟨b, eb⟩ : ∃ b, b = Q / 2 ^ p % 2 := ⟨_, rfl⟩
        obtain ⟨rs, ers⟩ : ∃ r, r = decide (Q % 2 ^ p ≠ 0) := ⟨_, rfl⟩
        rw [← eb] at HX HBI2
        rw [← ers] at HBE2
        have hb2 : b ≤ 1 := by omega
        have HX2 : Hid (∀ inc, inc = decide (b = 1 ∧ (more = true ∨ rs = true ∨ n0 % 2 = 1)) → res = rRung 23 150 255 ((k : Int) - 245) (n0 + inc.toNat)) := (show ∀ inc, _ → _ from fun inc hi => (HX.out inc (by rw [hi, ers]; simp)).1)
        have W1 : IntKind.i64.wrap ((k : Int) - 1) = (p : Int) := by rw [IntWalk.i64_in _ (by omega)]; omega
        clear HX HES2 HBI HBE HN hn0 ep eb ers hjk hj HQ0 EK hQB
        have BA : bits .and .u32 (n0 : Int) 1 = ((n0 % 2 : Nat) : Int) := u_and1 n0 (by omega)
        obtain ⟨od, eod⟩ : ∃ z, z = n0 % 2 := ⟨_, rfl⟩
        rw [← eod] at BA
        have hod : od ≤ 1 := by omega
        have HOD := Lib.hid eod
        clear eod
        by_cases hb1 : b = 1
        · have hbb : ((b : Int) == 1) = true := by rw [hb1]; rfl
          cases more with
          | true =>
            obtain ⟨m0, em0⟩ : ∃ m, m = n0 + 1 := ⟨_, rfl⟩
            have HE : Hid (res = rRung 23 150 255 ((k : Int) - 245) m0) := (show _ = _ by rw [em0]; exact HX2.out true (by simp [hb1]))
            have WI : IntKind.u32.wrap ((n0 : Int) + 1) = (m0 : Int) := by rw [show (n0 : Int) + 1 = (m0 : Int) by omega, u_w32 _ (by omega)]
            have hm0 : m0 ≤ 16777216 := by omega
            clear em0
            clear hb1
            by_cases hlow : m0 < 8388608
            · have hlz : (m0 : Int) < 8388608 := by omega
              have E : Hid (res = m0) := (show _ = _ by rw [HE.out, rung_low hlow])
              clear hlow
              go_wp2_with (first
                | (go_at_call 105; refine HBI2.out.mono ?_; rintro e1 w1 ⟨rfl, rfl⟩)
                | (go_at_call 106; refine (HBE2.out _ (Drawn0.refl _)).mono ?_; rintro e1 w1 ⟨rfl, hdr⟩; have HB3 := Lib.hid (ujoin HB2.out hdr.below); clear hdr))
              go_ret
              exact ⟨ret_int (by rw [E.out]), by first | exact HB3.out | exact HB2.out⟩
            · have dlz : decide ((m0 : Int) < 8388608) = false := decide_eq_false (by omega)
              have dlz2 : decide (m0 < 8388608) = false := decide_eq_false hlow
              have E0 := HE.out
              rw [rung_high hk96 (by omega) (by omega)] at E0
              obtain ⟨u, eu⟩ : ∃ u, u = k - 95 := ⟨_, rfl⟩
              obtain ⟨us, eus⟩ : ∃ z, z = u * 8388608 := ⟨_, rfl⟩
              obtain ⟨md, emd⟩ : ∃ z, z = m0 - 8388608 := ⟨_, rfl⟩
              obtain ⟨sm, esm⟩ : ∃ z, z = us + md := ⟨_, rfl⟩
              obtain ⟨z, ez⟩ : ∃ z, z = min sm 2139095040 := ⟨_, rfl⟩
              have Y1 : IntKind.u32.wrap ((k : Int) - 245 + 150) = (u : Int) := by rw [show (k : Int) - 245 + 150 = (u : Int) by omega, u_w32 _ (by omega)]
              have Y2 : IntKind.u32.wrap ((u : Int) * 8388608) = (us : Int) := by rw [show (u : Int) * 8388608 = (us : Int) by omega, u_w32 _ (by omega)]
              have Y3 : IntKind.u32.wrap ((m0 : Int) - 8388608) = (md : Int) := by rw [show (m0 : Int) - 8388608 = (md : Int) by omega, u_w32 _ (by omega)]
              have Y4 : IntKind.u32.wrap ((us : Int) + (md : Int)) = (sm : Int) := by rw [show (us : Int) + (md : Int) = (sm : Int) by omega, u_w32 _ (by omega)]
              have Y5 : min (sm : Int) 2139095040 = (z : Int) := by omega
              have E : Hid (res = z) := (show _ = _ by rw [E0, ez, esm, eus, eu, emd])
              clear hlow eu eus emd esm ez E0
              go_wp2_with (first
                | (go_at_call 105; refine HBI2.out.mono ?_; rintro e1 w1 ⟨rfl, rfl⟩)
                | (go_at_call 106; refine (HBE2.out _ (Drawn0.refl _)).mono ?_; rintro e1 w1 ⟨rfl, hdr⟩; have HB3 := Lib.hid (ujoin HB2.out hdr.below); clear hdr))
              go_ret
              exact ⟨ret_int (by first | (rw [E.out]; done) | (rw [E.out]; exact Y5)), by first | exact HB3.out | exact HB2.out⟩
          | false =>
            cases rs with
            | true =>
              obtain ⟨m0, em0⟩ : ∃ m, m = n0 + 1 := ⟨_, rfl⟩
              have HE : Hid (res = rRung 23 150 255 ((k : Int) - 245) m0) := (show _ = _ by rw [em0]; exact HX2.out true (by simp [hb1]))
              have WI : IntKind.u32.wrap ((n0 : Int) + 1) = (m0 : Int) := by rw [show (n0 : Int) + 1 = (m0 : Int) by omega, u_w32 _ (by omega)]
              have hm0 : m0 ≤ 16777216 := by omega
              clear em0
              clear hb1
              by_cases hlow : m0 < 8388608
              · have hlz : (m0 : Int) < 8388608 := by omega
                have E : Hid (res = m0) := (show _ = _ by rw [HE.out, rung_low hlow])
                clear hlow
                go_wp2_with (first
                  | (go_at_call 105; refine HBI2.out.mono ?_; rintro e1 w1 ⟨rfl, rfl⟩)
                  | (go_at_call 106; refine (HBE2.out _ (Drawn0.refl _)).mono ?_; rintro e1 w1 ⟨rfl, hdr⟩; have HB3 := Lib.hid (ujoin HB2.out hdr.below); clear hdr))
                go_ret
                exact ⟨ret_int (by rw [E.out]), by first | exact HB3.out | exact HB2.out⟩
              · have dlz : decide ((m0 : Int) < 8388608) = false := decide_eq_false (by omega)
                have dlz2 : decide (m0 < 8388608) = false := decide_eq_false hlow
                have E0 := HE.out
                rw [rung_high hk96 (by omega) (by omega)] at E0
                obtain ⟨u, eu⟩ : ∃ u, u = k - 95 := ⟨_, rfl⟩
                obtain ⟨us, eus⟩ : ∃ z, z = u * 8388608 := ⟨_, rfl⟩
                obtain ⟨md, emd⟩ : ∃ z, z = m0 - 8388608 := ⟨_, rfl⟩
                obtain ⟨sm, esm⟩ : ∃ z, z = us + md := ⟨_, rfl⟩
                obtain ⟨z, ez⟩ : ∃ z, z = min sm 2139095040 := ⟨_, rfl⟩
                have Y1 : IntKind.u32.wrap ((k : Int) - 245 + 150) = (u : Int) := by rw [show (k : Int) - 245 + 150 = (u : Int) by omega, u_w32 _ (by omega)]
                have Y2 : IntKind.u32.wrap ((u : Int) * 8388608) = (us : Int) := by rw [show (u : Int) * 8388608 = (us : Int) by omega, u_w32 _ (by omega)]
                have Y3 : IntKind.u32.wrap ((m0 : Int) - 8388608) = (md : Int) := by rw [show (m0 : Int) - 8388608 = (md : Int) by omega, u_w32 _ (by omega)]
                have Y4 : IntKind.u32.wrap ((us : Int) + (md : Int)) = (sm : Int) := by rw [show (us : Int) + (md : Int) = (sm : Int) by omega, u_w32 _ (by omega)]
                have Y5 : min (sm : Int) 2139095040 = (z : Int) := by omega
                have E : Hid (res = z) := (show _ = _ by rw [E0, ez, esm, eus, eu, emd])
                clear hlow eu eus emd esm ez E0
                go_wp2_with (first
                  | (go_at_call 105; refine HBI2.out.mono ?_; rintro e1 w1 ⟨rfl, rfl⟩)
                  | (go_at_call 106; refine (HBE2.out _ (Drawn0.refl _)).mono ?_; rintro e1 w1 ⟨rfl, hdr⟩; have HB3 := Lib.hid (ujoin HB2.out hdr.below); clear hdr))
                go_ret
                exact ⟨ret_int (by first | (rw [E.out]; done) | (rw [E.out]; exact Y5)), by first | exact HB3.out | exact HB2.out⟩
            | false =>
              by_cases hod1 : od = 1
              · have hob : ((od : Int) == 1) = true := by rw [hod1]; rfl
                obtain ⟨m0, em0⟩ : ∃ m, m = n0 + 1 := ⟨_, rfl⟩
                have HE : Hid (res = rRung 23 150 255 ((k : Int) - 245) m0) := (show _ = _ by rw [em0]; exact HX2.out true (by have := HOD.out; simp [hb1]; omega))
                have WI : IntKind.u32.wrap ((n0 : Int) + 1) = (m0 : Int) := by rw [show (n0 : Int) + 1 = (m0 : Int) by omega, u_w32 _ (by omega)]
                have hm0 : m0 ≤ 16777216 := by omega
                clear em0
                clear hb1 hod1
                by_cases hlow : m0 < 8388608
                · have hlz : (m0 : Int) < 8388608 := by omega
                  have E : Hid (res = m0) := (show _ = _ by rw [HE.out, rung_low hlow])
                  clear hlow
                  go_wp2_with (first
                    | (go_at_call 105; refine HBI2.out.mono ?_; rintro e1 w1 ⟨rfl, rfl⟩)
                    | (go_at_call 106; refine (HBE2.out _ (Drawn0.refl _)).mono ?_; rintro e1 w1 ⟨rfl, hdr⟩; have HB3 := Lib.hid (ujoin HB2.out hdr.below); clear hdr))
                  go_ret
                  exact ⟨ret_int (by rw [E.out]), by first | exact HB3.out | exact HB2.out⟩
                · have dlz : decide ((m0 : Int) < 8388608) = false := decide_eq_false (by omega)
                  have dlz2 : decide (m0 < 8388608) = false := decide_eq_false hlow
                  have E0 := HE.out
                  rw [rung_high hk96 (by omega) (by omega)] at E0
                  obtain ⟨u, eu⟩ : ∃ u, u = k - 95 := ⟨_, rfl⟩
                  obtain ⟨us, eus⟩ : ∃ z, z = u * 8388608 := ⟨_, rfl⟩
                  obtain ⟨md, emd⟩ : ∃ z, z = m0 - 8388608 := ⟨_, rfl⟩
                  obtain ⟨sm, esm⟩ : ∃ z, z = us + md := ⟨_, rfl⟩
                  obtain ⟨z, ez⟩ : ∃ z, z = min sm 2139095040 := ⟨_, rfl⟩
                  have Y1 : IntKind.u32.wrap ((k : Int) - 245 + 150) = (u : Int) := by rw [show (k : Int) - 245 + 150 = (u : Int) by omega, u_w32 _ (by omega)]
                  have Y2 : IntKind.u32.wrap ((u : Int) * 8388608) = (us : Int) := by rw [show (u : Int) * 8388608 = (us : Int) by omega, u_w32 _ (by omega)]
                  have Y3 : IntKind.u32.wrap ((m0 : Int) - 8388608) = (md : Int) := by rw [show (m0 : Int) - 8388608 = (md : Int) by omega, u_w32 _ (by omega)]
                  have Y4 : IntKind.u32.wrap ((us : Int) + (md : Int)) = (sm : Int) := by rw [show (us : Int) + (md : Int) = (sm : Int) by omega, u_w32 _ (by omega)]
                  have Y5 : min (sm : Int) 2139095040 = (z : Int) := by omega
                  have E : Hid (res = z) := (show _ = _ by rw [E0, ez, esm, eus, eu, emd])
                  clear hlow eu eus emd esm ez E0
                  go_wp2_with (first
                    | (go_at_call 105; refine HBI2.out.mono ?_; rintro e1 w1 ⟨rfl, rfl⟩)
                    | (go_at_call 106; refine (HBE2.out _ (Drawn0.refl _)).mono ?_; rintro e1 w1 ⟨rfl, hdr⟩; have HB3 := Lib.hid (ujoin HB2.out hdr.below); clear hdr))
                  go_ret
                  exact ⟨ret_int (by first | (rw [E.out]; done) | (rw [E.out]; exact Y5)), by first | exact HB3.out | exact HB2.out⟩
              · have hob : ((od : Int) == 1) = false := by rw [beq_eq_false_iff_ne]; omega
                have HE : Hid (res = rRung 23 150 255 ((k : Int) - 245) n0) := (show _ = _ from HX2.out false (by have := HOD.out; simp [hb1]; omega))
                clear hb1 hod1
                by_cases hlow : n0 < 8388608
                · have hlz : (n0 : Int) < 8388608 := by omega
                  have E : Hid (res = n0) := (show _ = _ by rw [HE.out, rung_low hlow])
                  clear hlow
                  go_wp2_with (first
                    | (go_at_call 105; refine HBI2.out.mono ?_; rintro e1 w1 ⟨rfl, rfl⟩)
                    | (go_at_call 106; refine (HBE2.out _ (Drawn0.refl _)).mono ?_; rintro e1 w1 ⟨rfl, hdr⟩; have HB3 := Lib.hid (ujoin HB2.out hdr.below); clear hdr))
                  go_ret
                  exact ⟨ret_int (by rw [E.out]), by first | exact HB3.out | exact HB2.out⟩
                · have dlz : decide ((n0 : Int) < 8388608) = false := decide_eq_false (by omega)
                  have dlz2 : decide (n0 < 8388608) = false := decide_eq_false hlow
                  have E0 := HE.out
                  rw [rung_high hk96 (by omega) (by omega)] at E0
                  obtain ⟨u, eu⟩ : ∃ u, u = k - 95 := ⟨_, rfl⟩
                  obtain ⟨us, eus⟩ : ∃ z, z = u * 8388608 := ⟨_, rfl⟩
                  obtain ⟨md, emd⟩ : ∃ z, z = n0 - 8388608 := ⟨_, rfl⟩
                  obtain ⟨sm, esm⟩ : ∃ z, z = us + md := ⟨_, rfl⟩
                  obtain ⟨z, ez⟩ : ∃ z, z = min sm 2139095040 := ⟨_, rfl⟩
                  have Y1 : IntKind.u32.wrap ((k : Int) - 245 + 150) = (u : Int) := by rw [show (k : Int) - 245 + 150 = (u : Int) by omega, u_w32 _ (by omega)]
                  have Y2 : IntKind.u32.wrap ((u : Int) * 8388608) = (us : Int) := by rw [show (u : Int) * 8388608 = (us : Int) by omega, u_w32 _ (by omega)]
                  have Y3 : IntKind.u32.wrap ((n0 : Int) - 8388608) = (md : Int) := by rw [show (n0 : Int) - 8388608 = (md : Int) by omega, u_w32 _ (by omega)]
                  have Y4 : IntKind.u32.wrap ((us : Int) + (md : Int)) = (sm : Int) := by rw [show (us : Int) + (md : Int) = (sm : Int) by omega, u_w32 _ (by omega)]
                  have Y5 : min (sm : Int) 2139095040 = (z : Int) := by omega
                  have E : Hid (res = z) := (show _ = _ by rw [E0, ez, esm, eus, eu, emd])
                  clear hlow eu eus emd esm ez E0
                  go_wp2_with (first
                    | (go_at_call 105; refine HBI2.out.mono ?_; rintro e1 w1 ⟨rfl, rfl⟩)
                    | (go_at_call 106; refine (HBE2.out _ (Drawn0.refl _)).mono ?_; rintro e1 w1 ⟨rfl, hdr⟩; have HB3 := Lib.hid (ujoin HB2.out hdr.below); clear hdr))
                  go_ret
                  exact ⟨ret_int (by first | (rw [E.out]; done) | (rw [E.out]; exact Y5)), by first | exact HB3.out | exact HB2.out⟩
        · have hbb : ((b : Int) == 1) = false := by rw [beq_eq_false_iff_ne]; omega
          have HE : Hid (res = rRung 23 150 255 ((k : Int) - 245) n0) := (show _ = _ from HX2.out false (by simp [hb1]))
          clear hb1
          by_cases hlow : n0 < 8388608
          · have hlz : (n0 : Int) < 8388608 := by omega
            have E : Hid (res = n0) := (show _ = _ by rw [HE.out, rung_low hlow])
            clear hlow
            go_wp2_with (first
              | (go_at_call 105; refine HBI2.out.mono ?_; rintro e1 w1 ⟨rfl, rfl⟩)
              | (go_at_call 106; refine (HBE2.out _ (Drawn0.refl _)).mono ?_; rintro e1 w1 ⟨rfl, hdr⟩; have HB3 := Lib.hid (ujoin HB2.out hdr.below); clear hdr))
            go_ret
            exact ⟨ret_int (by rw [E.out]), by first | exact HB3.out | exact HB2.out⟩
          · have dlz : decide ((n0 : Int) < 8388608) = false := decide_eq_false (by omega)
            have dlz2 : decide (n0 < 8388608) = false := decide_eq_false hlow
            have E0 := HE.out
            rw [rung_high hk96 (by omega) (by omega)] at E0
            obtain ⟨u, eu⟩ : ∃ u, u = k - 95 := ⟨_, rfl⟩
            obtain ⟨us, eus⟩ : ∃ z, z = u * 8388608 := ⟨_, rfl⟩
            obtain ⟨md, emd⟩ : ∃ z, z = n0 - 8388608 := ⟨_, rfl⟩
            obtain ⟨sm, esm⟩ : ∃ z, z = us + md := ⟨_, rfl⟩
            obtain ⟨z, ez⟩ : ∃ z, z = min sm 2139095040 := ⟨_, rfl⟩
            have Y1 : IntKind.u32.wrap ((k : Int) - 245 + 150) = (u : Int) := by rw [show (k : Int) - 245 + 150 = (u : Int) by omega, u_w32 _ (by omega)]
            have Y2 : IntKind.u32.wrap ((u : Int) * 8388608) = (us : Int) := by rw [show (u : Int) * 8388608 = (us : Int) by omega, u_w32 _ (by omega)]
            have Y3 : IntKind.u32.wrap ((n0 : Int) - 8388608) = (md : Int) := by rw [show (n0 : Int) - 8388608 = (md : Int) by omega, u_w32 _ (by omega)]
            have Y4 : IntKind.u32.wrap ((us : Int) + (md : Int)) = (sm : Int) := by rw [show (us : Int) + (md : Int) = (sm : Int) by omega, u_w32 _ (by omega)]
            have Y5 : min (sm : Int) 2139095040 = (z : Int) := by omega
            have E : Hid (res = z) := (show _ = _ by rw [E0, ez, esm, eus, eu, emd])
            clear hlow eu eus emd esm ez E0
            go_wp2_with (first
              | (go_at_call 105; refine HBI2.out.mono ?_; rintro e1 w1 ⟨rfl, rfl⟩)
              | (go_at_call 106; refine (HBE2.out _ (Drawn0.refl _)).mono ?_; rintro e1 w1 ⟨rfl, hdr⟩; have HB3 := Lib.hid (ujoin HB2.out hdr.below); clear hdr))
            go_ret
            exact ⟨ret_int (by first | (rw [E.out]; done) | (rw [E.out]; exact Y5)), by first | exact HB3.out | exact HB2.out⟩
      · obtain ⟨q, rfl⟩ : ∃ q, j = q + 1 := ⟨j - 1, by omega⟩
        have hq2 : ((q + 1 : Nat) : Int) - 1 = (q : Int) := by omega
        rw [hq2]
        have hq0 : (0 : Int) ≤ (q : Int) := by omega
        obtain ⟨i, ei⟩ : ∃ i, i = k + q := ⟨_, rfl⟩
        have hst := half_bit Q i
        rw [show i + 1 = k + (q + 1) by omega, ← HN.out] at hst
        have HBI2 := Lib.hid (HBI.out wr _ HRW2.out i (by omega))
        obtain ⟨b, eb⟩ : ∃ b, b = Q / 2 ^ i % 2 := ⟨_, rfl⟩
        have hb2 : b ≤ 1 := by omega
        rw [← eb] at hst HBI2
        have hn0 : n0 < 2147483648 := by
          have h1 : Q < 2 ^ (k + 24) := Nat.lt_of_lt_of_le hQB.out (Nat.pow_le_pow_right (by decide) (by omega))
          rw [HN.out]
          refine Nat.lt_of_lt_of_le ((Nat.div_lt_iff_lt_mul (Nat.two_pow_pos _)).2 (?_ : Q < 16777216 * 2 ^ (k + (q + 1)))) (by decide)
          refine Nat.lt_of_lt_of_le h1 ?_
          rw [show (16777216 : Nat) = 2 ^ 24 by decide, ← Nat.pow_add]
          exact Nat.pow_le_pow_right (by decide) (by omega)
        obtain ⟨n2, e2⟩ : ∃ z, z = 2 * n0 := ⟨_, rfl⟩
        obtain ⟨n3, e3⟩ : ∃ z, z = n2 + b := ⟨_, rfl⟩
        have hor := u_or32 n0 b hn0 hb2
        rw [← e2, ← e3] at hor
        have W1 : IntKind.u32.wrap ((n0 : Int) * 2) = (n2 : Int) := by rw [show (n0 : Int) * 2 = (n2 : Int) by omega, u_w32 _ (by omega)]
        have W2 : IntKind.i64.wrap ((k : Int) + (q : Int)) = (i : Int) := by rw [IntWalk.i64_in _ (by omega)]; omega
        have HN2 : Hid (n3 = Q / 2 ^ (k + q)) := (show _ = _ by rw [← ei]; omega)
        clear hst HN ei eb e2 e3 hn0 hq2 HES2 HBI HBE
        go_wp2_with (go_at_call 105; refine HBI2.out.mono ?_; rintro e1 w1 ⟨rfl, rfl⟩)
        go_roundg q
        case measure => omega
        case rel => exact ⟨q, n3, by go_num, rfl, by omega, by omega, HN2, rfl⟩
end Go.Proofs.Ytmeifciagepmpaa
