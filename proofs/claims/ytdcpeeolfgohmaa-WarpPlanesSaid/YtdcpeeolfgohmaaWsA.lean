/- halideref28's floor, wrong, put; halideref5.Border; halidehelp.Size: the walks. -/
import Derived.Test.YtdcpeeolfgohmaaWmT
import Derived.Test.YtdcpeeolfgohmaaWmRS
namespace Go.Proofs.Ytdcpeeolfgohmaa
open Go.RowKit Go.Proofs.YtdcpeeolfgohmaaW.PrintWords
set_option linter.unusedSimpArgs false
set_option linter.unusedVariables false
attribute [local go_sem] Oper.semAt_some

theorem floor_div (n q : Int) (hq : 0 < q) : n / q = if n.tmod q < 0 then n.tdiv q - 1 else n.tdiv q := by
  have h1 := Int.mul_tdiv_add_tmod n q
  have h2 := Int.mul_ediv_add_emod n q
  have h3 := Int.emod_nonneg n (show q ≠ 0 by omega)
  have h4 := Int.emod_lt_of_pos n hq
  obtain ⟨b1, b2⟩ := tmod_bd n q hq
  split
  · rename_i h
    have h5 : n.tmod q + q = n % q := by
      have := tmod_rest n q hq
      rw [Int.tmod_eq_emod_of_nonneg (by omega), Int.emod_eq_of_lt (by omega) (by omega)] at this
      exact this
    have : q * (n / q) = q * (n.tdiv q - 1) := by rw [Int.mul_sub]; omega
    exact Int.eq_of_mul_eq_mul_left (by omega) this
  · rename_i h
    have h5 : n.tmod q = n % q := by
      have := tmod_rest n q hq
      rw [Int.tmod_eq_emod_of_nonneg (by omega), Int.add_emod_right, Int.emod_eq_of_lt (by omega) (by omega)] at this
      exact this
    have : q * (n / q) = q * n.tdiv q := by omega
    exact Int.eq_of_mul_eq_mul_left (by omega) this
set_option maxHeartbeats 1600000 in
set_option maxRecDepth 100000 in
theorem floor_calls (w : World) (n q : Int) (hn : -1152921504606846976 ≤ n ∧ n ≤ 1152921504606846976) (hq : 0 < q) (hq2 : q ≤ 1000000000) :
    Calls Try.prog 99 #[.int .i64 n, .int .i64 q] w fun e w' => e = .returned (.int .i64 (n / q)) ∧ w = w' := by
  have hq0 : q ≠ 0 := by omega
  have h0 : (q == 0) = false := by rw [beq_eq_false_iff_ne]; omega
  have HF := Lib.hid (floor_div n q hq)
  obtain ⟨b1, b2⟩ := tmod_bd n q hq
  have g : (n.tdiv q).natAbs ≤ n.natAbs := by rw [Int.natAbs_tdiv]; exact Nat.div_le_self _ _
  obtain ⟨d, ed⟩ : ∃ d, d = n / q := ⟨_, rfl⟩
  obtain ⟨t, et⟩ : ∃ t, t = n.tmod q := ⟨_, rfl⟩
  obtain ⟨u, eu⟩ : ∃ u, u = n.tdiv q := ⟨_, rfl⟩
  rw [← ed, ← et, ← eu] at HF
  rw [← ed]
  rw [← et] at b1 b2
  rw [← eu] at g
  have TM : n.tmod q = t := et.symm
  have TD : n.tdiv q = u := eu.symm
  have W1 : IntKind.i64.wrap t = t := IntWalk.i64_in _ (by omega)
  have W2 : IntKind.i64.wrap u = u := IntWalk.i64_in _ (by omega)
  have W3 : IntKind.i64.wrap (u - 1) = u - 1 := IntWalk.i64_in _ (by omega)
  clear ed et eu
  by_cases h : t < 0
  · have HV : Hid (u - 1 = d) := (show _ = _ from by rw [HF.out, if_pos h])
    clear HF
    go_enter Try.func99, Try.ntmps99
    go_wp2
    go_ret
    exact ⟨wret HV.out, rfl⟩
  · have HV : Hid (u = d) := (show _ = _ from by rw [HF.out, if_neg h])
    clear HF
    go_enter Try.func99, Try.ntmps99
    go_wp2
    go_ret
    exact ⟨wret HV.out, rfl⟩

set_option maxHeartbeats 1600000 in
set_option maxRecDepth 100000 in
theorem rsize_calls (w : World) (a b : Int) : Calls Try.prog 69 #[.int .i64 a, .int .i64 b] w fun e w' => e = .returned (.bool (sizeB a b)) ∧ w = w' := by
  by_cases h1 : 1 ≤ a
  · by_cases h3 : 1 ≤ b
    · by_cases h2 : a ≤ 1024
      · by_cases h4 : b ≤ 1024
        · obtain ⟨p, ep, M, bp⟩ := mulp a b (by omega) (by omega)
          by_cases h5 : p ≤ 65536
          · have HF : Hid (sizeB a b = true) := (show _ = _ from decide_eq_true ⟨h1, h2, h3, h4, by rw [ep]; exact h5⟩)
            clear ep
            go_enter Try.func69, Try.ntmps69
            go_wp2
            go_ret
            exact ⟨by rw [HF.out]; rfl, rfl⟩
          · have HF : Hid (sizeB a b = false) := (show _ = _ from decide_eq_false (fun h => by rw [ep] at h; omega))
            clear ep
            go_enter Try.func69, Try.ntmps69
            go_wp2
            go_ret
            exact ⟨by rw [HF.out]; rfl, rfl⟩
        · have HF : Hid (sizeB a b = false) := (show _ = _ from decide_eq_false (fun h => by omega))
          go_enter Try.func69, Try.ntmps69
          go_wp2
          go_ret
          exact ⟨by rw [HF.out]; rfl, rfl⟩
      · have HF : Hid (sizeB a b = false) := (show _ = _ from decide_eq_false (fun h => by omega))
        go_enter Try.func69, Try.ntmps69
        go_wp2
        go_ret
        exact ⟨by rw [HF.out]; rfl, rfl⟩
    · have HF : Hid (sizeB a b = false) := (show _ = _ from decide_eq_false (fun h => by omega))
      go_enter Try.func69, Try.ntmps69
      go_wp2
      go_ret
      exact ⟨by rw [HF.out]; rfl, rfl⟩
  · have HF : Hid (sizeB a b = false) := (show _ = _ from decide_eq_false (fun h => by omega))
    go_enter Try.func69, Try.ntmps69
    go_wp2
    go_ret
    exact ⟨by rw [HF.out]; rfl, rfl⟩

set_option maxHeartbeats 3200000 in
set_option maxRecDepth 100000 in
theorem rborder_calls (w : World) (kind n i : Int) (hi : -4611686018427387904 ≤ i ∧ i ≤ 4611686018427387904) :
    Calls Try.prog 97 #[.int .i64 kind, .int .i64 n, .int .i64 i] w fun e w' => e = .returned (borderP kind n i) ∧ w = w' := by
  by_cases k1 : kind < 1 ∨ 3 < kind
  · have HE : Hid (borderP kind n i = .tuple #[.int .i64 0, .int .i64 53]) := (show _ = _ from by unfold borderP borderE; simp only [if_pos k1]; rfl)
    have e1 : (kind != 1) = true := by rw [bne_iff_ne]; omega
    have e2 : (kind != 2) = true := by rw [bne_iff_ne]; omega
    have e3 : (kind != 3) = true := by rw [bne_iff_ne]; omega
    clear k1
    go_enter Try.func97, Try.ntmps97
    go_wp2
    go_ret2
    exact ⟨by rw [HE.out]; rfl, rfl⟩
  · by_cases n1 : n < 1 ∨ 1024 < n
    · have HE : Hid (borderP kind n i = .tuple #[.int .i64 0, .int .i64 50]) := (show _ = _ from by unfold borderP borderE; simp only [if_neg k1, if_pos n1]; rfl)
      rcases (show kind = 1 ∨ kind = 3 ∨ kind = 2 by omega) with rfl | rfl | rfl
      all_goals
        clear k1
        rcases n1 with n1 | n1
        · go_enter Try.func97, Try.ntmps97
          go_wp2
          go_ret2
          exact ⟨by rw [HE.out]; rfl, rfl⟩
        · have n2 : ¬ n < 1 := by omega
          go_enter Try.func97, Try.ntmps97
          go_wp2
          go_ret2
          exact ⟨by rw [HE.out]; rfl, rfl⟩
    · have n2 : ¬ n < 1 := by omega
      have n3 : ¬ 1024 < n := by omega
      have HE : Hid (borderP kind n i = .tuple #[.int .i64 (borderV kind n i), .int .i64 0]) := (show _ = _ from by unfold borderP borderE; simp only [if_neg k1, if_neg n1]; rfl)
      have W1 : IntKind.i64.wrap (n - 1) = n - 1 := IntWalk.i64_in _ (by omega)
      rcases (show kind = 1 ∨ kind = 3 ∨ kind = 2 by omega) with rfl | rfl | rfl
      · have HV : Hid (borderV 1 n i = min (max i 0) (n - 1)) := (show _ = _ from rfl)
        clear k1 n1
        rcases Int.lt_or_le i 0 with h1 | h1
        · go_enter Try.func97, Try.ntmps97
          go_wp2
          all_goals
            go_ret2
            exact ⟨wret2 (by rw [HE.out, HV.out]) (by omega), rfl⟩
        · rcases Int.lt_or_le (n - 1) i with h2 | h2
          · go_enter Try.func97, Try.ntmps97
            go_wp2
            all_goals
              go_ret2
              exact ⟨wret2 (by rw [HE.out, HV.out]) (by omega), rfl⟩
          · go_enter Try.func97, Try.ntmps97
            go_wp2
            all_goals
              go_ret2
              exact ⟨wret2 (by rw [HE.out, HV.out]) (by omega), rfl⟩
      · have HV : Hid (borderV 3 n i = i % n) := (show _ = _ from rfl)
        have h0 : (n == 0) = false := by rw [beq_eq_false_iff_ne]; omega
        have hn0 : n ≠ 0 := by omega
        obtain ⟨b1, b2⟩ := tmod_bd i n (by omega)
        have TM2 := tmod_rest i n (by omega)
        have c1 := Int.emod_nonneg i hn0
        have c2 := Int.emod_lt_of_pos i (show 0 < n by omega)
        obtain ⟨r, er⟩ : ∃ r, r = i % n := ⟨_, rfl⟩
        obtain ⟨t, et⟩ : ∃ t, t = i.tmod n := ⟨_, rfl⟩
        rw [← er] at TM2 c1 c2 HV
        rw [← et] at TM2 b1 b2
        have TM : i.tmod n = t := et.symm
        have W2 : IntKind.i64.wrap t = t := IntWalk.i64_in _ (by omega)
        have W3 : IntKind.i64.wrap (t + n) = t + n := IntWalk.i64_in _ (by omega)
        have W4 : IntKind.i64.wrap r = r := IntWalk.i64_in _ (by omega)
        clear er et k1 n1
        go_enter Try.func97, Try.ntmps97
        go_wp2
        go_ret2
        exact ⟨wret2 (by rw [HE.out, HV.out]) rfl, rfl⟩
      · by_cases h1 : n = 1
        · have HV : Hid (borderV 2 n i = 0) := (show _ = _ from by unfold borderV; rw [if_neg (by decide), if_neg (by decide), if_pos h1])
          have hz : (n == 1) = true := by rw [h1]; rfl
          clear k1 n1 h1
          go_enter Try.func97, Try.ntmps97
          go_wp2
          go_ret2
          exact ⟨wret2 (by rw [HE.out, HV.out]) rfl, rfl⟩
        · have HV : Hid (borderV 2 n i = min (i % (2 * (n - 1))) (2 * (n - 1) - i % (2 * (n - 1)))) := (show _ = _ from by unfold borderV; rw [if_neg (by decide), if_neg (by decide), if_neg h1])
          have hz : (n == 1) = false := by rw [beq_eq_false_iff_ne]; exact h1
          obtain ⟨m, em⟩ : ∃ m, m = 2 * (n - 1) := ⟨_, rfl⟩
          have W2 : IntKind.i64.wrap (2 * (n - 1)) = m := by rw [em]; exact IntWalk.i64_in _ (by omega)
          rw [← em] at HV
          have EM := Lib.hid em
          have hm : 2 ≤ m ∧ m ≤ 2046 ∧ m = 2 * n - 2 := by omega
          have h0 : (m == 0) = false := by rw [beq_eq_false_iff_ne]; omega
          have hm0 : m ≠ 0 := by omega
          obtain ⟨b1, b2⟩ := tmod_bd i m (by omega)
          have TM2 := tmod_rest i m (by omega)
          have c1 := Int.emod_nonneg i hm0
          have c2 := Int.emod_lt_of_pos i (show 0 < m by omega)
          obtain ⟨r, er⟩ : ∃ r, r = i % m := ⟨_, rfl⟩
          obtain ⟨t, et⟩ : ∃ t, t = i.tmod m := ⟨_, rfl⟩
          rw [← er] at TM2 c1 c2 HV
          rw [← et] at TM2 b1 b2
          have TM : i.tmod m = t := et.symm
          obtain ⟨hm1, hm2, hm3⟩ := hm
          have HM3 := Lib.hid hm3
          have W3 : IntKind.i64.wrap t = t := IntWalk.i64_in _ (by omega)
          have W4 : IntKind.i64.wrap (t + m) = t + m := IntWalk.i64_in _ (by omega)
          have W5 : IntKind.i64.wrap r = r := IntWalk.i64_in _ (by omega)
          have W6 : IntKind.i64.wrap (m - r) = m - r := IntWalk.i64_in _ (by omega)
          by_cases h2 : r < n
          · have HW : Hid (r = min r (m - r)) := (show _ = _ from by omega)
            clear er et em k1 n1 h1 hm3
            go_enter Try.func97, Try.ntmps97
            go_wp2
            go_ret2
            exact ⟨wret2 (by rw [HE.out, HV.out]) HW.out, rfl⟩
          · have HW : Hid (m - r = min r (m - r)) := (show _ = _ from by omega)
            clear er et em k1 n1 h1 hm3
            go_enter Try.func97, Try.ntmps97
            go_wp2
            go_ret2
            exact ⟨wret2 (by rw [HE.out, HV.out]) HW.out, rfl⟩

set_option maxHeartbeats 3200000 in
set_option maxRecDepth 100000 in
theorem put_calls (w : World) (border pw' ph i j n : Int) (h1 : borderE border pw' = 0) (h2 : borderE border ph = 0) (hi : -4611686018427387904 ≤ i ∧ i ≤ 4611686018427387904) (hj : -4611686018427387904 ≤ j ∧ j ≤ 4611686018427387904) :
    Calls Try.prog 98 #[.int .i64 border, .int .i64 pw', .int .i64 ph, .int .i64 i, .int .i64 j, .int .i64 n] w fun e w' => WGives w (.agg #[.int .i64 (borderV border pw' i), .int .i64 (borderV border ph j), .int .i64 n]) e w' := by
  have H1 : Hid (∀ W, Calls Try.prog 97 #[.int .i64 border, .int .i64 pw', .int .i64 i] W fun e w' => e = .returned (.tuple #[.int .i64 (borderV border pw' i), .int .i64 0]) ∧ W = w') := (show ∀ W, _ from fun W => (rborder_calls W border pw' i hi).mono fun e w' h => ⟨by rw [h.1]; unfold borderP; rw [h1]; rfl, h.2⟩)
  have H2 : Hid (∀ W, Calls Try.prog 97 #[.int .i64 border, .int .i64 ph, .int .i64 j] W fun e w' => e = .returned (.tuple #[.int .i64 (borderV border ph j), .int .i64 0]) ∧ W = w') := (show ∀ W, _ from fun W => (rborder_calls W border ph j hj).mono fun e w' h => ⟨by rw [h.1]; unfold borderP; rw [h2]; rfl, h.2⟩)
  obtain ⟨a, ea⟩ : ∃ a, a = borderV border pw' i := ⟨_, rfl⟩
  obtain ⟨b, eb⟩ : ∃ a, a = borderV border ph j := ⟨_, rfl⟩
  rw [← ea] at H1 ⊢
  rw [← eb] at H2 ⊢
  clear ea eb h1 h2
  unfold WGives
  go_enter Try.func98, Try.ntmps98
  go_wp2_with (first
    | (go_at_call 97; (with_reducible refine (H1.out _).mono ?_); rintro e1 w1 ⟨rfl, rfl⟩)
    | (go_at_call 97; (with_reducible refine (H2.out _).mono ?_); rintro e1 w1 ⟨rfl, rfl⟩))
  refine bodyPost_ret (results_cell_row rfl _ _ w.heap.size 51 _ (0, 0) _ rfl (heap_alloc_new w _) Try.underlying51 rfl (by kernel_rfl)) rfl ?_
  exact ⟨rfl, (Below.refl _ _).alloc (Nat.le_refl _) _⟩
set_option maxHeartbeats 3200000 in
set_option maxRecDepth 100000 in
theorem wrong_calls (w : World) (kind border : Int) (t : Wp) (pw' ph : Int) :
    Calls Try.prog 64 #[.int .i64 kind, .int .i64 border, wpV t, .int .i64 pw', .int .i64 ph] w fun e w' => WGives w (.int .i64 (rightE kind border t pw' ph)) e w' := by
  have HC : Hid (∀ W, Calls Try.prog 20 #[.agg #[.int .i64 t.A, .int .i64 t.B, .int .i64 t.C, .int .i64 t.D, .int .i64 t.E, .int .i64 t.F, .int .i64 t.Q]] W fun e w' => e = .returned (.int .i64 (wpErr t)) ∧ Below W.heap.size W w') := (show ∀ W, _ from fun W => rCheck_calls W t)
  have HBD := Lib.hid fun W => rborder_calls W border 1 0 (by decide)
  have HS := Lib.hid fun W => rsize_calls W pw' ph
  have hb0 : Hid (Below w.heap.size w (w.alloc (.cells #[.int .i64 t.A, .int .i64 t.B, .int .i64 t.C, .int .i64 t.D, .int .i64 t.E, .int .i64 t.F, .int .i64 t.Q] 32))) := (show Below _ _ _ from (Below.refl _ _).alloc (Nat.le_refl _) _)
  unfold wpV wpC WGives
  cases hok : wpOk t with
  | false =>
    rw [wpErr_not hok] at HC
    have HF : Hid (rightE kind border t pw' ph = 280) := (show _ = _ from if_pos hok)
    clear hok
    go_enter Try.func64, Try.ntmps64
    go_wp2_with (go_at_call 20; refine (HC.out _).mono ?_; rintro e1 w1 ⟨rfl, hb⟩; have HB1 := Lib.hid (ujoin hb0.out hb); clear hb)
    go_ret
    exact ⟨wret HF.out.symm, HB1.out⟩
  | true =>
    rw [wpErr_ok hok] at HC
    have hok2 : ¬ (wpOk t = false) := by rw [hok]; decide
    by_cases hk : kind = 1 ∨ kind = 2
    · by_cases hbd : borderE border 1 = 0
      · have HB2 : Hid (∀ W, Calls Try.prog 97 #[.int .i64 border, .int .i64 1, .int .i64 0] W fun e w' => e = .returned (.tuple #[.int .i64 (borderV border 1 0), .int .i64 0]) ∧ W = w') := (show ∀ W, _ from fun W => (HBD.out W).mono fun e w' h => ⟨by rw [h.1]; unfold borderP; rw [hbd]; rfl, h.2⟩)
        have HF : Hid (rightE kind border t pw' ph = if sizeB pw' ph = false then 282 else 0) := (show _ = _ from by unfold rightE; rw [if_neg hok2, if_neg (fun h => h hk), if_neg (fun h => h hbd)])
        obtain ⟨v0, ev0⟩ : ∃ v, v = borderV border 1 0 := ⟨_, rfl⟩
        rw [← ev0] at HB2
        clear hok hok2 hbd HBD ev0
        cases hs : sizeB pw' ph with
        | false =>
          rw [hs] at HS HF
          clear hs
          rcases hk with rfl | rfl
          all_goals
            go_enter Try.func64, Try.ntmps64
            go_wp2_with (first
              | (go_at_call 20; refine (HC.out _).mono ?_; rintro e1 w1 ⟨rfl, hb⟩; have HB1 := Lib.hid (ujoin hb0.out hb); clear hb)
              | (go_at_call 97; refine (HB2.out _).mono ?_; rintro e1 w2 ⟨rfl, rfl⟩)
              | (go_at_call 69; refine (HS.out _).mono ?_; rintro e1 w2 ⟨rfl, rfl⟩))
            go_ret
            exact ⟨wret HF.out.symm, HB1.out⟩
        | true =>
          rw [hs] at HS HF
          clear hs
          rcases hk with rfl | rfl
          all_goals
            go_enter Try.func64, Try.ntmps64
            go_wp2_with (first
              | (go_at_call 20; refine (HC.out _).mono ?_; rintro e1 w1 ⟨rfl, hb⟩; have HB1 := Lib.hid (ujoin hb0.out hb); clear hb)
              | (go_at_call 97; refine (HB2.out _).mono ?_; rintro e1 w2 ⟨rfl, rfl⟩)
              | (go_at_call 69; refine (HS.out _).mono ?_; rintro e1 w2 ⟨rfl, rfl⟩))
            go_ret
            exact ⟨wret HF.out.symm, HB1.out⟩
      · have HB2 : Hid (∀ W, Calls Try.prog 97 #[.int .i64 border, .int .i64 1, .int .i64 0] W fun e w' => e = .returned (.tuple #[.int .i64 0, .int .i64 (borderE border 1)]) ∧ W = w') := (show ∀ W, _ from fun W => (HBD.out W).mono fun e w' h => ⟨by rw [h.1]; unfold borderP; rw [if_neg hbd], h.2⟩)
        have HF : Hid (rightE kind border t pw' ph = borderE border 1) := (show _ = _ from by unfold rightE; rw [if_neg hok2, if_neg (fun h => h hk), if_pos hbd])
        have hz : (borderE border 1 != 0) = true := by rw [bne_iff_ne]; exact hbd
        obtain ⟨v0, ev0⟩ : ∃ v, v = borderE border 1 := ⟨_, rfl⟩
        rw [← ev0] at HB2 HF hz
        clear hok hok2 hbd HBD ev0
        rcases hk with rfl | rfl
        all_goals
          go_enter Try.func64, Try.ntmps64
          go_wp2_with (first
            | (go_at_call 20; refine (HC.out _).mono ?_; rintro e1 w1 ⟨rfl, hb⟩; have HB1 := Lib.hid (ujoin hb0.out hb); clear hb)
            | (go_at_call 97; refine (HB2.out _).mono ?_; rintro e1 w2 ⟨rfl, rfl⟩))
          go_ret
          exact ⟨wret HF.out.symm, HB1.out⟩
    · have HF : Hid (rightE kind border t pw' ph = 281) := (show _ = _ from by unfold rightE; rw [if_neg hok2, if_pos hk])
      by_cases k1 : kind < 1
      · clear hok hok2 hk HBD HS
        go_enter Try.func64, Try.ntmps64
        go_wp2_with (go_at_call 20; refine (HC.out _).mono ?_; rintro e1 w1 ⟨rfl, hb⟩; have HB1 := Lib.hid (ujoin hb0.out hb); clear hb)
        go_ret
        exact ⟨wret HF.out.symm, HB1.out⟩
      · have k2 : 2 < kind := by omega
        clear hok hok2 hk HBD HS
        go_enter Try.func64, Try.ntmps64
        go_wp2_with (go_at_call 20; refine (HC.out _).mono ?_; rintro e1 w1 ⟨rfl, hb⟩; have HB1 := Lib.hid (ujoin hb0.out hb); clear hb)
        go_ret
        exact ⟨wret HF.out.symm, HB1.out⟩
end Go.Proofs.Ytdcpeeolfgohmaa
