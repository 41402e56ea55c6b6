/- halideref28's Check, common, lowest, told, Normal, Then, Back: the walks. halideref28's Back, Then: the walks. -/
import Derived.Test.YtdcpeeolfgohmaaWmAC
import Derived.Deep.QuietTactic
namespace Go.Proofs.Ytdcpeeolfgohmaa
open Go.RowKit Go.Proofs.YtdcpeeolfgohmaaW.PrintWords
set_option linter.unusedSimpArgs false
set_option linter.unusedVariables false

set_option maxHeartbeats 1600000 in
set_option maxRecDepth 100000 in
theorem rcommon_calls (w : World) (a b : Int) (ha : -2305843009213693952 ≤ a ∧ a ≤ 2305843009213693952) (hb : -2305843009213693952 ≤ b ∧ b ≤ 2305843009213693952) :
    Calls Try.prog 96 #[.int .i64 a, .int .i64 b] w fun e w' => e = .returned (.int .i64 ((Int.gcd a b : Nat) : Int)) ∧ Drawn0 w w' := by
  obtain ⟨g, eg⟩ : ∃ g, g = Int.gcd a b := ⟨_, rfl⟩
  rw [← eg]
  have E1 : Hid (g = Int.gcd a b ∧ g = Int.gcd (-a) b ∧ g = Int.gcd a (-b) ∧ g = Int.gcd (-a) (-b)) := (show _ ∧ _ ∧ _ ∧ _ from by
    rw [eg]; unfold Int.gcd; simp only [Int.natAbs_neg]; exact ⟨trivial, trivial, trivial, trivial⟩)
  clear eg
  have W1 : IntKind.i64.wrap (-a) = -a := IntWalk.i64_in _ (by omega)
  have W2 : IntKind.i64.wrap (-b) = -b := IntWalk.i64_in _ (by omega)
  rcases Int.lt_or_le a 0 with ha' | ha' <;> rcases Int.lt_or_le b 0 with hb' | hb'
  all_goals
    go_enter Try.func96, Try.ntmps96
    go_wp2
    go_loopg [0, 1] b.natAbs (fun kq v0 v1 wr => ∃ x y : Int, v0 = .int .i64 x ∧ v1 = .int .i64 y ∧ Hid (g = Int.gcd x y) ∧ y.natAbs ≤ kq ∧ (0 ≤ x ∧ x ≤ 2305843009213693952) ∧ (0 ≤ y ∧ y ≤ 2305843009213693952) ∧ Aside (Drawn0 w wr))
    case atStart => exact ⟨_, _, rfl, rfl, by first | exact E1.out.1 | exact E1.out.2.1 | exact E1.out.2.2.1 | exact E1.out.2.2.2, by omega, by omega, by omega, Drawn0.refl _⟩
    case round =>
      obtain ⟨x, y, rfl, rfl, HG, hk, hx, hy, HD⟩ := hrel
      clear E1 W1 W2 ha hb ha' hb'
      by_cases h : y = 0
      · have hz : (y != 0) = false := by rw [h]; rfl
        have E : Hid (x = (g : Int)) := (show _ = _ by rw [HG.out, h]; unfold Int.gcd; rw [Int.natAbs_zero, Nat.gcd_zero_right]; omega)
        clear h hk hy HG
        go_wp2
        go_ret
        exact ⟨wret E.out, HD.out⟩
      · have hz : (y != 0) = true := by rw [bne_iff_ne]; exact h
        have hz2 : (y == 0) = false := by rw [beq_eq_false_iff_ne]; exact h
        have hr := tmod_small x y h
        have hr0 := Int.tmod_nonneg y hx.1
        obtain ⟨r, er⟩ : ∃ r, r = x.tmod y := ⟨_, rfl⟩
        have TM : x.tmod y = r := er.symm
        have HG2 : Hid (g = Int.gcd y r) := (show _ = _ by rw [HG.out, ← gcd_step x y h, ← er])
        rw [← er] at hr hr0
        have hrb : 0 ≤ r ∧ r ≤ 2305843009213693952 := by omega
        have W1 : IntKind.i64.wrap r = r := IntWalk.i64_in _ (by omega)
        clear er HG h hr0
        go_wp2
        go_quiet (fail)
        go_wp2
        go_roundg r.natAbs
        case measure => omega
        case rel => exact ⟨y, r, rfl, rfl, HG2.out, Nat.le_refl _, hy, hrb, by first | exact HD.out.step _ | exact HD.out⟩

def fitB (x : Int) : Bool := decide (-16777216 ≤ x ∧ x ≤ 16777216)
set_option maxRecDepth 100000 in
theorem fits_calls (w : World) (x : Int) : Calls Try.prog 61 #[.int .i64 x] w fun e w' => e = .returned (.bool (fitB x)) ∧ w = w' := by
  by_cases h1 : -16777216 ≤ x
  · by_cases h2 : x ≤ 16777216
    · have HF : Hid (fitB x = true) := (show _ = _ from decide_eq_true ⟨h1, h2⟩)
      go_enter Try.func61, Try.ntmps61
      go_wp2
      go_ret
      exact ⟨by rw [HF.out]; rfl, rfl⟩
    · have HF : Hid (fitB x = false) := (show _ = _ from decide_eq_false (fun h => h2 h.2))
      go_enter Try.func61, Try.ntmps61
      go_wp2
      go_ret
      exact ⟨by rw [HF.out]; rfl, rfl⟩
  · have HF : Hid (fitB x = false) := (show _ = _ from decide_eq_false (fun h => h1 h.1))
    go_enter Try.func61, Try.ntmps61
    go_wp2
    go_ret
    exact ⟨by rw [HF.out]; rfl, rfl⟩
theorem wpOk_of {t : Wp} (hq : 1 ≤ t.Q ∧ t.Q ≤ 4096) (hA : fitB t.A = true) (hB : fitB t.B = true) (hC : fitB t.C = true) (hD : fitB t.D = true) (hE : fitB t.E = true) (hF : fitB t.F = true) : wpOk t = true := by
  unfold wpOk
  rw [decide_eq_true hq, Bool.true_and, List.all_eq_true]
  intro k hk
  rw [List.mem_range] at hk
  have hQ : fitB t.Q = true := decide_eq_true (by omega)
  rcases (show k = 0 ∨ k = 1 ∨ k = 2 ∨ k = 3 ∨ k = 4 ∨ k = 5 ∨ k = 6 by omega) with rfl | rfl | rfl | rfl | rfl | rfl | rfl
  · exact hA
  · exact hB
  · exact hC
  · exact hD
  · exact hE
  · exact hF
  · exact hQ
theorem fit_of {t : Wp} (h : wpOk t = true) : fitB t.A = true ∧ fitB t.B = true ∧ fitB t.C = true ∧ fitB t.D = true ∧ fitB t.E = true ∧ fitB t.F = true := by
  obtain ⟨⟨hA, hB, hC, hD, hE, hF, hQ⟩, -, -⟩ := wpOk_in h
  exact ⟨decide_eq_true hA, decide_eq_true hB, decide_eq_true hC, decide_eq_true hD, decide_eq_true hE, decide_eq_true hF⟩

set_option maxHeartbeats 3200000 in
set_option maxRecDepth 100000 in
theorem rCheck_calls (w : World) (t : Wp) : Calls Try.prog 20 #[wpV t] w fun e w' => WGives w (.int .i64 (wpErr t)) e w' := by
  have hb0 : Hid (Below w.heap.size w (w.alloc (.cells #[.int .i64 t.A, .int .i64 t.B, .int .i64 t.C, .int .i64 t.D, .int .i64 t.E, .int .i64 t.F, .int .i64 t.Q] 32))) := (show Below _ _ _ from (Below.refl _ _).alloc (Nat.le_refl _) _)
  have HA := Lib.hid fun W => fits_calls W t.A
  have HB := Lib.hid fun W => fits_calls W t.B
  have HC := Lib.hid fun W => fits_calls W t.C
  have HD := Lib.hid fun W => fits_calls W t.D
  have HE := Lib.hid fun W => fits_calls W t.E
  have HF := Lib.hid fun W => fits_calls W t.F
  unfold WGives wpV wpC
  by_cases q1 : t.Q < 1
  · as_aux_lemma =>
    have HX : Hid (wpErr t = 280) := (show _ = _ from wpErr_not (by cases h : wpOk t with | false => rfl | true => have := (wpOk_in h).2; omega))
    go_enter Try.func20, Try.ntmps20
    go_wp2_with (first
        | (go_at_call 61; with_reducible refine (HA.out _).mono ?_; rintro e1 w1 ⟨rfl, rfl⟩)
        | (go_at_call 61; with_reducible refine (HB.out _).mono ?_; rintro e1 w1 ⟨rfl, rfl⟩)
        | (go_at_call 61; with_reducible refine (HC.out _).mono ?_; rintro e1 w1 ⟨rfl, rfl⟩)
        | (go_at_call 61; with_reducible refine (HD.out _).mono ?_; rintro e1 w1 ⟨rfl, rfl⟩)
        | (go_at_call 61; with_reducible refine (HE.out _).mono ?_; rintro e1 w1 ⟨rfl, rfl⟩)
        | (go_at_call 61; with_reducible refine (HF.out _).mono ?_; rintro e1 w1 ⟨rfl, rfl⟩))
    go_ret
    exact ⟨wret HX.out.symm, hb0.out⟩
  · by_cases q2 : 4096 < t.Q
    · as_aux_lemma =>
      have HX : Hid (wpErr t = 280) := (show _ = _ from wpErr_not (by cases h : wpOk t with | false => rfl | true => have := (wpOk_in h).2; omega))
      go_enter Try.func20, Try.ntmps20
      go_wp2_with (first
          | (go_at_call 61; with_reducible refine (HA.out _).mono ?_; rintro e1 w1 ⟨rfl, rfl⟩)
          | (go_at_call 61; with_reducible refine (HB.out _).mono ?_; rintro e1 w1 ⟨rfl, rfl⟩)
          | (go_at_call 61; with_reducible refine (HC.out _).mono ?_; rintro e1 w1 ⟨rfl, rfl⟩)
          | (go_at_call 61; with_reducible refine (HD.out _).mono ?_; rintro e1 w1 ⟨rfl, rfl⟩)
          | (go_at_call 61; with_reducible refine (HE.out _).mono ?_; rintro e1 w1 ⟨rfl, rfl⟩)
          | (go_at_call 61; with_reducible refine (HF.out _).mono ?_; rintro e1 w1 ⟨rfl, rfl⟩))
      go_ret
      exact ⟨wret HX.out.symm, hb0.out⟩
    · have hqq : 1 ≤ t.Q ∧ t.Q ≤ 4096 := by omega
      cases fA : fitB t.A with
      | false =>
        as_aux_lemma =>
          have HX : Hid (wpErr t = 280) := (show _ = _ from wpErr_not (by cases h : wpOk t with | false => rfl | true => have := (fit_of h).1; rw [fA] at this; cases this))
          rw [fA] at HA
          clear hqq
          go_enter Try.func20, Try.ntmps20
          go_wp2_with (first
              | (go_at_call 61; with_reducible refine (HA.out _).mono ?_; rintro e1 w1 ⟨rfl, rfl⟩)
              | (go_at_call 61; with_reducible refine (HB.out _).mono ?_; rintro e1 w1 ⟨rfl, rfl⟩)
              | (go_at_call 61; with_reducible refine (HC.out _).mono ?_; rintro e1 w1 ⟨rfl, rfl⟩)
              | (go_at_call 61; with_reducible refine (HD.out _).mono ?_; rintro e1 w1 ⟨rfl, rfl⟩)
              | (go_at_call 61; with_reducible refine (HE.out _).mono ?_; rintro e1 w1 ⟨rfl, rfl⟩)
              | (go_at_call 61; with_reducible refine (HF.out _).mono ?_; rintro e1 w1 ⟨rfl, rfl⟩))
          go_ret
          exact ⟨wret HX.out.symm, hb0.out⟩
      | true =>
        rw [fA] at HA
        cases fB : fitB t.B with
        | false =>
          as_aux_lemma =>
            have HX : Hid (wpErr t = 280) := (show _ = _ from wpErr_not (by cases h : wpOk t with | false => rfl | true => have := (fit_of h).2.1; rw [fB] at this; cases this))
            rw [fB] at HB
            clear hqq
            go_enter Try.func20, Try.ntmps20
            go_wp2_with (first
                | (go_at_call 61; with_reducible refine (HA.out _).mono ?_; rintro e1 w1 ⟨rfl, rfl⟩)
                | (go_at_call 61; with_reducible refine (HB.out _).mono ?_; rintro e1 w1 ⟨rfl, rfl⟩)
                | (go_at_call 61; with_reducible refine (HC.out _).mono ?_; rintro e1 w1 ⟨rfl, rfl⟩)
                | (go_at_call 61; with_reducible refine (HD.out _).mono ?_; rintro e1 w1 ⟨rfl, rfl⟩)
                | (go_at_call 61; with_reducible refine (HE.out _).mono ?_; rintro e1 w1 ⟨rfl, rfl⟩)
                | (go_at_call 61; with_reducible refine (HF.out _).mono ?_; rintro e1 w1 ⟨rfl, rfl⟩))
            go_ret
            exact ⟨wret HX.out.symm, hb0.out⟩
        | true =>
          rw [fB] at HB
          cases fC : fitB t.C with
          | false =>
            as_aux_lemma =>
              have HX : Hid (wpErr t = 280) := (show _ = _ from wpErr_not (by cases h : wpOk t with | false => rfl | true => have := (fit_of h).2.2.1; rw [fC] at this; cases this))
              rw [fC] at HC
              clear hqq
              go_enter Try.func20, Try.ntmps20
              go_wp2_with (first
                  | (go_at_call 61; with_reducible refine (HA.out _).mono ?_; rintro e1 w1 ⟨rfl, rfl⟩)
                  | (go_at_call 61; with_reducible refine (HB.out _).mono ?_; rintro e1 w1 ⟨rfl, rfl⟩)
                  | (go_at_call 61; with_reducible refine (HC.out _).mono ?_; rintro e1 w1 ⟨rfl, rfl⟩)
                  | (go_at_call 61; with_reducible refine (HD.out _).mono ?_; rintro e1 w1 ⟨rfl, rfl⟩)
                  | (go_at_call 61; with_reducible refine (HE.out _).mono ?_; rintro e1 w1 ⟨rfl, rfl⟩)
                  | (go_at_call 61; with_reducible refine (HF.out _).mono ?_; rintro e1 w1 ⟨rfl, rfl⟩))
              go_ret
              exact ⟨wret HX.out.symm, hb0.out⟩
          | true =>
            rw [fC] at HC
            cases fD : fitB t.D with
            | false =>
              as_aux_lemma =>
                have HX : Hid (wpErr t = 280) := (show _ = _ from wpErr_not (by cases h : wpOk t with | false => rfl | true => have := (fit_of h).2.2.2.1; rw [fD] at this; cases this))
                rw [fD] at HD
                clear hqq
                go_enter Try.func20, Try.ntmps20
                go_wp2_with (first
                    | (go_at_call 61; with_reducible refine (HA.out _).mono ?_; rintro e1 w1 ⟨rfl, rfl⟩)
                    | (go_at_call 61; with_reducible refine (HB.out _).mono ?_; rintro e1 w1 ⟨rfl, rfl⟩)
                    | (go_at_call 61; with_reducible refine (HC.out _).mono ?_; rintro e1 w1 ⟨rfl, rfl⟩)
                    | (go_at_call 61; with_reducible refine (HD.out _).mono ?_; rintro e1 w1 ⟨rfl, rfl⟩)
                    | (go_at_call 61; with_reducible refine (HE.out _).mono ?_; rintro e1 w1 ⟨rfl, rfl⟩)
                    | (go_at_call 61; with_reducible refine (HF.out _).mono ?_; rintro e1 w1 ⟨rfl, rfl⟩))
                go_ret
                exact ⟨wret HX.out.symm, hb0.out⟩
            | true =>
              rw [fD] at HD
              cases fE : fitB t.E with
              | false =>
                as_aux_lemma =>
                  have HX : Hid (wpErr t = 280) := (show _ = _ from wpErr_not (by cases h : wpOk t with | false => rfl | true => have := (fit_of h).2.2.2.2.1; rw [fE] at this; cases this))
                  rw [fE] at HE
                  clear hqq
                  go_enter Try.func20, Try.ntmps20
                  go_wp2_with (first
                      | (go_at_call 61; with_reducible refine (HA.out _).mono ?_; rintro e1 w1 ⟨rfl, rfl⟩)
                      | (go_at_call 61; with_reducible refine (HB.out _).mono ?_; rintro e1 w1 ⟨rfl, rfl⟩)
                      | (go_at_call 61; with_reducible refine (HC.out _).mono ?_; rintro e1 w1 ⟨rfl, rfl⟩)
                      | (go_at_call 61; with_reducible refine (HD.out _).mono ?_; rintro e1 w1 ⟨rfl, rfl⟩)
                      | (go_at_call 61; with_reducible refine (HE.out _).mono ?_; rintro e1 w1 ⟨rfl, rfl⟩)
                      | (go_at_call 61; with_reducible refine (HF.out _).mono ?_; rintro e1 w1 ⟨rfl, rfl⟩))
                  go_ret
                  exact ⟨wret HX.out.symm, hb0.out⟩
              | true =>
                rw [fE] at HE
                cases fF : fitB t.F with
                | false =>
                  as_aux_lemma =>
                    have HX : Hid (wpErr t = 280) := (show _ = _ from wpErr_not (by cases h : wpOk t with | false => rfl | true => have := (fit_of h).2.2.2.2.2; rw [fF] at this; cases this))
                    rw [fF] at HF
                    clear hqq
                    go_enter Try.func20, Try.ntmps20
                    go_wp2_with (first
                        | (go_at_call 61; with_reducible refine (HA.out _).mono ?_; rintro e1 w1 ⟨rfl, rfl⟩)
                        | (go_at_call 61; with_reducible refine (HB.out _).mono ?_; rintro e1 w1 ⟨rfl, rfl⟩)
                        | (go_at_call 61; with_reducible refine (HC.out _).mono ?_; rintro e1 w1 ⟨rfl, rfl⟩)
                        | (go_at_call 61; with_reducible refine (HD.out _).mono ?_; rintro e1 w1 ⟨rfl, rfl⟩)
                        | (go_at_call 61; with_reducible refine (HE.out _).mono ?_; rintro e1 w1 ⟨rfl, rfl⟩)
                        | (go_at_call 61; with_reducible refine (HF.out _).mono ?_; rintro e1 w1 ⟨rfl, rfl⟩))
                    go_ret
                    exact ⟨wret HX.out.symm, hb0.out⟩
                | true =>
                  rw [fF] at HF
                  have HX : Hid (wpErr t = 0) := (show _ = _ from wpErr_ok (wpOk_of hqq fA fB fC fD fE fF))
                  clear hqq fA fB fC fD fE fF
                  go_enter Try.func20, Try.ntmps20
                  go_wp2_with (first
                      | (go_at_call 61; with_reducible refine (HA.out _).mono ?_; rintro e1 w1 ⟨rfl, rfl⟩)
                      | (go_at_call 61; with_reducible refine (HB.out _).mono ?_; rintro e1 w1 ⟨rfl, rfl⟩)
                      | (go_at_call 61; with_reducible refine (HC.out _).mono ?_; rintro e1 w1 ⟨rfl, rfl⟩)
                      | (go_at_call 61; with_reducible refine (HD.out _).mono ?_; rintro e1 w1 ⟨rfl, rfl⟩)
                      | (go_at_call 61; with_reducible refine (HE.out _).mono ?_; rintro e1 w1 ⟨rfl, rfl⟩)
                      | (go_at_call 61; with_reducible refine (HF.out _).mono ?_; rintro e1 w1 ⟨rfl, rfl⟩))
                  go_ret
                  exact ⟨wret HX.out.symm, hb0.out⟩

theorem gcd7_nest (t : Wp) : Int.gcd (Int.gcd (Int.gcd t.A t.B : Int) (Int.gcd t.C t.D : Int) : Int) (Int.gcd (Int.gcd t.E t.F : Int) t.Q : Int) = gcd7 t := by
  unfold gcd7 gcdTo gcdTo gcdTo gcdTo gcdTo gcdTo gcdTo gcdTo
  unfold wpN
  unfold Int.gcd
  simp only [Int.natAbs_natCast, Int.natAbs_zero, Nat.gcd_zero_left, Nat.gcd_assoc]
theorem gcd_bd {x y M : Int} (hx : -M ≤ x ∧ x ≤ M) (hy : -M ≤ y ∧ y ≤ M) : -M ≤ ((Int.gcd x y : Nat) : Int) ∧ ((Int.gcd x y : Nat) : Int) ≤ M := by
  by_cases e : y = 0
  · rw [e, Int.gcd_zero_right]; omega
  · have := Int.gcd_le_natAbs_right x (b := y) e
    omega
set_option maxHeartbeats 3200000 in
set_option maxRecDepth 100000 in
theorem rlowest_calls (w : World) (t : Wp) (hM : WpIn t 2305843009213693952) (hq : t.Q ≠ 0) : Calls Try.prog 59 #[wpV t] w fun e w' => LowEnd w t e w' := by
  have HM := Lib.hid hM
  have hgl := gcdTo_le t _ hM (by decide) 7 (by decide)
  have hgp := gcd7_pos hq
  have hnest := gcd7_nest t
  have b1 := gcd_bd hM.A hM.B
  have b2 := gcd_bd hM.C hM.D
  have b3 := gcd_bd hM.E hM.F
  have b4 := gcd_bd b3 hM.Q
  have b5 := gcd_bd b1 b2
  have C1 := Lib.hid fun W => rcommon_calls W t.A t.B hM.A hM.B
  have C2 := Lib.hid fun W => rcommon_calls W t.C t.D hM.C hM.D
  have C3 := Lib.hid fun W => rcommon_calls W _ _ b1 b2
  have C4 := Lib.hid fun W => rcommon_calls W t.E t.F hM.E hM.F
  have C5 := Lib.hid fun W => rcommon_calls W _ _ b3 hM.Q
  have C6 := Lib.hid fun W => rcommon_calls W _ _ b5 b4
  obtain ⟨gg, egg⟩ : ∃ gg, gg = gcdTo t 7 := ⟨_, rfl⟩
  have EGG := Lib.hid egg
  have hgp2 : 1 ≤ gg := by rw [egg]; exact hgp
  rw [hnest] at C6
  rw [show gcd7 t = gg from egg.symm] at C6
  rw [← egg] at hgl
  clear egg hgp hnest b1 b2 b3 b4 b5
  obtain ⟨g1, e1⟩ : ∃ g, g = Int.gcd t.A t.B := ⟨_, rfl⟩
  obtain ⟨g2, e2⟩ : ∃ g, g = Int.gcd t.C t.D := ⟨_, rfl⟩
  obtain ⟨g4, e4⟩ : ∃ g, g = Int.gcd t.E t.F := ⟨_, rfl⟩
  rw [← e1] at C1 C3 C6
  rw [← e2] at C2 C3 C6
  rw [← e4] at C4 C5 C6
  obtain ⟨g3, e3⟩ : ∃ g, g = Int.gcd (g1 : Int) (g2 : Int) := ⟨_, rfl⟩
  obtain ⟨g5, e5⟩ : ∃ g, g = Int.gcd (g4 : Int) t.Q := ⟨_, rfl⟩
  rw [← e3] at C3 C6
  rw [← e5] at C5 C6
  clear e1 e2 e3 e4 e5
  unfold LowEnd
  rw [show wpV t = .agg #[.int .i64 t.A, .int .i64 t.B, .int .i64 t.C, .int .i64 t.D, .int .i64 t.E, .int .i64 t.F, .int .i64 t.Q] from rfl]
  have hblk := Lib.hid (two_blocks w #[.int .i64 t.A, .int .i64 t.B, .int .i64 t.C, .int .i64 t.D, .int .i64 t.E, .int .i64 t.F, .int .i64 t.Q] #[.int .i64 0, .int .i64 0, .int .i64 0, .int .i64 0, .int .i64 0, .int .i64 0, .int .i64 0])
  have HB0 : Hid (Below w.heap.size w ((w.alloc (.cells #[.int .i64 t.A, .int .i64 t.B, .int .i64 t.C, .int .i64 t.D, .int .i64 t.E, .int .i64 t.F, .int .i64 t.Q] 32)).alloc (.cells #[.int .i64 0, .int .i64 0, .int .i64 0, .int .i64 0, .int .i64 0, .int .i64 0, .int .i64 0] 32))) := (show Below _ _ _ from below_two _ _ _)
  clear hM
  go_enter Try.func59, Try.ntmps59
  go_upto_region 1 with fail
  obtain ⟨W0, eW0⟩ : ∃ W0, W0 = ((w.alloc (.cells #[.int .i64 t.A, .int .i64 t.B, .int .i64 t.C, .int .i64 t.D, .int .i64 t.E, .int .i64 t.F, .int .i64 t.Q] 32)).alloc (.cells #[.int .i64 0, .int .i64 0, .int .i64 0, .int .i64 0, .int .i64 0, .int .i64 0, .int .i64 0] 32)) := ⟨_, rfl⟩
  rw [← eW0] at hblk HB0 ⊢
  clear eW0
  have x0 : W0.cell? ⟨w.heap.size, 0, none⟩ = some (.int .i64 t.A) := ucell hblk.out.1 0
  have x1 : W0.cell? ⟨w.heap.size, 1, none⟩ = some (.int .i64 t.B) := ucell hblk.out.1 1
  have x2 : W0.cell? ⟨w.heap.size, 2, none⟩ = some (.int .i64 t.C) := ucell hblk.out.1 2
  have x3 : W0.cell? ⟨w.heap.size, 3, none⟩ = some (.int .i64 t.D) := ucell hblk.out.1 3
  have x4 : W0.cell? ⟨w.heap.size, 4, none⟩ = some (.int .i64 t.E) := ucell hblk.out.1 4
  have x5 : W0.cell? ⟨w.heap.size, 5, none⟩ = some (.int .i64 t.F) := ucell hblk.out.1 5
  have x6 : W0.cell? ⟨w.heap.size, 6, none⟩ = some (.int .i64 t.Q) := ucell hblk.out.1 6
  go_quiet ((first
    | (go_at_call 96; with_reducible exact Calls.quiet_of ((C1.out _).mono fun _ _ h => ⟨h.1, h.2.out⟩))
    | (go_at_call 96; with_reducible exact Calls.quiet_of ((C2.out _).mono fun _ _ h => ⟨h.1, h.2.out⟩))
    | (go_at_call 96; with_reducible exact Calls.quiet_of ((C3.out _).mono fun _ _ h => ⟨h.1, h.2.out⟩))
    | (go_at_call 96; with_reducible exact Calls.quiet_of ((C4.out _).mono fun _ _ h => ⟨h.1, h.2.out⟩))
    | (go_at_call 96; with_reducible exact Calls.quiet_of ((C5.out _).mono fun _ _ h => ⟨h.1, h.2.out⟩))
    | (go_at_call 96; with_reducible exact Calls.quiet_of ((C6.out _).mono fun _ _ h => ⟨h.1, h.2.out⟩))))
  have HB2 : Hid (Below w.heap.size w (W0.drewN nq)) := (show Below _ _ _ from pw_below_drewN HB0.out nq)
  have HK1' : Hid ((W0.drewN nq).heap[w.heap.size]? = some (.cells #[.int .i64 t.A, .int .i64 t.B, .int .i64 t.C, .int .i64 t.D, .int .i64 t.E, .int .i64 t.F, .int .i64 t.Q] 32)) := (show _ = _ from hblk.out.1)
  have HK2' : Hid ((W0.drewN nq).heap[w.heap.size + 1]? = some (.cells #[.int .i64 0, .int .i64 0, .int .i64 0, .int .i64 0, .int .i64 0, .int .i64 0, .int .i64 0] 32)) := (show _ = _ from hblk.out.2)
  clear HB0 C1 C2 C3 C4 C5 C6 x0 x1 x2 x3 x4 x5 x6 hq
  generalize W0.drewN nq = wr at HB2 HK1' HK2' ⊢
  have HC := trivial
  have HF : Hid (∀ G : Int, lowG t = G → ∀ q0 q1 q2 q3 q4 q5 q6, t.A.tdiv G = q0 → t.B.tdiv G = q1 → t.C.tdiv G = q2 → t.D.tdiv G = q3 → t.E.tdiv G = q4 → t.F.tdiv G = q5 → t.Q.tdiv G = q6 → wpV (lowW t) = .agg #[.int .i64 q0, .int .i64 q1, .int .i64 q2, .int .i64 q3, .int .i64 q4, .int .i64 q5, .int .i64 q6]) := (show ∀ G : Int, _ from by
    rintro G rfl q0 q1 q2 q3 q4 q5 q6 rfl rfl rfl rfl rfl rfl rfl
    rfl)
  have HDI : Hid (∀ G : Int, G ≠ 0 → WpIn (wpDiv t G) 2305843009213693952) := (show ∀ G : Int, _ from fun G hG => wpDiv_in HM.out hG)
  have HG9 : Hid (lowG t = if t.Q < 0 then -(gg : Int) else (gg : Int)) := (show _ = _ by unfold lowG gcd7; rw [← EGG.out])
  have W0 : IntKind.i64.wrap (-(gg : Int)) = -(gg : Int) := IntWalk.i64_in _ (by omega)
  have y6 : wr.cell? ⟨w.heap.size, 6, none⟩ = some (.int .i64 t.Q) := ucell HK1'.out 6
  clear HC HM EGG hblk
  have fin : ∀ G : Int, G ≠ 0 → lowG t = G → ∃ q0 q1 q2 q3 q4 q5 q6 : Int, (t.A.tdiv G = q0 ∧ t.B.tdiv G = q1 ∧ t.C.tdiv G = q2 ∧ t.D.tdiv G = q3 ∧ t.E.tdiv G = q4 ∧ t.F.tdiv G = q5 ∧ t.Q.tdiv G = q6) ∧ (IntKind.i64.wrap q0 = q0 ∧ IntKind.i64.wrap q1 = q1 ∧ IntKind.i64.wrap q2 = q2 ∧ IntKind.i64.wrap q3 = q3 ∧ IntKind.i64.wrap q4 = q4 ∧ IntKind.i64.wrap q5 = q5 ∧ IntKind.i64.wrap q6 = q6) ∧ Hid (wpV (lowW t) = .agg #[.int .i64 q0, .int .i64 q1, .int .i64 q2, .int .i64 q3, .int .i64 q4, .int .i64 q5, .int .i64 q6]) := fun G hG hl => by
    have h := HDI.out G hG
    have b0 := h.A
    have b1 := h.B
    have b2 := h.C
    have b3 := h.D
    have b4 := h.E
    have b5 := h.F
    have b6 := h.Q
    dsimp only [wpDiv] at b0 b1 b2 b3 b4 b5 b6
    exact ⟨_, _, _, _, _, _, _, ⟨rfl, rfl, rfl, rfl, rfl, rfl, rfl⟩, ⟨IntWalk.i64_in _ (by omega), IntWalk.i64_in _ (by omega), IntWalk.i64_in _ (by omega), IntWalk.i64_in _ (by omega), IntWalk.i64_in _ (by omega), IntWalk.i64_in _ (by omega), IntWalk.i64_in _ (by omega)⟩, HF.out G hl _ _ _ _ _ _ _ rfl rfl rfl rfl rfl rfl rfl⟩
  have HFIN := Lib.hid fin
  clear fin HF HDI
  have x0 : wr.cell? ⟨w.heap.size, 0, none⟩ = some (.int .i64 t.A) := ucell HK1'.out 0
  have x1 : wr.cell? ⟨w.heap.size, 1, none⟩ = some (.int .i64 t.B) := ucell HK1'.out 1
  have x2 : wr.cell? ⟨w.heap.size, 2, none⟩ = some (.int .i64 t.C) := ucell HK1'.out 2
  have x3 : wr.cell? ⟨w.heap.size, 3, none⟩ = some (.int .i64 t.D) := ucell HK1'.out 3
  have x4 : wr.cell? ⟨w.heap.size, 4, none⟩ = some (.int .i64 t.E) := ucell HK1'.out 4
  have x5 : wr.cell? ⟨w.heap.size, 5, none⟩ = some (.int .i64 t.F) := ucell HK1'.out 5
  rcases Int.lt_or_le t.Q 0 with hneg | hpos
  · go_upto_region 4 with fail
    obtain ⟨G, eG⟩ : ∃ G : Int, G = -(gg : Int) := ⟨_, rfl⟩
    have hG0 : G ≠ 0 := by omega
    have hGz : (G == 0) = false := by rw [beq_eq_false_iff_ne]; exact hG0
    have hlG : lowG t = G := by rw [HG9.out, if_pos hneg, eG]
    rw [← eG]
    obtain ⟨q0, q1, q2, q3, q4, q5, q6, ⟨T0, T1, T2, T3, T4, T5, T6⟩, ⟨V0, V1, V2, V3, V4, V5, V6⟩, HV⟩ := HFIN.out G hG0 hlG
    clear eG hlG hneg W0
    go_still_tail 28, (by kernel_rfl)
    change wpList _ _ _ _ _ wr.drew
    go_wp2_with (refine wpList_store_row rfl 32 _ _ rfl (w.heap.size + 1) #[.int .i64 q0, .int .i64 q1, .int .i64 q2, .int .i64 q3, .int .i64 q4, .int .i64 q5, .int .i64 q6] rfl rfl 32 _ (show wr.drew.heap[w.heap.size + 1]? = _ from HK2'.out) (by kernel_rfl) rfl (by kernel_rfl) ?_)
    refine bodyPost_ret (results_cell_row rfl _ _ (w.heap.size + 1) 32 _ (0, 0) _ rfl (setRow_heap _ _ _ _ _ _ (show wr.drew.heap[w.heap.size + 1]? = _ from HK2'.out)) Try.underlying32 rfl (by kernel_rfl)) rfl ?_
    exact ⟨by rw [HV.out], wbelow_setRow HB2.out.drew (Nat.le_succ _) _⟩
  · go_upto_region 4 with fail
    obtain ⟨G, eG⟩ : ∃ G : Int, G = (gg : Int) := ⟨_, rfl⟩
    have hG0 : G ≠ 0 := by omega
    have hGz : (G == 0) = false := by rw [beq_eq_false_iff_ne]; exact hG0
    have hlG : lowG t = G := by rw [HG9.out, if_neg (by omega), eG]
    rw [← eG]
    obtain ⟨q0, q1, q2, q3, q4, q5, q6, ⟨T0, T1, T2, T3, T4, T5, T6⟩, ⟨V0, V1, V2, V3, V4, V5, V6⟩, HV⟩ := HFIN.out G hG0 hlG
    clear eG hlG hpos W0
    go_still_tail 28, (by kernel_rfl)
    change wpList _ _ _ _ _ wr.drew
    go_wp2_with (refine wpList_store_row rfl 32 _ _ rfl (w.heap.size + 1) #[.int .i64 q0, .int .i64 q1, .int .i64 q2, .int .i64 q3, .int .i64 q4, .int .i64 q5, .int .i64 q6] rfl rfl 32 _ (show wr.drew.heap[w.heap.size + 1]? = _ from HK2'.out) (by kernel_rfl) rfl (by kernel_rfl) ?_)
    refine bodyPost_ret (results_cell_row rfl _ _ (w.heap.size + 1) 32 _ (0, 0) _ rfl (setRow_heap _ _ _ _ _ _ (show wr.drew.heap[w.heap.size + 1]? = _ from HK2'.out)) Try.underlying32 rfl (by kernel_rfl)) rfl ?_
    exact ⟨by rw [HV.out], wbelow_setRow HB2.out.drew (Nat.le_succ _) _⟩

set_option maxHeartbeats 1600000 in
set_option maxRecDepth 100000 in
theorem rtold_calls' (w : World) (t : Wp) (hM : WpIn t 2305843009213693952) (hq : t.Q ≠ 0) : Calls Try.prog 63 #[wpV t] w fun e w' => WGives w (wtV (toldW' t)) e w' := by
  have HL := Lib.hid fun W hq => rlowest_calls W t hM hq
  unfold WGives
  have hb0 : Hid (Below w.heap.size w ((w.alloc (.cells #[.int .i64 t.A, .int .i64 t.B, .int .i64 t.C, .int .i64 t.D, .int .i64 t.E, .int .i64 t.F, .int .i64 t.Q] 32)).alloc (.cells #[.int .i64 0, .int .i64 0, .int .i64 0, .int .i64 0, .int .i64 0, .int .i64 0, .int .i64 0] 32))) := (show Below _ _ _ from below_two _ _ _)
  have hz : (t.Q == 0) = false := by rw [beq_eq_false_iff_ne]; exact hq
  obtain ⟨r, er⟩ : ∃ r, r = lowW t := ⟨_, rfl⟩
  have HL2 : Hid (∀ W, Calls Try.prog 59 #[.agg #[.int .i64 t.A, .int .i64 t.B, .int .i64 t.C, .int .i64 t.D, .int .i64 t.E, .int .i64 t.F, .int .i64 t.Q]] W fun e w' => e = .returned (.agg #[.int .i64 r.A, .int .i64 r.B, .int .i64 r.C, .int .i64 r.D, .int .i64 r.E, .int .i64 r.F, .int .i64 r.Q]) ∧ Below W.heap.size W w') := (show ∀ W, _ from fun W => by rw [er]; exact HL.out W hq)
  obtain ⟨c, ec⟩ : ∃ c, c = wpErr r := ⟨_, rfl⟩
  have HC : Hid (∀ W, Calls Try.prog 20 #[.agg #[.int .i64 r.A, .int .i64 r.B, .int .i64 r.C, .int .i64 r.D, .int .i64 r.E, .int .i64 r.F, .int .i64 r.Q]] W fun e w' => e = .returned (.int .i64 c) ∧ Below W.heap.size W w') := (show ∀ W, _ from fun W => by rw [ec]; exact rCheck_calls W r)
  have hblk : Hid ((((w.alloc (.cells #[.int .i64 t.A, .int .i64 t.B, .int .i64 t.C, .int .i64 t.D, .int .i64 t.E, .int .i64 t.F, .int .i64 t.Q] 32)).alloc (.cells #[.int .i64 0, .int .i64 0, .int .i64 0, .int .i64 0, .int .i64 0, .int .i64 0, .int .i64 0] 32)).heap[w.heap.size]? = some (.cells #[.int .i64 t.A, .int .i64 t.B, .int .i64 t.C, .int .i64 t.D, .int .i64 t.E, .int .i64 t.F, .int .i64 t.Q] 32)) ∧ (((w.alloc (.cells #[.int .i64 t.A, .int .i64 t.B, .int .i64 t.C, .int .i64 t.D, .int .i64 t.E, .int .i64 t.F, .int .i64 t.Q] 32)).alloc (.cells #[.int .i64 0, .int .i64 0, .int .i64 0, .int .i64 0, .int .i64 0, .int .i64 0, .int .i64 0] 32)).heap[w.heap.size + 1]? = some (.cells #[.int .i64 0, .int .i64 0, .int .i64 0, .int .i64 0, .int .i64 0, .int .i64 0, .int .i64 0] 32))) :=
    (show _ ∧ _ from ⟨(Below.heap_alloc _ _ _ (by simp)).trans (heap_alloc_new w _), heap_alloc2_new w _ _⟩)
  have HF : Hid ((wpOk r = false → toldW' t = (wpZ, 283) ∧ c = 280) ∧ (wpOk r = true → toldW' t = (r, 0) ∧ c = 0)) := (show _ ∧ _ from by
    rw [er] at ec ⊢
    refine ⟨fun h => ⟨if_pos (.inr h), ?_⟩, fun h => ⟨?_, ?_⟩⟩
    · rw [ec]; unfold wpErr; rw [h]; rfl
    · unfold toldW'; rw [if_neg]; intro h2; rcases h2 with h2 | h2
      · exact hq h2
      · rw [h] at h2; cases h2
    · rw [ec]; unfold wpErr; rw [h]; rfl)
  clear hq er ec HL hM
  have main : ∀ b : Bool, (b = false → toldW' t = (wpZ, 283) ∧ c = 280) → (b = true → toldW' t = (r, 0) ∧ c = 0) → Calls Try.prog 63 #[wpV t] w fun e w' => e = .returned (wtV (toldW' t)) ∧ Below w.heap.size w w' := fun b h1 h2 => by
    unfold wpV wpC
    have H1 := Lib.hid h1
    have H2 := Lib.hid h2
    clear h1 h2 HF
    cases b with
    | false =>
      obtain ⟨-, rfl⟩ := H1.out rfl
      have HT := Lib.hid (H1.out rfl).1
      clear H1 H2
      go_enter Try.func63, Try.ntmps63
      go_wp2_with (first
        | (go_at_call 59; refine (HL2.out _).mono ?_; rintro e1 w1 ⟨rfl, hb⟩; have HB1 := Lib.hid (ujoin hb0.out hb); have HK1 := Lib.hid ((hb.block _ (Array.getElem?_eq_some_iff.1 hblk.out.1).1).trans hblk.out.1); have HK2 := Lib.hid ((hb.block _ (Array.getElem?_eq_some_iff.1 hblk.out.2).1).trans hblk.out.2); clear hb)
        | (refine wpList_store_row rfl 32 _ _ rfl w.heap.size #[.int .i64 r.A, .int .i64 r.B, .int .i64 r.C, .int .i64 r.D, .int .i64 r.E, .int .i64 r.F, .int .i64 r.Q] rfl rfl 32 _ HK1.out (by kernel_rfl) rfl (by kernel_rfl) ?_; have HK3 := Lib.hid (setRow_heap w1 w.heap.size _ #[.int .i64 r.A, .int .i64 r.B, .int .i64 r.C, .int .i64 r.D, .int .i64 r.E, .int .i64 r.F, .int .i64 r.Q] _ _ HK1.out); have HK4 := Lib.hid ((setRow_other w1 w.heap.size (w.heap.size + 1) #[.int .i64 r.A, .int .i64 r.B, .int .i64 r.C, .int .i64 r.D, .int .i64 r.E, .int .i64 r.F, .int .i64 r.Q] (by omega)).trans HK2.out); have HB2 := Lib.hid (wbelow_setRow HB1.out (Nat.le_refl _) #[.int .i64 r.A, .int .i64 r.B, .int .i64 r.C, .int .i64 r.D, .int .i64 r.E, .int .i64 r.F, .int .i64 r.Q]); clear HK1 HK2 HB1; generalize w1.setRow w.heap.size #[.int .i64 r.A, .int .i64 r.B, .int .i64 r.C, .int .i64 r.D, .int .i64 r.E, .int .i64 r.F, .int .i64 r.Q] = w2 at HK3 HK4 HB2 ⊢)
        | (refine wpList_load_row rfl 32 _ rfl w.heap.size rfl 32 _ (0, 0) _ HK3.out Try.underlying32 rfl (by kernel_rfl) ?_)
        | (go_at_call 20; refine (HC.out _).mono ?_; rintro e1 w3 ⟨rfl, hb⟩; have HB3 := Lib.hid (ujoin HB2.out hb); have HK6 := Lib.hid ((hb.block _ (Array.getElem?_eq_some_iff.1 HK4.out).1).trans HK4.out); clear hb)
        | (refine wpList_store_row rfl 32 _ _ rfl (w.heap.size + 1) #[.int .i64 0, .int .i64 0, .int .i64 0, .int .i64 0, .int .i64 0, .int .i64 0, .int .i64 0] rfl rfl 32 _ HK6.out (by kernel_rfl) rfl (by kernel_rfl) ?_))
      refine bodyPost_ret (ret_warp rfl _ _ (w.heap.size + 1) _ rfl (setRow_heap _ _ _ _ _ _ HK6.out) rfl) rfl ?_
      exact ⟨by rw [HT.out]; rfl, wbelow_setRow HB3.out (Nat.le_succ _) _⟩
    | true =>
      obtain ⟨-, rfl⟩ := H2.out rfl
      have HT := Lib.hid (H2.out rfl).1
      clear H1 H2
      go_enter Try.func63, Try.ntmps63
      go_wp2_with (first
        | (go_at_call 59; refine (HL2.out _).mono ?_; rintro e1 w1 ⟨rfl, hb⟩; have HB1 := Lib.hid (ujoin hb0.out hb); have HK1 := Lib.hid ((hb.block _ (Array.getElem?_eq_some_iff.1 hblk.out.1).1).trans hblk.out.1); have HK2 := Lib.hid ((hb.block _ (Array.getElem?_eq_some_iff.1 hblk.out.2).1).trans hblk.out.2); clear hb)
        | (refine wpList_store_row rfl 32 _ _ rfl w.heap.size #[.int .i64 r.A, .int .i64 r.B, .int .i64 r.C, .int .i64 r.D, .int .i64 r.E, .int .i64 r.F, .int .i64 r.Q] rfl rfl 32 _ HK1.out (by kernel_rfl) rfl (by kernel_rfl) ?_; have HK3 := Lib.hid (setRow_heap w1 w.heap.size _ #[.int .i64 r.A, .int .i64 r.B, .int .i64 r.C, .int .i64 r.D, .int .i64 r.E, .int .i64 r.F, .int .i64 r.Q] _ _ HK1.out); have HK4 := Lib.hid ((setRow_other w1 w.heap.size (w.heap.size + 1) #[.int .i64 r.A, .int .i64 r.B, .int .i64 r.C, .int .i64 r.D, .int .i64 r.E, .int .i64 r.F, .int .i64 r.Q] (by omega)).trans HK2.out); have HB2 := Lib.hid (wbelow_setRow HB1.out (Nat.le_refl _) #[.int .i64 r.A, .int .i64 r.B, .int .i64 r.C, .int .i64 r.D, .int .i64 r.E, .int .i64 r.F, .int .i64 r.Q]); clear HK1 HK2 HB1; generalize w1.setRow w.heap.size #[.int .i64 r.A, .int .i64 r.B, .int .i64 r.C, .int .i64 r.D, .int .i64 r.E, .int .i64 r.F, .int .i64 r.Q] = w2 at HK3 HK4 HB2 ⊢)
        | (refine wpList_load_row rfl 32 _ rfl w.heap.size rfl 32 _ (0, 0) _ HK5.out Try.underlying32 rfl (by kernel_rfl) ?_)
        | (refine wpList_load_row rfl 32 _ rfl w.heap.size rfl 32 _ (0, 0) _ HK3.out Try.underlying32 rfl (by kernel_rfl) ?_)
        | (go_at_call 20; refine (HC.out _).mono ?_; rintro e1 w3 ⟨rfl, hb⟩; have HB3 := Lib.hid (ujoin HB2.out hb); have HK6 := Lib.hid ((hb.block _ (Array.getElem?_eq_some_iff.1 HK4.out).1).trans HK4.out); have HK5 := Lib.hid ((hb.block _ (Array.getElem?_eq_some_iff.1 HK3.out).1).trans HK3.out); clear hb)
        | (refine wpList_store_row rfl 32 _ _ rfl (w.heap.size + 1) #[.int .i64 r.A, .int .i64 r.B, .int .i64 r.C, .int .i64 r.D, .int .i64 r.E, .int .i64 r.F, .int .i64 r.Q] rfl rfl 32 _ HK6.out (by kernel_rfl) rfl (by kernel_rfl) ?_))
      refine bodyPost_ret (ret_warp rfl _ _ (w.heap.size + 1) _ rfl (setRow_heap _ _ _ _ _ _ HK6.out) rfl) rfl ?_
      exact ⟨by rw [HT.out]; rfl, wbelow_setRow HB3.out (Nat.le_succ _) _⟩
  cases hok : wpOk r with
  | false => exact main false (fun _ => HF.out.1 hok) (fun h => by cases h)
  | true => exact main true (fun h => by cases h) (fun _ => HF.out.2 hok)

set_option maxHeartbeats 1600000 in
set_option maxRecDepth 100000 in
theorem rnormal_calls (w : World) (t : Wp) : Calls Try.prog 18 #[wpV t] w fun e w' => WGives w (wtV (normW t)) e w' := by
  have HC : Hid (∀ W, Calls Try.prog 20 #[.agg #[.int .i64 t.A, .int .i64 t.B, .int .i64 t.C, .int .i64 t.D, .int .i64 t.E, .int .i64 t.F, .int .i64 t.Q]] W fun e w' => e = .returned (.int .i64 (wpErr t)) ∧ Below W.heap.size W w') := (show ∀ W, _ from fun W => rCheck_calls W t)
  have hb0 : Hid (Below w.heap.size w ((w.alloc (.cells #[.int .i64 t.A, .int .i64 t.B, .int .i64 t.C, .int .i64 t.D, .int .i64 t.E, .int .i64 t.F, .int .i64 t.Q] 32)).alloc (.cells #[.int .i64 0, .int .i64 0, .int .i64 0, .int .i64 0, .int .i64 0, .int .i64 0, .int .i64 0] 32))) := (show Below _ _ _ from below_two _ _ _)
  have hblk := Lib.hid (two_blocks w #[.int .i64 t.A, .int .i64 t.B, .int .i64 t.C, .int .i64 t.D, .int .i64 t.E, .int .i64 t.F, .int .i64 t.Q] #[.int .i64 0, .int .i64 0, .int .i64 0, .int .i64 0, .int .i64 0, .int .i64 0, .int .i64 0])
  unfold WGives
  cases hok : wpOk t with
  | false =>
    rw [wpErr_not hok] at HC
    have HF : Hid (normW t = (wpZ, 280)) := (show _ = _ from if_neg (by rw [hok]; decide))
    clear hok
    unfold wpV wpC
    go_enter Try.func18, Try.ntmps18
    go_wp2_with (first
      | (go_at_call 20; refine (HC.out _).mono ?_; rintro e1 w1 ⟨rfl, hb⟩; have HB1 := Lib.hid (ujoin hb0.out hb); have HK2 := Lib.hid ((hb.block _ (Array.getElem?_eq_some_iff.1 hblk.out.2).1).trans hblk.out.2); clear hb)
      | (refine wpList_store_row rfl 32 _ _ rfl (w.heap.size + 1) #[.int .i64 0, .int .i64 0, .int .i64 0, .int .i64 0, .int .i64 0, .int .i64 0, .int .i64 0] rfl rfl 32 _ HK2.out (by kernel_rfl) rfl (by kernel_rfl) ?_))
    refine bodyPost_ret (ret_warp rfl _ _ (w.heap.size + 1) _ rfl (setRow_heap _ _ _ _ _ _ HK2.out) rfl) rfl ?_
    exact ⟨by rw [HF.out]; rfl, wbelow_setRow HB1.out (Nat.le_succ _) _⟩
  | true =>
    rw [wpErr_ok hok] at HC
    have hin := wpOk_in hok
    obtain ⟨r, er⟩ : ∃ r, r = lowW t := ⟨_, rfl⟩
    have HL : Hid (∀ W, Calls Try.prog 59 #[.agg #[.int .i64 t.A, .int .i64 t.B, .int .i64 t.C, .int .i64 t.D, .int .i64 t.E, .int .i64 t.F, .int .i64 t.Q]] W fun e w' => e = .returned (.agg #[.int .i64 r.A, .int .i64 r.B, .int .i64 r.C, .int .i64 r.D, .int .i64 r.E, .int .i64 r.F, .int .i64 r.Q]) ∧ Below W.heap.size W w') := (show ∀ W, _ from fun W => by rw [er]; exact rlowest_calls W t (hin.1.more (by decide)) (by omega))
    have HF : Hid (normW t = (r, 0)) := (show _ = _ from by rw [er]; exact if_pos hok)
    clear hok hin er
    unfold wpV wpC
    go_enter Try.func18, Try.ntmps18
    go_wp2_with (first
      | (go_at_call 20; refine (HC.out _).mono ?_; rintro e1 w1 ⟨rfl, hb⟩; have HB1 := Lib.hid (ujoin hb0.out hb); have HK1 := Lib.hid ((hb.block _ (Array.getElem?_eq_some_iff.1 hblk.out.1).1).trans hblk.out.1); have HK2 := Lib.hid ((hb.block _ (Array.getElem?_eq_some_iff.1 hblk.out.2).1).trans hblk.out.2); clear hb)
      | (refine wpList_load_row rfl 32 _ rfl w.heap.size rfl 32 _ (0, 0) _ HK1.out Try.underlying32 rfl (by kernel_rfl) ?_)
      | (go_at_call 59; refine (HL.out _).mono ?_; rintro e1 w2 ⟨rfl, hb⟩; have HB2 := Lib.hid (ujoin HB1.out hb); have HK3 := Lib.hid ((hb.block _ (Array.getElem?_eq_some_iff.1 HK2.out).1).trans HK2.out); clear hb)
      | (refine wpList_store_row rfl 32 _ _ rfl (w.heap.size + 1) #[.int .i64 r.A, .int .i64 r.B, .int .i64 r.C, .int .i64 r.D, .int .i64 r.E, .int .i64 r.F, .int .i64 r.Q] rfl rfl 32 _ HK3.out (by kernel_rfl) rfl (by kernel_rfl) ?_))
    refine bodyPost_ret (ret_warp rfl _ _ (w.heap.size + 1) _ rfl (setRow_heap _ _ _ _ _ _ HK3.out) rfl) rfl ?_
    exact ⟨by rw [HF.out]; rfl, wbelow_setRow HB2.out (Nat.le_succ _) _⟩

set_option maxHeartbeats 3200000 in
set_option maxRecDepth 100000 in
theorem rback_calls (w : World) (t : Wp) : Calls Try.prog 24 #[wpV t] w fun e w' => WGives w (wtV (backW t)) e w' := by
  have HC : Hid (∀ W, Calls Try.prog 20 #[.agg #[.int .i64 t.A, .int .i64 t.B, .int .i64 t.C, .int .i64 t.D, .int .i64 t.E, .int .i64 t.F, .int .i64 t.Q]] W fun e w' => e = .returned (.int .i64 (wpErr t)) ∧ Below W.heap.size W w') := (show ∀ W, _ from fun W => rCheck_calls W t)
  have hb0 : Hid (Below w.heap.size w ((w.alloc (.cells #[.int .i64 t.A, .int .i64 t.B, .int .i64 t.C, .int .i64 t.D, .int .i64 t.E, .int .i64 t.F, .int .i64 t.Q] 32)).alloc (.cells #[.int .i64 0, .int .i64 0, .int .i64 0, .int .i64 0, .int .i64 0, .int .i64 0, .int .i64 0] 32))) := (show Below _ _ _ from below_two _ _ _)
  have hblk := Lib.hid (two_blocks w #[.int .i64 t.A, .int .i64 t.B, .int .i64 t.C, .int .i64 t.D, .int .i64 t.E, .int .i64 t.F, .int .i64 t.Q] #[.int .i64 0, .int .i64 0, .int .i64 0, .int .i64 0, .int .i64 0, .int .i64 0, .int .i64 0])
  unfold WGives
  cases hok : wpOk t with
  | false =>
    rw [wpErr_not hok] at HC
    have HF : Hid (backW t = (wpZ, 280)) := (show _ = _ from if_neg (by rw [hok]; decide))
    clear hok
    unfold wpV wpC
    go_enter Try.func24, Try.ntmps24
    go_wp2_with (first
      | (go_at_call 20; refine (HC.out _).mono ?_; rintro e1 w1 ⟨rfl, hb⟩; have HB1 := Lib.hid (ujoin hb0.out hb); have HK2 := Lib.hid ((hb.block _ (Array.getElem?_eq_some_iff.1 hblk.out.2).1).trans hblk.out.2); clear hb)
      | (refine wpList_store_row rfl 32 _ _ rfl (w.heap.size + 1) #[.int .i64 0, .int .i64 0, .int .i64 0, .int .i64 0, .int .i64 0, .int .i64 0, .int .i64 0] rfl rfl 32 _ HK2.out (by kernel_rfl) rfl (by kernel_rfl) ?_))
    refine bodyPost_ret (ret_warp rfl _ _ (w.heap.size + 1) _ rfl (setRow_heap _ _ _ _ _ _ HK2.out) rfl) rfl ?_
    exact ⟨by rw [HF.out]; rfl, wbelow_setRow HB1.out (Nat.le_succ _) _⟩
  | true =>
    rw [wpErr_ok hok] at HC
    obtain ⟨⟨hA, hB, hC, hD, hE, hF, hQ⟩, -, -⟩ := wpOk_in hok
    obtain ⟨p1, e1, M1, b1⟩ := mulp (t.E) (t.Q) (by omega) (by omega)
    obtain ⟨p2, e2, M2, b2⟩ := mulp (-t.B) (t.Q) (by omega) (by omega)
    obtain ⟨p3, e3, M3, b3⟩ := mulp (t.B) (t.F) (by omega) (by omega)
    obtain ⟨p4, e4, M4, b4⟩ := mulp (t.E) (t.C) (by omega) (by omega)
    obtain ⟨p5, e5, M5, b5⟩ := mulp (-t.D) (t.Q) (by omega) (by omega)
    obtain ⟨p6, e6, M6, b6⟩ := mulp (t.A) (t.Q) (by omega) (by omega)
    obtain ⟨p7, e7, M7, b7⟩ := mulp (t.D) (t.C) (by omega) (by omega)
    obtain ⟨p8, e8, M8, b8⟩ := mulp (t.A) (t.F) (by omega) (by omega)
    obtain ⟨p9, e9, M9, b9⟩ := mulp (t.A) (t.E) (by omega) (by omega)
    obtain ⟨p10, e10, M10, b10⟩ := mulp (t.B) (t.D) (by omega) (by omega)
    have hcomp : backC t = ⟨p1, p2, p3 - p4, p5, p6, p7 - p8, p9 - p10⟩ := by unfold backC; rw [e1, e2, e3, e4, e5, e6, e7, e8, e9, e10]
    by_cases hd : p9 - p10 = 0
    · have HF : Hid (backW t = (wpZ, 283)) := (show _ = _ from by
        unfold backW
        rw [if_pos hok, hcomp]
        exact if_pos (.inl hd))
      have hdz : (p9 - p10 == 0) = true := by rw [hd]; rfl
      clear hok hcomp e1 e2 e3 e4 e5 e6 e7 e8 e9 e10 hd
      unfold wpV wpC
      go_enter Try.func24, Try.ntmps24
      go_wp2_with (first
        | (go_at_call 20; refine (HC.out _).mono ?_; rintro e1 w1 ⟨rfl, hb⟩; have HB1 := Lib.hid (ujoin hb0.out hb); have HK1 := Lib.hid ((hb.block _ (Array.getElem?_eq_some_iff.1 hblk.out.1).1).trans hblk.out.1); have HK2 := Lib.hid ((hb.block _ (Array.getElem?_eq_some_iff.1 hblk.out.2).1).trans hblk.out.2); have x0 : w1.cell? ⟨w.heap.size, 0, none⟩ = some (.int .i64 t.A) := ucell HK1.out 0; have x1 : w1.cell? ⟨w.heap.size, 1, none⟩ = some (.int .i64 t.B) := ucell HK1.out 1; have x2 : w1.cell? ⟨w.heap.size, 2, none⟩ = some (.int .i64 t.C) := ucell HK1.out 2; have x3 : w1.cell? ⟨w.heap.size, 3, none⟩ = some (.int .i64 t.D) := ucell HK1.out 3; have x4 : w1.cell? ⟨w.heap.size, 4, none⟩ = some (.int .i64 t.E) := ucell HK1.out 4; have x5 : w1.cell? ⟨w.heap.size, 5, none⟩ = some (.int .i64 t.F) := ucell HK1.out 5; have x6 : w1.cell? ⟨w.heap.size, 6, none⟩ = some (.int .i64 t.Q) := ucell HK1.out 6; clear hb)
        | (refine wpList_store_row rfl 32 _ _ rfl (w.heap.size + 1) #[.int .i64 0, .int .i64 0, .int .i64 0, .int .i64 0, .int .i64 0, .int .i64 0, .int .i64 0] rfl rfl 32 _ HK2.out (by kernel_rfl) rfl (by kernel_rfl) ?_))
      refine bodyPost_ret (ret_warp rfl _ _ (w.heap.size + 1) _ rfl (setRow_heap _ _ _ _ _ _ HK2.out) rfl) rfl ?_
      exact ⟨by rw [HF.out]; rfl, wbelow_setRow HB1.out (Nat.le_succ _) _⟩
    · have hdz : (p9 - p10 == 0) = false := by rw [beq_eq_false_iff_ne]; exact hd
      obtain ⟨x, ex⟩ : ∃ x, x = toldW' (backC t) := ⟨_, rfl⟩
      have HF : Hid (backW t = x) := (show _ = _ from by rw [ex]; exact if_pos hok)
      have HT : Hid (∀ W, Calls Try.prog 63 #[.agg #[.int .i64 p1, .int .i64 p2, .int .i64 (p3 - p4), .int .i64 p5, .int .i64 p6, .int .i64 (p7 - p8), .int .i64 (p9 - p10)]] W fun e w' => e = .returned (wtV x) ∧ Below W.heap.size W w') := (show ∀ W, _ from fun W => by
        rw [ex, hcomp]
        exact rtold_calls' W ⟨p1, p2, p3 - p4, p5, p6, p7 - p8, p9 - p10⟩ ⟨by dsimp only; omega, by dsimp only; omega, by dsimp only; omega, by dsimp only; omega, by dsimp only; omega, by dsimp only; omega, by dsimp only; omega⟩ hd)
      obtain ⟨r, c⟩ := x
      unfold wtV wpV wpC at HT
      dsimp only at HT
      clear hok ex hcomp e1 e2 e3 e4 e5 e6 e7 e8 e9 e10
      unfold wpV wpC
      go_enter Try.func24, Try.ntmps24
      go_wp2_with (first
        | (go_at_call 20; refine (HC.out _).mono ?_; rintro e1 w1 ⟨rfl, hb⟩; have HB1 := Lib.hid (ujoin hb0.out hb); have HK1 := Lib.hid ((hb.block _ (Array.getElem?_eq_some_iff.1 hblk.out.1).1).trans hblk.out.1); have HK2 := Lib.hid ((hb.block _ (Array.getElem?_eq_some_iff.1 hblk.out.2).1).trans hblk.out.2); have x0 : w1.cell? ⟨w.heap.size, 0, none⟩ = some (.int .i64 t.A) := ucell HK1.out 0; have x1 : w1.cell? ⟨w.heap.size, 1, none⟩ = some (.int .i64 t.B) := ucell HK1.out 1; have x2 : w1.cell? ⟨w.heap.size, 2, none⟩ = some (.int .i64 t.C) := ucell HK1.out 2; have x3 : w1.cell? ⟨w.heap.size, 3, none⟩ = some (.int .i64 t.D) := ucell HK1.out 3; have x4 : w1.cell? ⟨w.heap.size, 4, none⟩ = some (.int .i64 t.E) := ucell HK1.out 4; have x5 : w1.cell? ⟨w.heap.size, 5, none⟩ = some (.int .i64 t.F) := ucell HK1.out 5; have x6 : w1.cell? ⟨w.heap.size, 6, none⟩ = some (.int .i64 t.Q) := ucell HK1.out 6; clear hb)
        | (go_at_call 63; refine (HT.out _).mono ?_; rintro e1 w2 ⟨rfl, hb⟩; have HB2 := Lib.hid (ujoin HB1.out hb); have HK3 := Lib.hid ((hb.block _ (Array.getElem?_eq_some_iff.1 HK2.out).1).trans HK2.out); clear hb)
        | (refine wpList_store_row rfl 32 _ _ rfl (w.heap.size + 1) #[.int .i64 r.A, .int .i64 r.B, .int .i64 r.C, .int .i64 r.D, .int .i64 r.E, .int .i64 r.F, .int .i64 r.Q] rfl rfl 32 _ HK3.out (by kernel_rfl) rfl (by kernel_rfl) ?_))
      refine bodyPost_ret (ret_warp rfl _ _ (w.heap.size + 1) _ rfl (setRow_heap _ _ _ _ _ _ HK3.out) rfl) rfl ?_
      exact ⟨by rw [HF.out]; rfl, wbelow_setRow HB2.out (Nat.le_succ _) _⟩

set_option maxHeartbeats 3200000 in
set_option maxRecDepth 100000 in
theorem rthen_calls (w : World) (s t : Wp) : Calls Try.prog 22 #[wpV s, wpV t] w fun e w' => WGives w (wtV (thenW s t)) e w' := by
  have HCS : Hid (∀ W, Calls Try.prog 20 #[.agg #[.int .i64 s.A, .int .i64 s.B, .int .i64 s.C, .int .i64 s.D, .int .i64 s.E, .int .i64 s.F, .int .i64 s.Q]] W fun e w' => e = .returned (.int .i64 (wpErr s)) ∧ Below W.heap.size W w') := (show ∀ W, _ from fun W => rCheck_calls W s)
  have HCT : Hid (∀ W, Calls Try.prog 20 #[.agg #[.int .i64 t.A, .int .i64 t.B, .int .i64 t.C, .int .i64 t.D, .int .i64 t.E, .int .i64 t.F, .int .i64 t.Q]] W fun e w' => e = .returned (.int .i64 (wpErr t)) ∧ Below W.heap.size W w') := (show ∀ W, _ from fun W => rCheck_calls W t)
  have hblk := Lib.hid (three_blocks w #[.int .i64 s.A, .int .i64 s.B, .int .i64 s.C, .int .i64 s.D, .int .i64 s.E, .int .i64 s.F, .int .i64 s.Q] #[.int .i64 t.A, .int .i64 t.B, .int .i64 t.C, .int .i64 t.D, .int .i64 t.E, .int .i64 t.F, .int .i64 t.Q] #[.int .i64 0, .int .i64 0, .int .i64 0, .int .i64 0, .int .i64 0, .int .i64 0, .int .i64 0])
  have HB0 := Lib.hid hblk.out.2.2.2
  unfold WGives
  cases hos : wpOk s with
  | false =>
    rw [wpErr_not hos] at HCS
    have HF : Hid (thenW s t = (wpZ, 280)) := (show _ = _ from if_neg (fun h => by rw [hos] at h; exact absurd h.1 (by decide)))
    clear hos HCT
    unfold wpV wpC
    go_enter Try.func22, Try.ntmps22
    go_wp2_with (first
      | (go_at_call 20; (with_reducible refine (HCS.out _).mono ?_); rintro e1 w1 ⟨rfl, hb⟩; have HB1 := Lib.hid (ujoin HB0.out hb); have HK1 := Lib.hid ((hb.block _ (heap_lt' hblk.out.1)).trans hblk.out.1); have HK2 := Lib.hid ((hb.block _ (heap_lt' hblk.out.2.1)).trans hblk.out.2.1); have HK3 := Lib.hid ((hb.block _ (heap_lt' hblk.out.2.2.1)).trans hblk.out.2.2.1); clear hb)
      | (refine wpList_store_row rfl 32 _ _ rfl (w.heap.size + 2) #[.int .i64 0, .int .i64 0, .int .i64 0, .int .i64 0, .int .i64 0, .int .i64 0, .int .i64 0] rfl rfl 32 _ HK3.out (by kernel_rfl) rfl (by kernel_rfl) ?_))
    refine bodyPost_ret (ret_warp rfl _ _ (w.heap.size + 2) _ rfl (setRow_heap _ _ _ _ _ _ HK3.out) rfl) rfl ?_
    exact ⟨by rw [HF.out]; rfl, wbelow_setRow HB1.out (by omega) _⟩
  | true =>
    rw [wpErr_ok hos] at HCS
    cases hot : wpOk t with
    | false =>
      rw [wpErr_not hot] at HCT
      have HF : Hid (thenW s t = (wpZ, 280)) := (show _ = _ from if_neg (fun h => by rw [hot] at h; exact absurd h.2 (by decide)))
      clear hos hot
      unfold wpV wpC
      go_enter Try.func22, Try.ntmps22
      go_wp2_with (first
        | (go_at_call 20; (with_reducible refine (HCT.out _).mono ?_); rintro e1 w2 ⟨rfl, hb⟩; have HB2 := Lib.hid (ujoin HB1.out hb); have HL1 := Lib.hid ((hb.block _ (heap_lt' HK1.out)).trans HK1.out); have HL2 := Lib.hid ((hb.block _ (heap_lt' HK2.out)).trans HK2.out); have HL3 := Lib.hid ((hb.block _ (heap_lt' HK3.out)).trans HK3.out); clear hb)
        | (go_at_call 20; (with_reducible refine (HCS.out _).mono ?_); rintro e1 w1 ⟨rfl, hb⟩; have HB1 := Lib.hid (ujoin HB0.out hb); have HK1 := Lib.hid ((hb.block _ (heap_lt' hblk.out.1)).trans hblk.out.1); have HK2 := Lib.hid ((hb.block _ (heap_lt' hblk.out.2.1)).trans hblk.out.2.1); have HK3 := Lib.hid ((hb.block _ (heap_lt' hblk.out.2.2.1)).trans hblk.out.2.2.1); have z0 : w1.cell? ⟨w.heap.size + 1, 0, none⟩ = some (.int .i64 t.A) := ucell HK2.out 0; have z1 : w1.cell? ⟨w.heap.size + 1, 1, none⟩ = some (.int .i64 t.B) := ucell HK2.out 1; have z2 : w1.cell? ⟨w.heap.size + 1, 2, none⟩ = some (.int .i64 t.C) := ucell HK2.out 2; have z3 : w1.cell? ⟨w.heap.size + 1, 3, none⟩ = some (.int .i64 t.D) := ucell HK2.out 3; have z4 : w1.cell? ⟨w.heap.size + 1, 4, none⟩ = some (.int .i64 t.E) := ucell HK2.out 4; have z5 : w1.cell? ⟨w.heap.size + 1, 5, none⟩ = some (.int .i64 t.F) := ucell HK2.out 5; have z6 : w1.cell? ⟨w.heap.size + 1, 6, none⟩ = some (.int .i64 t.Q) := ucell HK2.out 6; clear hb)
        | (refine wpList_load_row rfl 32 _ rfl (w.heap.size + 1) rfl 32 _ (0, 0) _ HK2.out Try.underlying32 rfl (by kernel_rfl) ?_)
        | (refine wpList_store_row rfl 32 _ _ rfl (w.heap.size + 2) #[.int .i64 0, .int .i64 0, .int .i64 0, .int .i64 0, .int .i64 0, .int .i64 0, .int .i64 0] rfl rfl 32 _ HL3.out (by kernel_rfl) rfl (by kernel_rfl) ?_))
      refine bodyPost_ret (ret_warp rfl _ _ (w.heap.size + 2) _ rfl (setRow_heap _ _ _ _ _ _ HL3.out) rfl) rfl ?_
      exact ⟨by rw [HF.out]; rfl, wbelow_setRow HB2.out (by omega) _⟩
    | true =>
      rw [wpErr_ok hot] at HCT
      obtain ⟨⟨hA, hB, hC, hD, hE, hF, hQ⟩, hs1, hs2⟩ := wpOk_in hos
      obtain ⟨⟨gA, gB, gC, gD, gE, gF, gQ⟩, ht1, ht2⟩ := wpOk_in hot
      obtain ⟨p1, e1, M1, b1⟩ := mulp (t.A) (s.A) (by omega) (by omega)
      obtain ⟨p2, e2, M2, b2⟩ := mulp (t.B) (s.D) (by omega) (by omega)
      obtain ⟨p3, e3, M3, b3⟩ := mulp (t.A) (s.B) (by omega) (by omega)
      obtain ⟨p4, e4, M4, b4⟩ := mulp (t.B) (s.E) (by omega) (by omega)
      obtain ⟨p5, e5, M5, b5⟩ := mulp (t.A) (s.C) (by omega) (by omega)
      obtain ⟨p6, e6, M6, b6⟩ := mulp (t.B) (s.F) (by omega) (by omega)
      obtain ⟨p7, e7, M7, b7⟩ := mulp (t.C) (s.Q) (by omega) (by omega)
      obtain ⟨p8, e8, M8, b8⟩ := mulp (t.D) (s.A) (by omega) (by omega)
      obtain ⟨p9, e9, M9, b9⟩ := mulp (t.E) (s.D) (by omega) (by omega)
      obtain ⟨p10, e10, M10, b10⟩ := mulp (t.D) (s.B) (by omega) (by omega)
      obtain ⟨p11, e11, M11, b11⟩ := mulp (t.E) (s.E) (by omega) (by omega)
      obtain ⟨p12, e12, M12, b12⟩ := mulp (t.D) (s.C) (by omega) (by omega)
      obtain ⟨p13, e13, M13, b13⟩ := mulp (t.E) (s.F) (by omega) (by omega)
      obtain ⟨p14, e14, M14, b14⟩ := mulp (t.F) (s.Q) (by omega) (by omega)
      obtain ⟨p15, e15, M15, b15⟩ := mulp (t.Q) (s.Q) (by omega) (by omega)
      have hcomp : thenC s t = ⟨p1 + p2, p3 + p4, p5 + p6 + p7, p8 + p9, p10 + p11, p12 + p13 + p14, p15⟩ := by unfold thenC; rw [Int.mul_comm s.Q t.Q, e1, e2, e3, e4, e5, e6, e7, e8, e9, e10, e11, e12, e13, e14, e15]
      obtain ⟨x, ex⟩ : ∃ x, x = toldW' (thenC s t) := ⟨_, rfl⟩
      have hp15 : p15 ≠ 0 := by rw [← e15]; exact Int.mul_ne_zero (by omega) (by omega)
      have HF : Hid (thenW s t = x) := (show _ = _ from by rw [ex]; exact if_pos ⟨hos, hot⟩)
      have HT : Hid (∀ W, Calls Try.prog 63 #[.agg #[.int .i64 (p1 + p2), .int .i64 (p3 + p4), .int .i64 (p5 + p6 + p7), .int .i64 (p8 + p9), .int .i64 (p10 + p11), .int .i64 (p12 + p13 + p14), .int .i64 (p15)]] W fun e w' => e = .returned (wtV x) ∧ Below W.heap.size W w') := (show ∀ W, _ from fun W => by
        rw [ex, hcomp]
        exact rtold_calls' W ⟨p1 + p2, p3 + p4, p5 + p6 + p7, p8 + p9, p10 + p11, p12 + p13 + p14, p15⟩ ⟨by dsimp only; omega, by dsimp only; omega, by dsimp only; omega, by dsimp only; omega, by dsimp only; omega, by dsimp only; omega, by dsimp only; omega⟩ hp15)
      obtain ⟨r, c⟩ := x
      unfold wtV wpV wpC at HT
      dsimp only at HT
      clear hos hot ex hcomp e1 e2 e3 e4 e5 e6 e7 e8 e9 e10 e11 e12 e13 e14 e15 hp15 hs1 hs2 ht1 ht2
      unfold wpV wpC
      go_enter Try.func22, Try.ntmps22
      go_wp2_with (first
        | (go_at_call 63; refine (HT.out _).mono ?_; rintro e1 w3 ⟨rfl, hb⟩; have HB3 := Lib.hid (ujoin HB2.out hb); have HM3 := Lib.hid ((hb.block _ (heap_lt' HL3.out)).trans HL3.out); clear hb)
        | (go_at_call 20; (with_reducible refine (HCT.out _).mono ?_); rintro e1 w2 ⟨rfl, hb⟩; have HB2 := Lib.hid (ujoin HB1.out hb); have HL1 := Lib.hid ((hb.block _ (heap_lt' HK1.out)).trans HK1.out); have HL2 := Lib.hid ((hb.block _ (heap_lt' HK2.out)).trans HK2.out); have HL3 := Lib.hid ((hb.block _ (heap_lt' HK3.out)).trans HK3.out); have x0 : w2.cell? ⟨w.heap.size, 0, none⟩ = some (.int .i64 s.A) := ucell HL1.out 0; have x1 : w2.cell? ⟨w.heap.size, 1, none⟩ = some (.int .i64 s.B) := ucell HL1.out 1; have x2 : w2.cell? ⟨w.heap.size, 2, none⟩ = some (.int .i64 s.C) := ucell HL1.out 2; have x3 : w2.cell? ⟨w.heap.size, 3, none⟩ = some (.int .i64 s.D) := ucell HL1.out 3; have x4 : w2.cell? ⟨w.heap.size, 4, none⟩ = some (.int .i64 s.E) := ucell HL1.out 4; have x5 : w2.cell? ⟨w.heap.size, 5, none⟩ = some (.int .i64 s.F) := ucell HL1.out 5; have x6 : w2.cell? ⟨w.heap.size, 6, none⟩ = some (.int .i64 s.Q) := ucell HL1.out 6; have y0 : w2.cell? ⟨w.heap.size + 1, 0, none⟩ = some (.int .i64 t.A) := ucell HL2.out 0; have y1 : w2.cell? ⟨w.heap.size + 1, 1, none⟩ = some (.int .i64 t.B) := ucell HL2.out 1; have y2 : w2.cell? ⟨w.heap.size + 1, 2, none⟩ = some (.int .i64 t.C) := ucell HL2.out 2; have y3 : w2.cell? ⟨w.heap.size + 1, 3, none⟩ = some (.int .i64 t.D) := ucell HL2.out 3; have y4 : w2.cell? ⟨w.heap.size + 1, 4, none⟩ = some (.int .i64 t.E) := ucell HL2.out 4; have y5 : w2.cell? ⟨w.heap.size + 1, 5, none⟩ = some (.int .i64 t.F) := ucell HL2.out 5; have y6 : w2.cell? ⟨w.heap.size + 1, 6, none⟩ = some (.int .i64 t.Q) := ucell HL2.out 6; clear hb HCT HCS)
        | (go_at_call 20; (with_reducible refine (HCS.out _).mono ?_); rintro e1 w1 ⟨rfl, hb⟩; have HB1 := Lib.hid (ujoin HB0.out hb); have HK1 := Lib.hid ((hb.block _ (heap_lt' hblk.out.1)).trans hblk.out.1); have HK2 := Lib.hid ((hb.block _ (heap_lt' hblk.out.2.1)).trans hblk.out.2.1); have HK3 := Lib.hid ((hb.block _ (heap_lt' hblk.out.2.2.1)).trans hblk.out.2.2.1); have z0 : w1.cell? ⟨w.heap.size + 1, 0, none⟩ = some (.int .i64 t.A) := ucell HK2.out 0; have z1 : w1.cell? ⟨w.heap.size + 1, 1, none⟩ = some (.int .i64 t.B) := ucell HK2.out 1; have z2 : w1.cell? ⟨w.heap.size + 1, 2, none⟩ = some (.int .i64 t.C) := ucell HK2.out 2; have z3 : w1.cell? ⟨w.heap.size + 1, 3, none⟩ = some (.int .i64 t.D) := ucell HK2.out 3; have z4 : w1.cell? ⟨w.heap.size + 1, 4, none⟩ = some (.int .i64 t.E) := ucell HK2.out 4; have z5 : w1.cell? ⟨w.heap.size + 1, 5, none⟩ = some (.int .i64 t.F) := ucell HK2.out 5; have z6 : w1.cell? ⟨w.heap.size + 1, 6, none⟩ = some (.int .i64 t.Q) := ucell HK2.out 6; clear hb)
        | (refine wpList_load_row rfl 32 _ rfl (w.heap.size + 1) rfl 32 _ (0, 0) _ HK2.out Try.underlying32 rfl (by kernel_rfl) ?_)
        | (refine wpList_store_row rfl 32 _ _ rfl (w.heap.size + 2) #[.int .i64 r.A, .int .i64 r.B, .int .i64 r.C, .int .i64 r.D, .int .i64 r.E, .int .i64 r.F, .int .i64 r.Q] rfl rfl 32 _ HM3.out (by kernel_rfl) rfl (by kernel_rfl) ?_))
      refine bodyPost_ret (ret_warp rfl _ _ (w.heap.size + 2) _ rfl (setRow_heap _ _ _ _ _ _ HM3.out) rfl) rfl ?_
      exact ⟨by rw [HF.out]; rfl, wbelow_setRow HB3.out (by omega) _⟩
end Go.Proofs.Ytdcpeeolfgohmaa
