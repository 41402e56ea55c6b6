/- halideref9.Taps. -/
import Derived.Test.YtdcpeeolfgohmaaRefP
import Derived.Deep.RegionHeld3
namespace Go.Proofs.Ytdcpeeolfgohmaa
open Go.RowKit Go.Proofs.YtdcpeeolfgohmaaW.PrintWords
set_option linter.unusedSimpArgs false
set_option linter.unusedVariables false

set_option maxHeartbeats 1600000 in
set_option maxRecDepth 100000 in
theorem rTaps_err1 (kind from' tt i : Int) (w : World) (h : ¬ (1 ≤ kind ∧ kind ≤ 3)) :
    Calls Try.prog 14 #[.int .i64 kind, .int .i64 from', .int .i64 tt, .int .i64 i] w fun e w' => TapsEnd w kind from' tt i e w' := by
  have E : Hid (tapsErr kind from' tt i = 90) := (show _ = _ from if_pos h)
  by_cases h1 : kind < 1
  · have d1 : decide (kind < 1) = true := decide_eq_true h1
    clear h h1
    go_enter Try.func14, Try.ntmps14
    go_wp2
    go_ret2
    exact .inl ⟨by rw [E.out]; decide, by rw [E.out]; rfl, Below.refl _ _⟩
  · have d1 : decide (kind < 1) = false := decide_eq_false h1
    have d2 : decide (3 < kind) = true := decide_eq_true (by omega)
    clear h h1
    go_enter Try.func14, Try.ntmps14
    go_wp2
    go_ret2
    exact .inl ⟨by rw [E.out]; decide, by rw [E.out]; rfl, Below.refl _ _⟩

set_option maxHeartbeats 1600000 in
set_option maxRecDepth 100000 in
theorem rTaps_err2 (kind from' tt i : Int) (w : World) (h1 : 1 ≤ kind) (h3 : kind ≤ 3) (h : Err2 from' tt i) :
    Calls Try.prog 14 #[.int .i64 kind, .int .i64 from', .int .i64 tt, .int .i64 i] w fun e w' => TapsEnd w kind from' tt i e w' := by
  have E : Hid (tapsErr kind from' tt i = 91) := (show _ = _ by
    unfold tapsErr
    rw [if_neg (by omega), if_pos]
    rintro ⟨a, b, c, d⟩
    rcases h with h | ⟨_, h⟩ | ⟨_, _, h⟩ | ⟨_, _, _, h⟩
    · rw [a] at h; cases h
    · rw [b] at h; cases h
    · omega
    · omega)
  have HS := Lib.hid fun n W => size_calls n W
  have d1 : decide (kind < 1) = false := decide_eq_false (by omega)
  have d2 : decide (3 < kind) = false := decide_eq_false (by omega)
  clear h1 h3
  rcases h with h | ⟨h, h'⟩ | ⟨h, h', h''⟩ | ⟨h, h', h'', h'''⟩
  all_goals
    go_enter Try.func14, Try.ntmps14
    go_wp2_with (go_at_call 52; refine (HS.out _ _).mono ?_; rintro e2 w2 ⟨rfl, rfl⟩)
    go_ret2
    exact .inl ⟨by rw [E.out]; decide, by rw [E.out]; rfl, Below.refl _ _⟩

set_option maxHeartbeats 1600000 in
set_option maxRecDepth 100000 in
theorem rTaps_err3 (kind from' tt i : Int) (w : World) (h1 : 1 ≤ kind) (h3 : kind ≤ 3) (hf : sideB from' = true) (ht : sideB tt = true) (hi0 : 0 ≤ i) (hi1 : i < tt) (hfar : 15 * tt < from') :
    Calls Try.prog 14 #[.int .i64 kind, .int .i64 from', .int .i64 tt, .int .i64 i] w fun e w' => TapsEnd w kind from' tt i e w' := by
  have E : Hid (tapsErr kind from' tt i = 92) := (show _ = _ by
    unfold tapsErr
    rw [if_neg (by omega), if_neg (by simp [hf, ht, hi0, hi1]), if_pos hfar])
  have HS := Lib.hid fun n W => size_calls n W
  have bt := (sideB_iff tt).1 ht
  obtain ⟨bt1, bt2⟩ := bt
  have d1 : decide (kind < 1) = false := decide_eq_false (by omega)
  have d2 : decide (3 < kind) = false := decide_eq_false (by omega)
  clear h1 h3
  go_enter Try.func14, Try.ntmps14
  go_wp2_with (go_at_call 52; refine (HS.out _ _).mono ?_; rintro e2 w2 ⟨rfl, rfl⟩)
  go_ret2
  exact .inl ⟨by rw [E.out]; decide, by rw [E.out]; rfl, Below.refl _ _⟩

set_option maxHeartbeats 3200000 in
set_option maxRecDepth 100000 in
theorem rTaps_ok (kind from' tt i : Int) (w : World) (h : TapsMay kind from' tt i) :
    Calls Try.prog 14 #[.int .i64 kind, .int .i64 from', .int .i64 tt, .int .i64 i] w fun e w' => TapsEnd w kind from' tt i e w' := by
  have E : Hid (tapsErr kind from' tt i = 0) := may_tapsErr h
  have HS := Lib.hid fun n W => size_calls n W
  have MAY := Lib.hid h
  have hf : sideB from' = true := (sideB_iff _).2 ⟨h.f1, h.f2⟩
  have ht : sideB tt = true := (sideB_iff _).2 ⟨h.t1, h.t2⟩
  have hrb := refReach_bd h
  obtain ⟨hk1, hk3, hf1, hf2, ht1, ht2, hi0, hi1, hfar⟩ := h
  have d1 : decide (kind < 1) = false := decide_eq_false (by omega)
  have d2 : decide (3 < kind) = false := decide_eq_false (by omega)
  obtain ⟨m, em⟩ : ∃ m, m = max from' tt := ⟨_, rfl⟩
  have EM := Lib.hid em
  have hm1 : 1 ≤ m := by omega
  have hm2 : m ≤ 1024 := by omega
  have ZM : Hid ((if from' < tt then tt else from') = m) := (show _ = _ by rw [em]; split <;> omega)
  obtain ⟨X, eX⟩ : ∃ X, X = (2 * i + 1) * from' := ⟨_, rfl⟩
  have hx := mul_bd (a := 2 * i + 1) (b := from') (A := 4096) (B := 1024) (by omega) (by omega) (by omega) (by omega)
  rw [← eX] at hx
  obtain ⟨hx1, hx2⟩ := hx
  have WX : IntKind.i64.wrap ((2 * i + 1) * from') = X := by rw [← eX]; exact IntWalk.i64_in _ (by omega)
  obtain ⟨mid, emid⟩ : ∃ mid, mid = refMid from' tt i := ⟨_, rfl⟩
  obtain ⟨rch, erch⟩ : ∃ rch, rch = refReach from' tt := ⟨_, rfl⟩
  have hmb : -10000000 ≤ mid ∧ mid ≤ 10000000 := by
    have h3 := div_bd (X - tt) (2 * tt) (A := 10000000) (by omega) (by omega) (by omega)
    rw [emid, refMid, ← eX]; exact h3
  obtain ⟨hmb1, hmb2⟩ := hmb
  have HF : Hid (∀ W, Calls Try.prog 53 #[.int .i64 (X - tt), .int .i64 (2 * tt)] W fun e w' => e = .returned (.int .i64 mid) ∧ W = w') := fun W => by
    rw [emid, refMid, ← eX]; exact rfloor_calls _ _ W (by omega) (by omega) (by omega)
  rw [← erch] at hrb
  obtain ⟨hrb1, hrb2, _, _⟩ := hrb
  have EX := Lib.hid eX
  have EMID := Lib.hid emid
  have ERCH := Lib.hid erch
  clear em eX emid erch
  go_enter Try.func14, Try.ntmps14
  go_upto_region 8 with (go_at_call 52; refine (HS.out _ _).mono ?_; rintro e2 w2 ⟨rfl, rfl⟩)
  rw [ZM.out]
  go_upto_region 9 with (go_at_call 53; refine (HF.out _).mono ?_; rintro e3 w3 ⟨rfl, rfl⟩)
  have htz : (tt == 0) = false := by rw [beq_eq_false_iff_ne]; omega
  have htz2 : ¬ (tt = 0) := by omega
  go_upto_region 10 with (fail)
  have ZR : Hid (wrap64 (2 * m / tt + 2) = rch) := (show _ = _ by
    rw [ERCH.out, refReach, ← EM.out]
    exact wrap64_id (by have := ERCH.out; unfold refReach at this; rw [← EM.out] at this; omega) (by have := ERCH.out; unfold refReach at this; rw [← EM.out] at this; omega))
  rw [ZR.out]
  obtain ⟨qq, eqq⟩ : ∃ qq, 2 * m / tt = qq := ⟨_, rfl⟩
  rw [eqq]
  clear eqq ZR htz htz2
  go_wp2_with fail
  obtain ⟨N, eN⟩ : ∃ N, N = refN from' tt := ⟨_, rfl⟩
  obtain ⟨F, eF⟩ : ∃ F, F = tapF kind from' tt i := ⟨_, rfl⟩
  have hN : (N : Int) = 2 * rch + 2 := by rw [eN, refN, ← ERCH.out, Int.toNat_of_nonneg (by omega)]
  have EN := Lib.hid eN
  have EF := Lib.hid eF
  have HN := Lib.hid hN
  have hN2 : N ≤ 66 := by omega
  clear eN eF hN
  go_loopg [13, 14, 15, 16, 17] N (fun gk v13 v14 v15 v16 v17 wr => ∃ (k len : Nat) (Ap Aw : Option Addr) (cp cw : Nat) (j : Int), v15 = .int .i64 j ∧ v13 = .slice Ap len cp ∧ v14 = .slice Aw len cw ∧ Hid (j = mid - rch + (k : Int)) ∧ -10001000 ≤ j ∧ j ≤ 10001000 ∧ k ≤ N ∧ N ≤ k + gk ∧ len ≤ 66 ∧
    Hid (len = (tapRun F from' (mid - rch) k).length) ∧ Aside (PwW w (tapRun F from' (mid - rch) k) (.slice Ap len cp) (.slice Aw len cw) wr))
  case atStart => exact ⟨0, 0, none, none, 0, 0, mid - rch, by go_num, rfl, rfl, (show _ = _ by omega), by omega, by omega, by omega, by omega, by omega, rfl, ⟨Below.refl _ _, own_nil _ _ _ _, own_nil _ _ _ _, ne_nil _⟩⟩
  case round =>
    obtain ⟨k, len, Ap, Aw, cp, cw, j, rfl, rfl, rfl, EJ, hj1, hj2, hk, hgk, hlen, HLEN, HPW⟩ := hrel
    by_cases hlt : k < N
    · have hjj : mid - rch ≤ j ∧ j ≤ mid + 1 + rch := by have := EJ.out; have := HN.out; omega
      have hd0 : decide (j ≤ mid + 1 + rch) = true := decide_eq_true hjj.2
      have HJ1 : Hid (j + 1 = mid - rch + ((k + 1 : Nat) : Int)) := (show _ = _ by have := EJ.out; omega)
      have hjn : j + 1 ≤ 10001000 := by have := EJ.out; have := HN.out; omega
      obtain ⟨a, ea⟩ : ∃ a, a = atOf from' tt i j := ⟨_, rfl⟩
      have hab := ref_at MAY.out j (by rw [← EMID.out, ← ERCH.out]; exact hjj.1) (by rw [← EMID.out, ← ERCH.out]; exact hjj.2)
      rw [← ea] at hab
      obtain ⟨hab1, hab2⟩ := hab
      have ea2 : a = 2 * tt * j - X + tt := by rw [ea, EX.out]; rfl
      obtain ⟨p1, ep1⟩ : ∃ p1, p1 = 2 * tt * j := ⟨_, rfl⟩
      rw [← ep1] at ea2
      have W1 : IntKind.i64.wrap (2 * tt * j) = p1 := by rw [← ep1]; exact IntWalk.i64_in _ (by omega)
      obtain ⟨p2, ep2⟩ : ∃ p2, p2 = p1 - X := ⟨_, rfl⟩
      have W2 : IntKind.i64.wrap (p1 - X) = p2 := by rw [ep2]; exact IntWalk.i64_in _ (by omega)
      have W3 : IntKind.i64.wrap (p2 + tt) = a := by rw [ep2, ← ea2]; exact IntWalk.i64_in _ (by omega)
      obtain ⟨nn, enn⟩ : ∃ nn, nn = F j := ⟨_, rfl⟩
      have FAT : Hid (nn = wK kind a (2 * m)) := (show _ = _ by rw [enn, EF.out, ea, EM.out]; rfl)
      have HW : Hid (∀ W, Calls Try.prog 54 #[.int .i64 kind, .int .i64 a, .int .i64 (2 * m)] W fun e w' => e = .returned (.int .i64 nn) ∧ W = w') := fun W => by
        rw [FAT.out]; exact rWeight_calls kind a (2 * m) W hk1 hk3 (by omega) (by omega) (by omega) (by omega)
      have hnb := wK_bd kind a (2 * m) (by omega) (by omega)
      rw [← FAT.out] at hnb
      obtain ⟨hnb1, hnb2⟩ := hnb
      have ENN := Lib.hid enn
      have NEXT0 : Hid (nn = 0 → tapRun F from' (mid - rch) (k + 1) = tapRun F from' (mid - rch) k) := fun h => tapStep_zero (by rw [← EJ.out, ← ENN.out, h])
      clear ea ea2 ep1 ep2 enn hjj
      go_upto_region 15 with (go_at_call 54; refine (HW.out _).mono ?_; rintro e4 w4 ⟨rfl, rfl⟩)
      clear W1 W2 W3 HW hd0
      by_cases hn0 : nn = 0
      · have hd : (nn == 0) = true := beq_iff_eq.2 hn0
        have F0 := Lib.hid (NEXT0.out hn0)
        clear hn0
        go_wp2
        go_roundg (N - (k + 1))
        case measure => omega
        case rel => exact ⟨k + 1, len, Ap, Aw, cp, cw, j + 1, by go_num, rfl, rfl, HJ1, by omega, by omega, by omega, by omega, hlen, (by rw [F0.out]; exact HLEN), (by rw [F0.out]; exact HPW)⟩
      · have hd : (nn == 0) = false := beq_eq_false_iff_ne.2 hn0
        have HN0 := Lib.hid hn0
        clear hn0 NEXT0
        go_upto_region 17 with (fail)
        obtain ⟨p, ep⟩ : ∃ p, p = clampP from' j := ⟨_, rfl⟩
        have ZP : Hid ((if from' - 1 < if j < 0 then 0 else j then from' - 1 else if j < 0 then 0 else j) = p) := (show _ = _ by rw [ep]; unfold clampP; split <;> split <;> omega)
        obtain ⟨jj, ejj⟩ : ∃ jj, (if j < 0 then 0 else j) = jj := ⟨_, rfl⟩
        have ZJ := Lib.hid ejj
        have EPL := Lib.hid ep
        clear ep ejj
        rw [ZP.out, ZJ.out]
        clear ZP ZJ
        obtain ⟨L, eL⟩ : ∃ L, L = tapRun F from' (mid - rch) k := ⟨_, rfl⟩
        have EL := Lib.hid eL
        rw [← eL] at HLEN HPW
        have STEP : Hid (tapRun F from' (mid - rch) (k + 1) = if L ≠ [] ∧ (L.getLast?.getD (0, 0)).1 = p then L.dropLast ++ [(p, (L.getLast?.getD (0, 0)).2 + nn)] else L ++ [(p, nn)]) := (show _ = _ by
          rw [tapRun, ← EJ.out, tapStep, if_neg (by rw [← ENN.out]; exact HN0.out), ← EL.out, ← EPL.out, ← ENN.out])
        have hkl : len ≤ k := by have := tapRun_len F from' (mid - rch) k; rw [HLEN.out, EL.out]; exact this
        have hszw : -2199023255552 ≤ (L.getLast?.getD (0, 0)).2 ∧ (L.getLast?.getD (0, 0)).2 ≤ 2199023255552 := by
          by_cases hL : L = []
          · rw [hL]; simp
          · have h1 := (wSize_get L (L.length - 1) (by have := List.length_pos_iff.2 hL; omega)).1
            have h2 := tapRun_size F from' (mid - rch) (B := 17179869184) (fun j => by rw [EF.out]; exact wK_bd _ _ _ (by omega) (by omega)) k
            rw [← EL.out] at h2
            have h3 : (k : Int) * 17179869184 ≤ 66 * 17179869184 := Int.mul_le_mul_of_nonneg_right (by omega) (by omega)
            rw [List.getLast?_eq_getElem?, ← List.getD_eq_getElem?_getD]
            omega
        obtain ⟨hsz1, hsz2⟩ := hszw
        clear eL
        by_cases hB : L ≠ [] ∧ (L.getLast?.getD (0, 0)).1 = p
        · -- the same place once more
          have hlen0 : 0 < len := by rw [HLEN.out]; exact List.length_pos_iff.2 hB.1
          obtain ⟨u, eu⟩ : ∃ u, u = (L.getLast?.getD (0, 0)).2 := ⟨_, rfl⟩
          rw [← eu] at hsz1 hsz2
          obtain ⟨g1, rfl⟩ := own_some HPW.out.op (by rw [← HLEN.out]; exact hlen0)
          obtain ⟨g2, rfl⟩ := own_some HPW.out.ow (by rw [← HLEN.out]; exact hlen0)
          have lr := last_rd hB.1
          have hlp : 0 < L.length := List.length_pos_iff.2 hB.1
          have hop := HPW.out.op
          have how := HPW.out.ow
          rw [HLEN.out] at hop how
          have k1 := (own_at hop ((L.length : Int) - 1) (by omega) (by omega)).1
          have k2 := own_at how ((L.length : Int) - 1) (by omega) (by omega)
          clear hop how hlp
          obtain ⟨k2, k3⟩ := k2
          rw [lr.1, hB.2] at k1
          rw [lr.2, ← eu] at k2
          rw [← HLEN.out, show ((len : Int) - 1).toNat = len - 1 by omega] at k1 k2 k3
          have hlz : (0 : Int) < (len : Int) := by omega
          have hpp : (p == p) = true := beq_iff_eq.2 rfl
          have HEU := Lib.hid eu
          have HBB := Lib.hid hB
          clear lr eu hB
          go_wp2
          go_roundg (N - (k + 1))
          case measure => omega
          case rel =>
            have hs := HPW.out
            rw [HLEN.out] at hs
            have hs2 := PwW.setW hs HBB.out.1 p (u + nn) HBB.out.2
            have e : tapRun F from' (mid - rch) (k + 1) = L.dropLast ++ [(p, u + nn)] := by rw [STEP.out, if_pos HBB.out, ← HEU.out]
            refine ⟨k + 1, len, _, _, cp, cw, j + 1, by go_num, rfl, rfl, HJ1, by omega, by omega, by omega, by omega, hlen, ?_, ?_⟩
            · rw [e, (last_set HBB.out.1 p (u + nn) HBB.out.2).2.2]; exact HLEN
            · rw [e]
              rw [← HLEN.out, show ((len : Int) - 1).toNat = len - 1 by omega] at hs2
              exact hs2
        · -- a new place
          have e : tapRun F from' (mid - rch) (k + 1) = L ++ [(p, nn)] := by rw [STEP.out, if_neg hB]
          have HE := Lib.hid e
          clear e
          have hop : wr.ownsRow w.heap.size 3 1 (.slice Ap len cp) (numsP L).length (nums .i64 (numsP L)) := by rw [numsP_len]; exact HPW.out.op
          have how : wr.ownsRow w.heap.size 3 1 (.slice Aw len cw) (numsW L).length (nums .i64 (numsW L)) := by rw [numsW_len]; exact HPW.out.ow
          have HOP := Aside0.mk hop
          have HOW := Aside0.mk how
          have HBE := Aside0.mk HPW.out.be
          have HNE := Aside0.mk HPW.out.ne
          have hll : (numsP L).length ≤ 66 ∧ (numsW L).length ≤ 66 := by rw [numsP_len, numsW_len, ← HLEN.out]; omega
          obtain ⟨hll1, hll2⟩ := hll
          clear hop how
          go_cut [113] (fun v wc => v = .bool false ∧ wr = wc)
          case first =>
            by_cases hl0 : L = []
            · obtain rfl : len = 0 := by rw [HLEN.out, hl0]; rfl
              clear hl0 hB
              go_wp2_with fail
              go_meet
              case rel => exact ⟨rfl, rfl⟩
            · have hlp : 0 < L.length := List.length_pos_iff.2 hl0
              have hlen0 : 0 < len := by rw [HLEN.out]; exact hlp
              obtain ⟨g1, rfl⟩ := own_some HPW.out.op hlp
              have hop := HPW.out.op
              rw [HLEN.out] at hop
              have k1 := (own_at hop ((L.length : Int) - 1) (by omega) (by omega)).1
              rw [(last_rd hl0).1, ← HLEN.out, show ((len : Int) - 1).toNat = len - 1 by omega] at k1
              obtain ⟨lp, elp⟩ : ∃ lp, lp = (L.getLast?.getD (0, 0)).1 := ⟨_, rfl⟩
              rw [← elp] at k1
              have hpp : (lp == p) = false := beq_eq_false_iff_ne.2 fun h => hB ⟨hl0, by rw [← elp]; exact h⟩
              have hlz : (0 : Int) < (len : Int) := by omega
              clear elp hB hl0 hop hlp
              go_wp2_with fail
              go_meet
              case rel => exact ⟨rfl, rfl⟩
          case rest =>
            obtain ⟨rfl, rfl⟩ := hcut
            clear HPW hB
            go_wp2_with (first
              | (at_builtin; refine print_append_num (P := Try.prog) (w0 := w) (W := wr) w.heap.size rfl (.tmp 127) (.tmp 129) 93 3 .i64 8 rfl Try.underlying93 info_int (by decide) (.slice Ap len cp) (numsP L) p rfl rfl HOP.out HBE.out HBE.out.size ?hl ?_; (case hl => omega); intro v1 w3 hown hbel hg hat; have HOW3 := Aside0.mk (HOW.out.kept hg (ne_other HNE.out)); have HNE3 := Aside0.mk (ne_append HNE.out hat HOW.out); obtain ⟨A1, q1, rfl⟩ := own_slice hown; have HOP3 := Aside0.mk hown; have HBE3 := Aside0.mk hbel; clear hown hbel hg hat)
              | (at_builtin; refine print_append_num (P := Try.prog) (w0 := w) (W := w3) w.heap.size rfl (.tmp 131) (.tmp 133) 93 3 .i64 8 rfl Try.underlying93 info_int (by decide) (.slice Aw len cw) (numsW L) nn rfl rfl HOW3.out HBE3.out HBE3.out.size ?hl ?_; (case hl => omega); intro v2 w4 hown hbel hg hat; have HOP4 := Aside0.mk (HOP3.out.kept hg (ne_other (ne_symm HNE3.out))); have HNE4 := Aside0.mk (ne_append' HNE3.out hat HOP3.out); obtain ⟨A2, q2, rfl⟩ := own_slice hown; have HOW4 := Aside0.mk hown; have HBE4 := Aside0.mk hbel; clear hown hbel hg hat))
            go_roundg (N - (k + 1))
            case measure => omega
            case rel =>
              have l1 : (numsP L ++ [p]).length = len + 1 := by rw [List.length_append, numsP_len, ← HLEN.out]; rfl
              have l2 : (numsW L ++ [nn]).length = len + 1 := by rw [List.length_append, numsW_len, ← HLEN.out]; rfl
              have a1 := HOP4.out
              have a2 := HOW4.out
              have a3 := HNE4.out
              rw [l1] at a1 a3
              rw [l2] at a2 a3
              refine ⟨k + 1, len + 1, A1, A2, q1, q2, j + 1, by go_num, by first | rw [numsP_len, ← HLEN.out] | rw [l1], by first | rw [numsW_len, ← HLEN.out] | rw [l2], HJ1, by omega, by omega, by omega, by omega, by omega, ?_, ?_⟩
              · rw [HE.out, List.length_append, ← HLEN.out]; exact rfl
              · rw [HE.out]
                have e1 : (L ++ [(p, nn)]).length = len + 1 := by rw [List.length_append, ← HLEN.out]; rfl
                have e2 : numsP (L ++ [(p, nn)]) = numsP L ++ [p] := by simp [numsP]
                have e3 : numsW (L ++ [(p, nn)]) = numsW L ++ [nn] := by simp [numsW]
                refine ⟨HBE4.out, ?_, ?_, a3⟩
                · rw [e1, e2]; exact a1
                · rw [e1, e3]; exact a2
    · -- behind the last place
      have e : k = N := by omega
      subst e
      have hd0 : decide (j ≤ mid + 1 + rch) = false := decide_eq_false (by have := EJ.out; have := HN.out; omega)
      obtain ⟨L, eL⟩ : ∃ L, L = tapRun F from' (mid - rch) k := ⟨_, rfl⟩
      have EL : Hid (L = tapsOf kind from' tt i) := (show _ = _ by rw [eL, tapsOf_ref MAY.out, EF.out, EN.out, EMID.out, ERCH.out])
      rw [← eL] at HLEN HPW
      have hok := tap_ok MAY.out
      rw [← EL.out] at hok
      have hlp : 0 < L.length := hok.1
      have hop := HPW.out.op
      have how := HPW.out.ow
      obtain ⟨g1, rfl⟩ := own_some hop hlp
      obtain ⟨g2, rfl⟩ := own_some how hlp
      have HSH : Hid (Calls Try.prog 55 #[.slice (some ⟨g2, 0, none⟩) len cw] wr fun e w' => ShareEnd wr len (tapW L) e w') := by
        rw [HLEN.out] at how ⊢
        refine rShare_calls wr L.length cw (tapW L) _ (fun _ => ⟨_, rfl, fun q hq => ?_⟩) (by have := hok.2.1; omega)
        rw [add_plain, ← (rd_P hq).2]
        exact (own_at how (q : Int) (by omega) (by omega)).1
      have HP : Hid (∀ q, q < len → wr.cell? ⟨g1, q, none⟩ = some (.int .i64 (tapP L q))) := fun q hq => by
        rw [HLEN.out] at hop hq
        have h := (own_at hop (q : Int) (by omega) (by omega)).1
        rw [(rd_P hq).1, Int.toNat_natCast] at h
        exact h
      have hgl : g1 < wr.heap.size := own_lt hop g1 rfl
      have HOK : Hid (ShareOk (tapW L) len) := by rw [HLEN.out]; exact hok
      have HBE := Lib.hid HPW.out.be
      clear hop how hok hlp eL HPW
      go_upto_region 22 with (go_at_call 55; refine HSH.out.mono ?_; rintro e5 w5 hq; have HQ0 := Lib.hid hq; clear hq; obtain ⟨bo, S, rfl, HQ⟩ : ∃ bo S, e5 = .returned (.tuple #[.slice (some ⟨bo, 0, none⟩) len len, .int .i64 0]) ∧ Hid (SharedIn wr len (tapW L) (sumTo (tapW L) len) bo S w5) := (by rcases HQ0.out with ⟨_, bo, S, h1, h2⟩ | ⟨h, _⟩; exact ⟨bo, S, h1, h2⟩; exact absurd HOK.out h))
      go_wp2
      have HBW : Hid (Below wr.heap.size wr w5) := HQ.out.be
      obtain ⟨s, es⟩ : ∃ s, s = sumTo (tapW L) len := ⟨_, rfl⟩
      obtain ⟨res, eres⟩ : ∃ res : Nat → Int, res = fun k => shOf (tapW L) s k + ((S k).toNat : Int) := ⟨_, rfl⟩
      have HRES : Hid (IsShares (tapW L) len res) := ⟨S, by have := HQ.out.ts; exact this, fun k _ => by rw [eres, sharesOf, ← es]⟩
      have HBO : Hid (w5.heap[bo]? = some (.cells (arrI len res) 3 (0, 0))) := (show _ = _ by rw [eres, es]; exact HQ.out.io)
      have HP5 : Hid (∀ q, q < len → w5.cell? ⟨g1, q, none⟩ = some (.int .i64 (tapP L q))) := fun q hq => by
        rw [HBW.out.cell (show (⟨g1, q, none⟩ : Addr).block < _ from hgl)]; exact HP.out q hq
      have hgl5 : g1 < w5.heap.size := Nat.lt_of_lt_of_le hgl HBW.out.size
      have hbl5 : bo < w5.heap.size := lt_of_block HBO.out
      have HB5 : Hid (Below w.heap.size w w5) := HBE.out.trans ⟨HBW.out.os, HBW.out.tape, HBW.out.output, HBW.out.size, fun q hq => HBW.out.block q (Nat.lt_of_lt_of_le hq HBE.out.size)⟩
      clear eres es HQ HQ0 HBW HP hgl HSH HBE hd0 hlt hgk hk
      have hl66 := hlen
      go_loopg [20, 21] len (fun kq v20 v21 wr => ∃ (j : Nat) (A : Option Addr) (n5 c5 : Nat), v21 = .int .i64 j ∧ v20 = .slice A n5 c5 ∧ j ≤ len ∧ len ≤ j + kq ∧ Aside (wr.ownsRow w5.heap.size 98 2 (.slice A n5 c5) (tapsTo (tapP L) res j).length (tapCells (tapsTo (tapP L) res j))) ∧ Aside (Below w5.heap.size w5 wr))
      case atStart => exact ⟨0, none, 0, 0, rfl, rfl, by omega, by omega, own_nil _ _ _ _, Below.refl _ _⟩
      case round =>
        obtain ⟨j, A5, n5, c5, rfl, rfl, hj, hjk, HO5, HB6⟩ := hrel
        by_cases hlt : j < len
        · have hltz : (j : Int) < (len : Int) := by omega
          obtain ⟨r, er⟩ : ∃ r, r = res j := ⟨_, rfl⟩
          obtain ⟨q, eq⟩ : ∃ q, q = tapP L j := ⟨_, rfl⟩
          have hbo : wr.heap[bo]? = some (.cells (arrI len res) 3 (0, 0)) := by rw [HB6.out.block bo hbl5]; exact HBO.out
          have c1 := (bcell hbo j).trans (arrI_get len res j hlt)
          have c2 : wr.cell? ⟨g1, j, none⟩ = some (.int .i64 q) := by
            rw [HB6.out.cell (show (⟨g1, j, none⟩ : Addr).block < _ from hgl5), eq]; exact HP5.out j hlt
          rw [← er] at c1
          have ER := Lib.hid er
          have EQ := Lib.hid eq
          have hlen2 := tapsTo_len (tapP L) res j
          obtain ⟨l, el⟩ : ∃ l, l = tapsTo (tapP L) res j := ⟨_, rfl⟩
          rw [← el] at hlen2
          have HO6 : Aside (wr.ownsRow w5.heap.size 98 2 (.slice A5 n5 c5) l.length (tapCells l)) := by rw [el]; exact HO5
          have EL2 := Lib.hid el
          clear hbo er eq el HO5
          by_cases hr0 : r = 0
          · have hd : (r != 0) = false := by rw [hr0]; rfl
            have R0 := Lib.hid hr0
            clear hr0
            go_wp2
            go_roundg (len - (j + 1))
            case measure => omega
            case rel =>
              refine ⟨j + 1, A5, n5, c5, by go_num, rfl, by omega, by omega, ?_, HB6⟩
              have e : tapsTo (tapP L) res (j + 1) = l := by rw [tapsTo, ← EL2.out, ← ER.out, if_pos R0.out, List.append_nil]
              rw [e]; exact HO6
          · have hd : (r != 0) = true := by rw [bne_iff_ne]; exact hr0
            have R0 := Lib.hid hr0
            clear hr0
            go_upto_region 29 with (fail)
            have hgr : ∀ W, Below w5.heap.size w5 W → W.cell? ⟨g1, j, none⟩ = some (.int .i64 q) ∧ W.cell? ⟨bo, j, none⟩ = some (.int .i64 r) := fun W hW => by
              constructor
              · rw [hW.cell (show (⟨g1, j, none⟩ : Addr).block < _ from hgl5), EQ.out]; exact HP5.out j hlt
              · rw [hW.cell (show (⟨bo, j, none⟩ : Addr).block < _ from hbl5), bcell HBO.out, arrI_get len res j hlt, ER.out]
            have HGR := Lib.hid hgr
            clear hgr
            go_region_held3 (fun w' => w'.cell? ⟨g1, j, none⟩ = some (.int .i64 q) ∧ w'.cell? ⟨bo, j, none⟩ = some (.int .i64 r)) (first | go_keep | exact HGR.out _ hbel) ((rw [show (wr.alloc (.cells #[.int .i64 q, .int .i64 r] 98)).drew = wr.drew.alloc (.cells #[.int .i64 q, .int .i64 r] 98) from rfl]; refine step_append_cells (P := Try.prog) (w0 := w5) (W := wr.drew) w5.heap.size (by rfl) (.tmp 154) (.tmp 164) 26 98 (.agg #[.int .i64 0, .int .i64 0]) 2 16 (by rfl) Try.underlying26 info_tap rfl (by decide) (by decide) (.slice A5 n5 c5) l.length (tapCells l) [.int .i64 q, .int .i64 r] (by rfl) (by rfl) rfl (by simp [Value.oneCell']) (own_drew HO6.out) HB6.out.drew HB6.out.size (by omega) ?_; intro v1 w2 hown hbel hg hat; obtain ⟨A1, q1, rfl⟩ := own_slice hown; have HO7 := Aside0.mk hown; have HB7 := Aside0.mk hbel; clear hown hg hat))
            clear hbel
            go_wp2
            go_roundg (len - (j + 1))
            case measure => omega
            case rel =>
              refine ⟨j + 1, A1, _, q1, by go_num, rfl, by omega, by omega, ?_, HB7.out⟩
              have e : tapsTo (tapP L) res (j + 1) = l ++ [(q, r)] := by rw [tapsTo, ← EL2.out, ← ER.out, if_neg R0.out, ← EQ.out]
              rw [e, tapCells_append, List.length_append]; exact HO7.out
        · have hltz : ¬ (j : Int) < (len : Int) := by omega
          have e : j = len := by omega
          subst e
          go_wp2
          go_ret2
          have hl := HLEN.out
          rw [hl, EL.out] at HRES
          have hO := own_weaken HO5.out HB5.out.size
          have hB := HB5.out.trans ⟨HB6.out.os, HB6.out.tape, HB6.out.output, HB6.out.size, fun q hq => HB6.out.block q (Nat.lt_of_lt_of_le hq HB5.out.size)⟩
          rw [hl, EL.out] at hO
          exact .inr ⟨E.out, _, res, rfl, HRES.out, hO, hB⟩

theorem rTaps_calls (kind from' tt i : Int) (w : World) :
    Calls Try.prog 14 #[.int .i64 kind, .int .i64 from', .int .i64 tt, .int .i64 i] w fun e w' => TapsEnd w kind from' tt i e w' := by
  by_cases hk : 1 ≤ kind ∧ kind ≤ 3
  · by_cases hf : sideB from' = true
    · by_cases ht : sideB tt = true
      · by_cases h0 : 0 ≤ i
        · by_cases h1 : i < tt
          · by_cases hfar : 15 * tt < from'
            · exact rTaps_err3 kind from' tt i w hk.1 hk.2 hf ht h0 h1 hfar
            · have bf := (sideB_iff _).1 hf
              have bt := (sideB_iff _).1 ht
              exact rTaps_ok kind from' tt i w ⟨hk.1, hk.2, bf.1, bf.2, bt.1, bt.2, h0, h1, by omega⟩
          · exact rTaps_err2 kind from' tt i w hk.1 hk.2 (.inr (.inr (.inr ⟨hf, ht, h0, by omega⟩)))
        · exact rTaps_err2 kind from' tt i w hk.1 hk.2 (.inr (.inr (.inl ⟨hf, ht, by omega⟩)))
      · exact rTaps_err2 kind from' tt i w hk.1 hk.2 (.inr (.inl ⟨hf, by simpa using ht⟩))
    · exact rTaps_err2 kind from' tt i w hk.1 hk.2 (.inl (by simpa using hf))
  · exact rTaps_err1 kind from' tt i w hk
theorem rTaps_told (kind from' tt i : Int) (w : World) :
    Calls Try.prog 14 #[.int .i64 kind, .int .i64 from', .int .i64 tt, .int .i64 i] w fun e w' => TapsTold w kind from' tt i e w' :=
  (rTaps_calls kind from' tt i w).mono fun _ _ h => h.told
end Go.Proofs.Ytdcpeeolfgohmaa
