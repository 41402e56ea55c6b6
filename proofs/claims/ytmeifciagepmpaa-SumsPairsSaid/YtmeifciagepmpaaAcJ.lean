/- Acc.Over, the walk. -/
import Derived.Test.YtmeifciagepmpaaAcI
namespace Go.Proofs.Ytmeifciagepmpaa
open Go.RowKit Go.Proofs.YtmeifciagepmpaaW.PrintWords
set_option linter.unusedSimpArgs false
set_option linter.unusedVariables false

theorem ret2_u {a b : Nat} {x y : Int} (h1 : a = b) (h2 : x = y) : Ending.returned (.tuple #[.int .u32 (a : Int), .int .i64 x]) = .returned (.tuple #[.int .u32 (b : Int), .int .i64 y]) := by rw [h1, h2]

set_option maxHeartbeats 6400000 in
set_option maxRecDepth 100000 in
theorem acOver_low (w : World) (g : Nat) (d : Int) (hd : d < 1 ∨ 4294967295 < d) :
    Calls Try.prog 70 #[.pointer (some ⟨g, 0, none⟩), .int .i64 d] w fun e w' => e = .returned (.tuple #[.int .u32 0, .int .i64 33]) ∧ w = w' := by
  rcases hd with h | h
  · go_enter Try.func70, Try.ntmps70
    go_wp2
    go_ret2
    exact ⟨rfl, rfl⟩
  · have h1 : ¬ d < 1 := by omega
    go_enter Try.func70, Try.ntmps70
    go_wp2
    go_ret2
    exact ⟨rfl, rfl⟩

set_option maxHeartbeats 6400000 in
set_option maxRecDepth 100000 in
theorem acOver_in (w : World) (g : Nat) (S : Ac) (d : Nat) (hS : AcAt w g S) (hok : AcOk S) (hN : S.n ≤ 1000000000000) (hd1 : 1 ≤ d) (hd2 : d ≤ 4294967295) :
    Calls Try.prog 70 #[.pointer (some ⟨g, 0, none⟩), .int .i64 (d : Int)] w fun e w' => Gives w (.tuple #[.int .u32 ((ovr S d : Nat) : Int), .int .i64 0]) e w' := by
  obtain ⟨f, hbl, hL⟩ := hS
  have HL := Lib.hid hL
  have HA : Hid (AccW w g f (acC S) w) := (show AccW _ _ _ _ _ from ⟨⟨rfl, rfl, rfl, Nat.le_refl _, fun _ _ _ => rfl⟩, hbl⟩)
  have EO : Hid (ovr S d = if 0 < S.nans ∨ (0 < S.up ∧ 0 < S.dn) then 2143289344 else if 0 < S.up then 2139095040 else if 0 < S.dn then 4286578688
    else if S.z = 0 then (if 0 < S.n ∧ S.no = S.n then 2147483648 else 0) else if S.z < 0 then exR S.z.natAbs d + 2147483648 else exR S.z.natAbs d) := (show _ = _ from rfl)
  obtain ⟨res, eres⟩ : ∃ r, r = ovr S d := ⟨_, rfl⟩
  rw [← eres] at EO ⊢
  have hz : S.z.natAbs < P447 := Nat.lt_of_le_of_lt hok.z (p447_277 (by omega))
  have RD := Lib.hid (hL.read hz)
  have hl := Lib.hid (loadVar_limbs hbl)
  obtain ⟨⟨z0, z1, z2, z3, z4⟩, -⟩ := HA.out.counts
  have b1 := hok.nans
  have b2 := hok.up
  have b3 := hok.dn
  have b4 := hok.no
  have e0 : acC S 0 = S.n := rfl
  have e1 : acC S 1 = S.nans := rfl
  have e2 : acC S 2 = S.up := rfl
  have e3 : acC S 3 = S.dn := rfl
  have e4 : acC S 4 = S.no := rfl
  rw [e0] at z0
  rw [e1] at z1
  rw [e2] at z2
  rw [e3] at z3
  rw [e4] at z4
  obtain ⟨n, en⟩ : ∃ n, n = S.n := ⟨_, rfl⟩
  obtain ⟨na, ena⟩ : ∃ n, n = S.nans := ⟨_, rfl⟩
  obtain ⟨up, eup⟩ : ∃ n, n = S.up := ⟨_, rfl⟩
  obtain ⟨dn, edn⟩ : ∃ n, n = S.dn := ⟨_, rfl⟩
  obtain ⟨no, eno⟩ : ∃ n, n = S.no := ⟨_, rfl⟩
  rw [← en] at z0 b1 b2 b3 b4 hN EO
  rw [← ena] at z1 b1 EO
  rw [← eup] at z2 b2 EO
  rw [← edn] at z3 b3 EO
  rw [← eno] at z4 b4 EO
  have h1 : ¬ (d : Int) < 1 := by omega
  have h2 : ¬ (4294967295 : Int) < (d : Int) := by omega
  have hd3 : (0 : Int) ≤ (d : Int) := by omega
  clear hL hbl eres e0 e1 e2 e3 e4 en ena eup edn eno hok hz
  by_cases hna : 0 < na
  · as_aux_lemma =>
    have hb : (0 : Int) < (na : Int) := by omega
    have E : Hid (res = 2143289344) := (show _ = _ by rw [EO.out, if_pos (.inl hna)])
    clear hna EO RD hl
    go_enter Try.func70, Try.ntmps70
    go_wp2
    go_ret2
    exact ⟨ret2_u (a := 2143289344) E.out.symm rfl, Below.refl _ _⟩
  · have hbna : ¬ (0 : Int) < (na : Int) := by omega
    have hna0 := Lib.hid hna
    clear hna
    by_cases hup : 0 < up
    · have hbup : (0 : Int) < (up : Int) := by omega
      by_cases hdn : 0 < dn
      · as_aux_lemma =>
        have hbdn : (0 : Int) < (dn : Int) := by omega
        have E : Hid (res = 2143289344) := (show _ = _ by rw [EO.out, if_pos (.inr ⟨hup, hdn⟩)])
        clear hup hdn hna0 EO RD hl
        go_enter Try.func70, Try.ntmps70
        go_wp2
        go_ret2
        exact ⟨ret2_u (a := 2143289344) E.out.symm rfl, Below.refl _ _⟩
      · as_aux_lemma =>
        have hbdn : ¬ (0 : Int) < (dn : Int) := by omega
        have E : Hid (res = 2139095040) := (show _ = _ by rw [EO.out, if_neg (by have := hna0.out; omega), if_pos hup])
        clear hup hdn hna0 EO RD hl
        go_enter Try.func70, Try.ntmps70
        go_wp2
        go_ret2
        exact ⟨ret2_u (a := 2139095040) E.out.symm rfl, Below.refl _ _⟩
    · have hbup : ¬ (0 : Int) < (up : Int) := by omega
      by_cases hdn : 0 < dn
      · as_aux_lemma =>
        have hbdn : (0 : Int) < (dn : Int) := by omega
        have E : Hid (res = 4286578688) := (show _ = _ by rw [EO.out, if_neg (by have := hna0.out; omega), if_neg hup, if_pos hdn])
        clear hup hdn hna0 EO RD hl
        go_enter Try.func70, Try.ntmps70
        go_wp2
        go_ret2
        exact ⟨ret2_u (a := 4286578688) E.out.symm rfl, Below.refl _ _⟩
      · have hbdn : ¬ (0 : Int) < (dn : Int) := by omega
        have EO2 : Hid (res = if S.z = 0 then (if 0 < n ∧ no = n then 2147483648 else 0) else if S.z < 0 then exR S.z.natAbs d + 2147483648 else exR S.z.natAbs d) := (show _ = _ by rw [EO.out, if_neg (by have := hna0.out; omega), if_neg hup, if_neg hdn])
        have HE := Lib.hid fun k W r => eqA_limbs k W f r
        have HZS : Hid (∀ W, Calls Try.prog 97 #[.agg (arrU 14 f)] W fun e w' => ∃ (b : Nat) (neg : Bool) (h' : Nat → Nat), e = .returned (.tuple #[.slice (some ⟨b, 0, none⟩) 14 14, .bool neg]) ∧ RowU w' (some ⟨b, 0, none⟩) 14 h' ∧ Below W.heap.size W w' ∧ (∀ k, k < 14 → h' k < 4294967296) ∧ vt h' 14 = S.z.natAbs ∧ neg = decide (S.z < 0)) := (show ∀ W, _ from fun W =>
          (lsize_calls W f HL.out.lt).mono fun e w' ⟨b, neg, h', k1, k2, k3, k4, k5⟩ => ⟨b, neg, h', k1, k2, k3, k4, by
            rcases k5 with ⟨q1, q2, q3⟩ | ⟨q1, q2, cy, q3⟩
            · obtain ⟨r1, r2⟩ := RD.out.1 q2
              exact ⟨q3.trans r2, by rw [q1]; exact (decide_eq_false (by omega)).symm⟩
            · obtain ⟨r1, r2⟩ := RD.out.2 q2
              exact ⟨r2 _ _ q3, by rw [q1]; exact (decide_eq_true r1).symm⟩⟩)
        have HVZ : Hid (vt f 14 = 0 ↔ S.z = 0) := (show _ ↔ _ by
          rcases Nat.lt_or_ge (f 13) 2147483648 with q | q
          · obtain ⟨r1, r2⟩ := RD.out.1 q
            rw [r2]; omega
          · obtain ⟨r1, r2⟩ := RD.out.2 q
            refine ⟨fun h => ?_, fun h => by omega⟩
            have h3 := (vt_zero_iff f 14).1 h 13 (by decide)
            omega)
        obtain ⟨ag, eag⟩ : ∃ ag, ag = arrU 14 f := ⟨_, rfl⟩
        rw [← eag] at HE HZS hl
        clear hup hdn hna0 EO RD HL eag
        by_cases hz : S.z = 0
        · have heq := fun k W => HE.out k W true (by rw [HVZ.out]; simp [hz])
          have EO3 : Hid (res = if 0 < n ∧ no = n then 2147483648 else 0) := (show _ = _ by rw [EO2.out, if_pos hz])
          clear HE HZS HVZ hz EO2
          by_cases hn0 : 0 < n
          · have hbn : (0 : Int) < (n : Int) := by omega
            have hbn2 : decide ((0 : Int) < (n : Int)) = true := decide_eq_true hbn
            have hbn3 : decide (0 < n) = true := decide_eq_true hn0
            by_cases hno : no = n
            · as_aux_lemma =>
              have hbo : ((no : Int) == (n : Int)) = true := by rw [beq_iff_eq]; omega
              have E : Hid (res = 2147483648) := (show _ = _ by rw [EO3.out, if_pos ⟨hn0, hno⟩])
              clear EO3 hno hn0
              go_enter Try.func70, Try.ntmps70
              go_wp2_with (refine wpList_load_part rfl 87 _ rfl ⟨g, 0, none⟩ rfl _ hl.out ?_)
              go_quiet (fail)
              go_wp2
              go_ret2
              exact ⟨ret2_u (a := 2147483648) E.out.symm rfl, (Drawn0.mk ⟨_, rfl⟩).below⟩
            · as_aux_lemma =>
              have hbo : ((no : Int) == (n : Int)) = false := by rw [beq_eq_false_iff_ne]; omega
              have E : Hid (res = 0) := (show _ = _ by rw [EO3.out, if_neg (fun h => hno h.2)])
              clear EO3 hno hn0
              go_enter Try.func70, Try.ntmps70
              go_wp2_with (refine wpList_load_part rfl 87 _ rfl ⟨g, 0, none⟩ rfl _ hl.out ?_)
              go_quiet (fail)
              go_wp2
              go_ret2
              exact ⟨ret2_u (a := 0) E.out.symm rfl, (Drawn0.mk ⟨_, rfl⟩).below⟩
          · as_aux_lemma =>
            have hbn : ¬ (0 : Int) < (n : Int) := by omega
            have hbn2 : decide ((0 : Int) < (n : Int)) = false := decide_eq_false hbn
            have hbn3 : decide (0 < n) = false := decide_eq_false hn0
            have E : Hid (res = 0) := (show _ = _ by rw [EO3.out, if_neg (fun h => hn0 h.1)])
            clear EO3 hn0
            go_enter Try.func70, Try.ntmps70
            go_wp2_with (refine wpList_load_part rfl 87 _ rfl ⟨g, 0, none⟩ rfl _ hl.out ?_)
            go_quiet (fail)
            go_wp2
            go_ret2
            exact ⟨ret2_u (a := 0) E.out.symm rfl, (Drawn0.mk ⟨_, rfl⟩).below⟩
        · have heq := fun k W => HE.out k W false (by rw [HVZ.out]; simp [hz])
          have EO3 : Hid (res = if S.z < 0 then exR S.z.natAbs d + 2147483648 else exR S.z.natAbs d) := (show _ = _ by rw [EO2.out, if_neg hz])
          obtain ⟨L, eL⟩ : ∃ L, L = S.z.natAbs := ⟨_, rfl⟩
          obtain ⟨ng, eng⟩ : ∃ ng, ng = decide (S.z < 0) := ⟨_, rfl⟩
          obtain ⟨r, er⟩ : ∃ r, r = exR L d := ⟨_, rfl⟩
          rw [← eL, ← er] at EO3
          rw [← eL, ← eng] at HZS
          have EO4 : Hid (res = if ng = true then r + 2147483648 else r) := (show _ = _ by rw [EO3.out, eng]; simp)
          have hr : r ≤ 2139095040 := by rw [er]; exact exR_lt _ _
          have HXR : Hid (∀ W A (h' : Nat → Nat), RowU W A 14 h' → (∀ k, k < 14 → h' k < 4294967296) → vt h' 14 = L → Calls Try.prog 98 #[.slice A 14 14, .int .u64 (d : Int), .int .i64 149] W fun e w' => Gives W (.int .u32 (r : Int)) e w') := (show ∀ W A h', _ → _ → _ → _ from fun W A h' k1 k2 k3 => by
            rw [er]
            exact xround_calls W A 14 14 h' d L k1 (Nat.le_refl _) (Nat.le_refl _) k2 (by omega) (by omega) k3.symm)
          have hor := u_or_top r (by omega)
          have W1 : IntKind.u64.wrap (d : Int) = (d : Int) := u_w64 _ (by omega)
          clear HE HVZ hz EO2 EO3 eL eng er
          cases ng with
          | true =>
            have E : Hid (res = r + 2147483648) := (show _ = _ from EO4.out)
            clear EO4
            go_enter Try.func70, Try.ntmps70
            go_wp2_with (first
              | (go_at_call 97; refine (HZS.out _).mono ?_; rintro e1 w1 ⟨b, ng, h', rfl, hrow, hbel, hlt, hv, rfl⟩; have HRW := Lib.hid hrow; have HB1 := Lib.hid hbel; have HLT := Lib.hid hlt; have HV := Lib.hid hv; clear hrow hbel hlt hv)
              | (go_at_call 98; refine (HXR.out _ _ _ HRW.out HLT.out HV.out).mono ?_; rintro e1 w2 ⟨rfl, hbel⟩; have HB2 := Lib.hid (ujoin HB1.out hbel); clear hbel)
              | (refine wpList_load_part rfl 87 _ rfl ⟨g, 0, none⟩ rfl _ hl.out ?_))
            go_ret2
            exact ⟨ret2_u E.out.symm rfl, HB2.out⟩
          | false =>
            have E : Hid (res = r) := (show _ = _ from EO4.out)
            clear EO4
            go_enter Try.func70, Try.ntmps70
            go_wp2_with (first
              | (go_at_call 97; refine (HZS.out _).mono ?_; rintro e1 w1 ⟨b, ng, h', rfl, hrow, hbel, hlt, hv, rfl⟩; have HRW := Lib.hid hrow; have HB1 := Lib.hid hbel; have HLT := Lib.hid hlt; have HV := Lib.hid hv; clear hrow hbel hlt hv)
              | (go_at_call 98; refine (HXR.out _ _ _ HRW.out HLT.out HV.out).mono ?_; rintro e1 w2 ⟨rfl, hbel⟩; have HB2 := Lib.hid (ujoin HB1.out hbel); clear hbel)
              | (refine wpList_load_part rfl 87 _ rfl ⟨g, 0, none⟩ rfl _ hl.out ?_))
            go_ret2
            exact ⟨ret2_u E.out.symm rfl, HB2.out⟩
end Go.Proofs.Ytmeifciagepmpaa
