/- halideref2.PlusNum of two numbers. -/
import Derived.Test.YtmeifciagepmpaaPlus
namespace Go.Proofs.Ytmeifciagepmpaa
open Go.RowKit Go.Proofs.YtmeifciagepmpaaW.PrintWords
set_option linter.unusedSimpArgs false
set_option linter.unusedVariables false

theorem signed_eq (s : Bool) (m k : Nat) : Ieee.signed s m k = if s then -((m * 2 ^ k : Nat) : Int) else ((m * 2 ^ k : Nat) : Int) := by
  unfold Ieee.signed; rw [Nat.shiftLeft_eq]
theorem plusD_same (s : Bool) (m1 m2 : Nat) (p1 p2 : Int) : plusD (.number s m1 p1) (.number s m2 p2) = .number s (m1 * 2 ^ (p1 - min p1 p2).toNat + m2 * 2 ^ (p2 - min p1 p2).toNat) (min p1 p2) := by
  unfold plusD Ieee.Datum.sum
  simp only [Option.getD_some]
  rw [signed_eq, signed_eq]
  generalize m1 * 2 ^ (p1 - min p1 p2).toNat = X
  generalize m2 * 2 ^ (p2 - min p1 p2).toNat = Y
  cases s
  · simp only [Bool.false_eq_true, if_false]
    congr 1
    · by_cases h : (X : Int) + (Y : Int) = 0
      · rw [if_pos h]; rfl
      · rw [if_neg h]; exact decide_eq_false (by omega)
  · simp only [if_true]
    congr 1
    · by_cases h : -(X : Int) + -(Y : Int) = 0
      · rw [if_pos h]; rfl
      · rw [if_neg h]; exact decide_eq_true (by omega)
    · omega
theorem plusD_diff (s : Bool) (m1 m2 : Nat) (p1 p2 : Int) (X Y : Nat) (hX : X = m1 * 2 ^ (p1 - min p1 p2).toNat) (hY : Y = m2 * 2 ^ (p2 - min p1 p2).toNat) :
    plusD (.number s m1 p1) (.number (!s) m2 p2) = if X < Y then .number (!s) (Y - X) (min p1 p2) else if X = Y then .number false 0 (min p1 p2) else .number s (X - Y) (min p1 p2) := by
  unfold plusD Ieee.Datum.sum
  simp only [Option.getD_some]
  rw [signed_eq, signed_eq, ← hX, ← hY]
  cases s
  · simp only [Bool.false_eq_true, if_false, Bool.not_false, if_true]
    by_cases h1 : X < Y
    · rw [if_pos h1, if_neg (by omega)]
      congr 1
      · exact decide_eq_true (by omega)
      · omega
    · rw [if_neg h1]
      by_cases h2 : X = Y
      · rw [if_pos h2, if_pos (by omega)]
        congr 1; omega
      · rw [if_neg h2, if_neg (by omega)]
        congr 1
        · exact decide_eq_false (by omega)
        · omega
  · simp only [Bool.not_true, Bool.false_eq_true, if_false, if_true]
    by_cases h1 : X < Y
    · rw [if_pos h1, if_neg (by omega)]
      congr 1
      · exact decide_eq_false (by omega)
      · omega
    · rw [if_neg h1]
      by_cases h2 : X = Y
      · rw [if_pos h2, if_pos (by omega)]
        congr 1; omega
      · rw [if_neg h2, if_neg (by omega)]
        congr 1
        · exact decide_eq_true (by omega)
        · omega

theorem keep11 {w0 W W' : World} {p0 p1 p2 p3 p4 q0 q1 q2 q3 q4 : Addr} {u0 u1 u2 u3 u4 v0 v1 v2 v3 v4 : Value} (hb : Below W.heap.size W W')
    (h : W.cell? p0 = some u0 ∧ W.cell? p1 = some u1 ∧ W.cell? p2 = some u2 ∧ W.cell? p3 = some u3 ∧ W.cell? p4 = some u4 ∧ W.cell? q0 = some v0 ∧ W.cell? q1 = some v1 ∧ W.cell? q2 = some v2 ∧ W.cell? q3 = some v3 ∧ W.cell? q4 = some v4 ∧ Below w0.heap.size w0 W) :
    W'.cell? p0 = some u0 ∧ W'.cell? p1 = some u1 ∧ W'.cell? p2 = some u2 ∧ W'.cell? p3 = some u3 ∧ W'.cell? p4 = some u4 ∧ W'.cell? q0 = some v0 ∧ W'.cell? q1 = some v1 ∧ W'.cell? q2 = some v2 ∧ W'.cell? q3 = some v3 ∧ W'.cell? q4 = some v4 ∧ Below w0.heap.size w0 W' := by
  have kp : ∀ {p : Addr} {v : Value}, W.cell? p = some v → W'.cell? p = some v := fun h => (hb.cell (World.block_lt_of_cell? _ _ h)).trans h
  obtain ⟨a, b, c, d, e, f, g, i, j, k, l⟩ := h
  exact ⟨kp a, kp b, kp c, kp d, kp e, kp f, kp g, kp i, kp j, kp k, ujoin l hb⟩

set_option maxHeartbeats 6400000 in
set_option maxRecDepth 100000 in
theorem plus_num (s1 s2 : Bool) (m1 m2 : Nat) (p1 p2 : Int) (A1 A2 : Option Addr) (c1 c2 : Nat) (w : World) (hn1 : NatAt w (.slice A1 (len32 m1) c1) m1) (hn2 : NatAt w (.slice A2 (len32 m2) c2) m2)
    (hl1 : len32 m1 ≤ 10000) (hl2 : len32 m2 ≤ 10000) (hp1 : -100000 ≤ p1) (hp1' : p1 ≤ 100000) (hp2 : -100000 ≤ p2) (hp2' : p2 ≤ 100000) :
    Calls Try.prog 90 #[numV 2 s1 A1 (len32 m1) c1 p1 false, numV 2 s2 A2 (len32 m2) c2 p2 false] w fun e w' => NumEnd w (plusD (.number s1 m1 p1) (.number s2 m2 p2)) e w' := by
  have HN1 := Lib.hid hn1
  have HN2 := Lib.hid hn2
  obtain ⟨b, eb⟩ : ∃ b, b = min p1 p2 := ⟨_, rfl⟩
  obtain ⟨k1, ek1⟩ : ∃ k, k = (p1 - b).toNat := ⟨_, rfl⟩
  obtain ⟨k2, ek2⟩ : ∃ k, k = (p2 - b).toNat := ⟨_, rfl⟩
  obtain ⟨X, eX⟩ : ∃ X, X = m1 * 2 ^ k1 := ⟨_, rfl⟩
  obtain ⟨Y, eY⟩ : ∃ Y, Y = m2 * 2 ^ k2 := ⟨_, rfl⟩
  have hk1 : k1 ≤ 200000 := by omega
  have hk2 : k2 ≤ 200000 := by omega
  have hlX : len32 X ≤ 20000 := by rw [eX]; have := len_up (a := m1) (n := k1); omega
  have hlY : len32 Y ≤ 20000 := by rw [eY]; have := len_up (a := m2) (n := k2); omega
  have HSAME : Hid (∀ s, plusD (.number s m1 p1) (.number s m2 p2) = .number s (X + Y) b) := fun s => by rw [plusD_same, eX, eY, ek1, ek2, eb]
  have HDIFF : Hid (∀ s, plusD (.number s m1 p1) (.number (!s) m2 p2) = if X < Y then .number (!s) (Y - X) b else if X = Y then .number false 0 b else .number s (X - Y) b) := fun s => by
    rw [plusD_diff s m1 m2 p1 p2 X Y (by rw [eX, ek1, eb]) (by rw [eY, ek2, eb]), eb]
  have D1 : IntKind.i64.wrap (p1 - b) = (k1 : Int) := by rw [IntWalk.i64_in _ (by omega)]; omega
  have D2 : IntKind.i64.wrap (p2 - b) = (k2 : Int) := by rw [IntWalk.i64_in _ (by omega)]; omega
  have HZ : Hid ((if p2 < p1 then p2 else p1) = b) := (show _ = _ by rw [eb]; split <;> omega)
  have HU1 : Hid (∀ W, Below w.heap.size w W → Calls Try.prog 81 #[.slice A1 (len32 m1) c1, .int .i64 (k1 : Int)] W fun e w' => NatEnd W X e w') := fun W hb => by rw [eX]; exact up_calls W _ m1 k1 (hn1.below hb) (by omega) (by omega)
  have HU2 : Hid (∀ W, Below w.heap.size w W → Calls Try.prog 81 #[.slice A2 (len32 m2) c2, .int .i64 (k2 : Int)] W fun e w' => NatEnd W Y e w') := fun W hb => by rw [eY]; exact up_calls W _ m2 k2 (hn2.below hb) (by omega) (by omega)
  obtain ⟨n1, en1⟩ : ∃ n, n = len32 m1 := ⟨_, rfl⟩
  obtain ⟨n2, en2⟩ : ∃ n, n = len32 m2 := ⟨_, rfl⟩
  rw [← en1] at HU1 ⊢
  rw [← en2] at HU2 ⊢
  clear hn1 hn2 eb ek1 ek2 eX eY en1 en2 hl1 hl2
  unfold numV
  have HS0 := TwoS.start w 2 s1 A1 n1 c1 p1 false 2 s2 A2 n2 c2 p2 false
  obtain ⟨g1, eg1⟩ : ∃ g, g = w.heap.size := ⟨_, rfl⟩
  obtain ⟨g2, eg2⟩ : ∃ g, g = w.heap.size + 1 := ⟨_, rfl⟩
  obtain ⟨h3, eg3⟩ : ∃ g, g = w.heap.size + 1 + 1 := ⟨_, rfl⟩
  rw [← eg3, ← eg2, ← eg1] at HS0
  have EG1 := Lib.hid eg1
  have EG2 := Lib.hid eg2
  have EG3 := Lib.hid eg3
  clear eg1 eg2 eg3
  go_enter Try.func90, Try.ntmps90
  go_upto_region 1 with (fail)
  rw [← EG3.out, ← EG2.out, ← EG1.out]
  unfold zeroNum at HS0
  generalize ((w.alloc (.cells #[.int .i64 2, .bool s1, .slice A1 n1 c1, .int .i64 p1, .bool false] 62)).alloc (.cells #[.int .i64 2, .bool s2, .slice A2 n2 c2, .int .i64 p2, .bool false] 62)).alloc (.cells #[.int .i64 0, .bool false, .slice none 0 0, .int .i64 0, .bool false] 62) = w0 at HS0 ⊢
  have HS := Lib.hid HS0
  obtain ⟨x0, x1, x2, x3, x4⟩ := HS.out.x
  obtain ⟨y0, y1, y2, y3, y4⟩ := HS.out.y
  clear HS0
  go_upto_region 8 with (fail)
  rw [HZ.out]
  have C1 := Lib.hid (HU1.out w0.drew HS.out.be.drew)
  clear HZ HU1
  go_region_held3 (fun w' => w'.cell? ⟨g1, 0, none⟩ = some (.int .i64 2) ∧ w'.cell? ⟨g1, 1, none⟩ = some (.bool s1) ∧ w'.cell? ⟨g1, 2, none⟩ = some (.slice A1 n1 c1) ∧ w'.cell? ⟨g1, 3, none⟩ = some (.int .i64 p1) ∧ w'.cell? ⟨g1, 4, none⟩ = some (.bool false) ∧
      w'.cell? ⟨g2, 0, none⟩ = some (.int .i64 2) ∧ w'.cell? ⟨g2, 1, none⟩ = some (.bool s2) ∧ w'.cell? ⟨g2, 2, none⟩ = some (.slice A2 n2 c2) ∧ w'.cell? ⟨g2, 3, none⟩ = some (.int .i64 p2) ∧ w'.cell? ⟨g2, 4, none⟩ = some (.bool false) ∧ Below w0.heap.size w0 w')
    (first | exact ⟨x0, x1, x2, x3, x4, y0, y1, y2, y3, y4, (Below.refl _ _).drew⟩ | exact keep11 hbel ‹_›) (first
    | (go_at_call 81; (with_reducible refine (C1.out).mono ?_); rintro e1 w4 ⟨v, rfl, ⟨B1, d1, rfl, hd1, hr1⟩, hbel⟩; have HX := Lib.hid (show NatAt w4 (.slice B1 (len32 X) d1) X from ⟨B1, d1, rfl, hd1, hr1⟩); have HS4 := Lib.hid (HS.out.drew.below hbel); have C2 := Lib.hid (HU2.out w4 HS4.out.be))
    | (go_at_call 81; (with_reducible refine (C2.out).mono ?_); rintro e1 w5 ⟨v, rfl, ⟨B2, d2, rfl, hd2, hr2⟩, hbel⟩; have HY := Lib.hid (show NatAt w5 (.slice B2 (len32 Y) d2) Y from ⟨B2, d2, rfl, hd2, hr2⟩); have HX5 := Lib.hid (HX.out.below hbel); have HS5 := Lib.hid (HS4.out.below hbel)))
  rename_i hH
  clear hH hbel hd1 hd2 hr1 hr2 x0 x1 x2 x3 x4 y0 y1 y2 y3 y4 C1 C2 D1 D2 HU2 HS HS4 HX
  obtain ⟨x0, x1, x2, x3, x4⟩ := HS5.out.x
  obtain ⟨y0, y1, y2, y3, y4⟩ := HS5.out.y
  obtain ⟨⟨z0, z1, z2, z3, z4⟩, f0, f1, f2, f3, f4⟩ := HS5.out.z.cells
  go_upto_region 9 with (fail)
  by_cases hs : s1 = s2
  · subst hs
    have RES := Lib.hid (HSAME.out s1)
    have HPL := Lib.hid (plus_calls w5.drew _ _ X Y HX5.out HY.out (by omega) (by omega))
    clear z0 z1 z2 z3 z4 f0 f1 f2 f3 f4
    cases s1
    · go_upto_region 10 with (fail)
      go_region_with ((go_at_call 82; refine HPL.out.mono ?_; rintro e1 w6 ⟨v, rfl, ⟨B3, d3, rfl, hd3, hr3⟩, hbel⟩; have HS6 := Lib.hid (HS5.out.drew.below hbel); have HR3 := Lib.hid hr3; have HD3 := Lib.hid hd3; obtain ⟨u0, u1, u2, u3, u4⟩ := HS6.out.x; obtain ⟨⟨z0, z1, z2, z3, z4⟩, f0, f1, f2, f3, f4⟩ := HS6.out.z.cells; clear hbel hr3 hd3))
      all_goals
        go_wp2
        refine bodyPost_ret (v := numV 2 false B3 (len32 (X + Y)) d3 b false) (by simp [results, Try.results90, go_sem, numV, z0, z1, z2, z3, z4]) rfl ?_
        have F := below_num HS6.out.be HS6.out.z HS6.out.lo HR3.out HD3.out false b
        exact ⟨_, rfl, by rw [RES.out]; exact F.1, F.2⟩
    · go_upto_region 10 with (fail)
      go_region_with ((go_at_call 82; refine HPL.out.mono ?_; rintro e1 w6 ⟨v, rfl, ⟨B3, d3, rfl, hd3, hr3⟩, hbel⟩; have HS6 := Lib.hid (HS5.out.drew.below hbel); have HR3 := Lib.hid hr3; have HD3 := Lib.hid hd3; obtain ⟨u0, u1, u2, u3, u4⟩ := HS6.out.x; obtain ⟨⟨z0, z1, z2, z3, z4⟩, f0, f1, f2, f3, f4⟩ := HS6.out.z.cells; clear hbel hr3 hd3))
      all_goals
        go_wp2
        refine bodyPost_ret (v := numV 2 true B3 (len32 (X + Y)) d3 b false) (by simp [results, Try.results90, go_sem, numV, z0, z1, z2, z3, z4]) rfl ?_
        have F := below_num HS6.out.be HS6.out.z HS6.out.lo HR3.out HD3.out true b
        exact ⟨_, rfl, by rw [RES.out]; exact F.1, F.2⟩
  · obtain rfl : s2 = !s1 := by cases s1 <;> cases s2 <;> simp_all
    clear hs
    have RES := Lib.hid (HDIFF.out s1)
    have HCM := Lib.hid (compare_calls w5 _ _ X Y HX5.out HY.out (by omega) (by omega))
    rcases Nat.lt_trichotomy X Y with hxy | hxy | hxy
    · -- the second one is the greater one
      have R := Lib.hid (RES.out.trans (if_pos hxy))
      have CM := cmpN_lt hxy
      have HMI : Hid (∀ W, NatAt W (.slice B1 (len32 X) d1) X → NatAt W (.slice B2 (len32 Y) d2) Y → Calls Try.prog 102 #[.slice B2 (len32 Y) d2, .slice B1 (len32 X) d1] W fun e w' => NatEnd W (Y - X) e w') := fun W h1 h2 => minus_calls W _ _ Y X h2 h1 (Nat.le_of_lt hxy) (by omega)
      rw [CM] at HCM
      clear hxy CM RES HSAME HDIFF z0 z1 z2 z3 z4 f0 f1 f2 f3 f4
      cases s1
      · go_upto_region 16 with (go_at_call 101; refine HCM.out.mono ?_; rintro e1 w6 ⟨rfl, hd⟩; have HS6 := Lib.hid (HS5.out.below hd.below); have HX6 := Lib.hid (HX5.out.below hd.below); have HY6 := Lib.hid (HY.out.below hd.below); have HM6 := Lib.hid (HMI.out w6.drew HX6.out HY6.out); obtain ⟨v0, v1, v2, v3, v4⟩ := HS6.out.x; obtain ⟨t0, t1, t2, t3, t4⟩ := HS6.out.y; clear hd)
        go_region_with ((go_at_call 102; refine HM6.out.mono ?_; rintro e1 w7 ⟨v, rfl, ⟨B3, d3, rfl, hd3, hr3⟩, hbel⟩; have HS7 := Lib.hid (HS6.out.drew.below hbel); have HR3 := Lib.hid hr3; have HD3 := Lib.hid hd3; obtain ⟨u0, u1, u2, u3, u4⟩ := HS7.out.x; obtain ⟨r0, r1, r2, r3, r4⟩ := HS7.out.y; obtain ⟨⟨z0, z1, z2, z3, z4⟩, f0, f1, f2, f3, f4⟩ := HS7.out.z.cells; clear hbel hr3 hd3))
        all_goals
          go_wp2
          refine bodyPost_ret (v := numV 2 true B3 (len32 (Y - X)) d3 b false) (by simp [results, Try.results90, go_sem, numV, z0, z1, z2, z3, z4]) rfl ?_
          have F := below_num HS7.out.be HS7.out.z HS7.out.lo HR3.out HD3.out true b
          exact ⟨_, rfl, by rw [R.out]; exact F.1, F.2⟩
      · go_upto_region 16 with (go_at_call 101; refine HCM.out.mono ?_; rintro e1 w6 ⟨rfl, hd⟩; have HS6 := Lib.hid (HS5.out.below hd.below); have HX6 := Lib.hid (HX5.out.below hd.below); have HY6 := Lib.hid (HY.out.below hd.below); have HM6 := Lib.hid (HMI.out w6.drew HX6.out HY6.out); obtain ⟨v0, v1, v2, v3, v4⟩ := HS6.out.x; obtain ⟨t0, t1, t2, t3, t4⟩ := HS6.out.y; clear hd)
        go_region_with ((go_at_call 102; refine HM6.out.mono ?_; rintro e1 w7 ⟨v, rfl, ⟨B3, d3, rfl, hd3, hr3⟩, hbel⟩; have HS7 := Lib.hid (HS6.out.drew.below hbel); have HR3 := Lib.hid hr3; have HD3 := Lib.hid hd3; obtain ⟨u0, u1, u2, u3, u4⟩ := HS7.out.x; obtain ⟨r0, r1, r2, r3, r4⟩ := HS7.out.y; obtain ⟨⟨z0, z1, z2, z3, z4⟩, f0, f1, f2, f3, f4⟩ := HS7.out.z.cells; clear hbel hr3 hd3))
        all_goals
          go_wp2
          refine bodyPost_ret (v := numV 2 false B3 (len32 (Y - X)) d3 b false) (by simp [results, Try.results90, go_sem, numV, z0, z1, z2, z3, z4]) rfl ?_
          have F := below_num HS7.out.be HS7.out.z HS7.out.lo HR3.out HD3.out false b
          exact ⟨_, rfl, by rw [R.out]; exact F.1, F.2⟩
    · have R := Lib.hid (RES.out.trans ((if_neg (by omega)).trans (if_pos hxy)))
      have CM := cmpN_eq hxy
      rw [CM] at HCM
      clear hxy CM RES HSAME HDIFF z0 z1 z2 z3 z4 f0 f1 f2 f3 f4
      cases s1
      all_goals
        go_wp2_with (go_at_call 101; refine HCM.out.mono ?_; rintro e1 w6 ⟨rfl, hd⟩; have HS6 := Lib.hid (HS5.out.below hd.below); obtain ⟨⟨z0, z1, z2, z3, z4⟩, f0, f1, f2, f3, f4⟩ := HS6.out.z.cells; clear hd)
        refine bodyPost_ret (v := numV 2 false none 0 0 b false) (by simp [results, Try.results90, go_sem, numV, z0, z1, z2, z3, z4]) rfl ?_
        have F := below_num (A := none) (c := 0) (m := 0) HS6.out.be HS6.out.z HS6.out.lo (RowU.nil _ _ _) (Nat.le_refl _) false b
        exact ⟨_, rfl, by rw [R.out]; exact F.1, F.2⟩
    · have R := Lib.hid (RES.out.trans ((if_neg (by omega)).trans (if_neg (by omega))))
      have CM := cmpN_gt hxy
      have HMI : Hid (∀ W, NatAt W (.slice B1 (len32 X) d1) X → NatAt W (.slice B2 (len32 Y) d2) Y → Calls Try.prog 102 #[.slice B1 (len32 X) d1, .slice B2 (len32 Y) d2] W fun e w' => NatEnd W (X - Y) e w') := fun W h1 h2 => minus_calls W _ _ X Y h1 h2 (Nat.le_of_lt hxy) (by omega)
      rw [CM] at HCM
      clear hxy CM RES HSAME HDIFF z0 z1 z2 z3 z4 f0 f1 f2 f3 f4
      cases s1
      · go_upto_region 15 with (go_at_call 101; refine HCM.out.mono ?_; rintro e1 w6 ⟨rfl, hd⟩; have HS6 := Lib.hid (HS5.out.below hd.below); have HX6 := Lib.hid (HX5.out.below hd.below); have HY6 := Lib.hid (HY.out.below hd.below); have HM6 := Lib.hid (HMI.out w6.drew HX6.out HY6.out); obtain ⟨v0, v1, v2, v3, v4⟩ := HS6.out.x; obtain ⟨t0, t1, t2, t3, t4⟩ := HS6.out.y; clear hd)
        go_region_with ((go_at_call 102; refine HM6.out.mono ?_; rintro e1 w7 ⟨v, rfl, ⟨B3, d3, rfl, hd3, hr3⟩, hbel⟩; have HS7 := Lib.hid (HS6.out.drew.below hbel); have HR3 := Lib.hid hr3; have HD3 := Lib.hid hd3; obtain ⟨u0, u1, u2, u3, u4⟩ := HS7.out.x; obtain ⟨r0, r1, r2, r3, r4⟩ := HS7.out.y; obtain ⟨⟨z0, z1, z2, z3, z4⟩, f0, f1, f2, f3, f4⟩ := HS7.out.z.cells; clear hbel hr3 hd3))
        all_goals
          go_wp2
          refine bodyPost_ret (v := numV 2 false B3 (len32 (X - Y)) d3 b false) (by simp [results, Try.results90, go_sem, numV, z0, z1, z2, z3, z4]) rfl ?_
          have F := below_num HS7.out.be HS7.out.z HS7.out.lo HR3.out HD3.out false b
          exact ⟨_, rfl, by rw [R.out]; exact F.1, F.2⟩
      · go_upto_region 15 with (go_at_call 101; refine HCM.out.mono ?_; rintro e1 w6 ⟨rfl, hd⟩; have HS6 := Lib.hid (HS5.out.below hd.below); have HX6 := Lib.hid (HX5.out.below hd.below); have HY6 := Lib.hid (HY.out.below hd.below); have HM6 := Lib.hid (HMI.out w6.drew HX6.out HY6.out); obtain ⟨v0, v1, v2, v3, v4⟩ := HS6.out.x; obtain ⟨t0, t1, t2, t3, t4⟩ := HS6.out.y; clear hd)
        go_region_with ((go_at_call 102; refine HM6.out.mono ?_; rintro e1 w7 ⟨v, rfl, ⟨B3, d3, rfl, hd3, hr3⟩, hbel⟩; have HS7 := Lib.hid (HS6.out.drew.below hbel); have HR3 := Lib.hid hr3; have HD3 := Lib.hid hd3; obtain ⟨u0, u1, u2, u3, u4⟩ := HS7.out.x; obtain ⟨r0, r1, r2, r3, r4⟩ := HS7.out.y; obtain ⟨⟨z0, z1, z2, z3, z4⟩, f0, f1, f2, f3, f4⟩ := HS7.out.z.cells; clear hbel hr3 hd3))
        all_goals
          go_wp2
          refine bodyPost_ret (v := numV 2 true B3 (len32 (X - Y)) d3 b false) (by simp [results, Try.results90, go_sem, numV, z0, z1, z2, z3, z4]) rfl ?_
          have F := below_num HS7.out.be HS7.out.z HS7.out.lo HR3.out HD3.out true b
          exact ⟨_, rfl, by rw [R.out]; exact F.1, F.2⟩
end Go.Proofs.Ytmeifciagepmpaa
