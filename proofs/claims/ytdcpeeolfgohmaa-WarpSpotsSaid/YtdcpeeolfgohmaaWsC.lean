/- halideref28.spots: the walk. -/
import Derived.Test.YtdcpeeolfgohmaaWsA
import Derived.Test.YtdcpeeolfgohmaaWsB
import Derived.Test.YtdcpeeolfgohmaaShareR
import Derived.Deep.RegionHeld3
namespace Go.Proofs.Ytdcpeeolfgohmaa
open Go.RowKit Go.Proofs.YtdcpeeolfgohmaaW.PrintWords
set_option linter.unusedSimpArgs false
set_option linter.unusedVariables false
attribute [local go_sem] Oper.semAt_some

theorem rshare4_calls (q f g : Int) (hq : 1 ≤ q ∧ q ≤ 4096) (hf : 0 ≤ f ∧ f < q) (hg : 0 ≤ g ∧ g < q) (W : World) (ad : Addr) (hr : ∀ i, i < 4 → W.cell? (ad.add i) = some (.int .i64 (wt4 q f g i))) :
    Calls Try.prog 55 #[.slice (some ad) 4 4] W fun e w' => ∃ bo res, e = .returned (.tuple #[.slice (some ⟨bo, 0, none⟩) 4 4, .int .i64 0]) ∧ W.heap.size ≤ bo ∧ w'.heap[bo]? = some (.cells (arrI 4 res) 3 (0, 0)) ∧ IsShared (wt4 q f g) 4 res ∧ Below W.heap.size W w' := by
  obtain ⟨_, _, _, a1, a2⟩ := mulq (q - f) (q - g) (by omega) (by omega)
  obtain ⟨_, _, _, b1, b2⟩ := mulq f (q - g) (by omega) (by omega)
  obtain ⟨_, _, _, c1, c2⟩ := mulq (q - f) g (by omega) (by omega)
  obtain ⟨_, _, _, d1, d2⟩ := mulq f g (by omega) (by omega)
  have hok : ShareOk (wt4 q f g) 4 := by
    refine ⟨by omega, by omega, ?_, ?_⟩
    · intro i hi
      have : i = 0 ∨ i = 1 ∨ i = 2 ∨ i = 3 := by omega
      rcases this with rfl | rfl | rfl | rfl <;> simp only [wt4] <;> omega
    · rw [wt4_sum]
      have := Int.mul_le_mul hq.1 hq.1 (by omega) (by omega)
      omega
  refine (rShare_calls W 4 4 (wt4 q f g) (some ad) (fun _ => ⟨ad, rfl, hr⟩) (by omega)).mono ?_
  rintro e w' (⟨_, bo, S, rfl, hS⟩ | ⟨hno, _⟩)
  · exact ⟨bo, fun k => shOf (wt4 q f g) (sumTo (wt4 q f g) 4) k + ((S k).toNat : Int), rfl, hS.lo, hS.io, ⟨S, hS.ts, fun k _ => rfl⟩, hS.be⟩
  · exact absurd hok hno
/-- What a place's spots are, as a row of the call's own. -/
def SpotsEnd (w : World) (kind border : Int) (t : Wp) (W H x y : Int) (v : Value) (w' : World) : Prop := ∃ L, IsSpots kind border t W H x y L ∧ OwnS w' w.heap.size v L ∧ Below w.heap.size w w'

set_option maxHeartbeats 6400000 in
set_option maxRecDepth 100000 in
theorem rspots_near (w : World) (border : Int) (t : Wp) (W H x y : Int) (hr : RightIn 1 border t W H) (hx : 0 ≤ x ∧ x ≤ 1024) (hy : 0 ≤ y ∧ y ≤ 1024) :
    Calls Try.prog 65 #[.int .i64 1, .int .i64 border, wpV t, .int .i64 W, .int .i64 H, .int .i64 x, .int .i64 y] w fun e w' => ∃ v, e = .returned v ∧ SpotsEnd w 1 border t W H x y v w' := by
  obtain ⟨⟨u1, u2⟩, v1, v2⟩ := fromU_bd hr.wp hx hy
  have hq := hr.q
  obtain ⟨hA, hB, hC, hD, hE, hF, hQ⟩ := hr.wp
  obtain ⟨p1, e1, M1, b1⟩ := mulp t.A x (by omega) (by omega)
  obtain ⟨p2, e2, M2, b2⟩ := mulp t.B y (by omega) (by omega)
  obtain ⟨p3, e3, M3, b3⟩ := mulp t.D x (by omega) (by omega)
  obtain ⟨p4, e4, M4, b4⟩ := mulp t.E y (by omega) (by omega)
  have HU : Hid (fromU t x y = p1 + p2 + t.C ∧ fromV t x y = p3 + p4 + t.F) := (show _ ∧ _ from by unfold fromU fromV; rw [e1, e2, e3, e4]; exact ⟨rfl, rfl⟩)
  rw [HU.out.1] at u1 u2
  rw [HU.out.2] at v1 v2
  clear e1 e2 e3 e4
  have W1 : IntKind.i64.wrap (p1 + p2) = p1 + p2 := IntWalk.i64_in _ (by omega)
  have W3 : IntKind.i64.wrap (p3 + p4) = p3 + p4 := IntWalk.i64_in _ (by omega)
  obtain ⟨u, eu⟩ : ∃ u, u = p1 + p2 + t.C := ⟨_, rfl⟩
  obtain ⟨v, ev⟩ : ∃ u, u = p3 + p4 + t.F := ⟨_, rfl⟩
  rw [← eu] at HU u1 u2
  rw [← ev] at HU v1 v2
  have W2 : IntKind.i64.wrap (p1 + p2 + t.C) = u := by rw [eu]; exact IntWalk.i64_in _ (by omega)
  have W4 : IntKind.i64.wrap (p3 + p4 + t.F) = v := by rw [ev]; exact IntWalk.i64_in _ (by omega)
  obtain ⟨q, eq⟩ : ∃ q, q = t.Q := ⟨_, rfl⟩
  rw [← eq] at hq
  obtain ⟨hq1, hq2⟩ := hq
  have X1 : IntKind.i64.wrap (2 * u) = 2 * u := IntWalk.i64_in _ (by omega)
  have X2 : IntKind.i64.wrap (2 * u + q) = 2 * u + q := IntWalk.i64_in _ (by omega)
  have X3 : IntKind.i64.wrap (2 * v) = 2 * v := IntWalk.i64_in _ (by omega)
  have X4 : IntKind.i64.wrap (2 * v + q) = 2 * v + q := IntWalk.i64_in _ (by omega)
  have X5 : IntKind.i64.wrap (2 * q) = 2 * q := IntWalk.i64_in _ (by omega)
  have HF1 := Lib.hid fun W => floor_calls W (2 * u + q) (2 * q) (by omega) (by omega) (by omega)
  have HF2 := Lib.hid fun W => floor_calls W (2 * v + q) (2 * q) (by omega) (by omega) (by omega)
  have g1 : ((2 * u + q) / (2 * q)).natAbs ≤ (2 * u + q).natAbs := Int.natAbs_ediv_le_natAbs _ _
  have g2 : ((2 * v + q) / (2 * q)).natAbs ≤ (2 * v + q).natAbs := Int.natAbs_ediv_le_natAbs _ _
  obtain ⟨i, ei⟩ : ∃ i, i = (2 * u + q) / (2 * q) := ⟨_, rfl⟩
  obtain ⟨j, ej⟩ : ∃ i, i = (2 * v + q) / (2 * q) := ⟨_, rfl⟩
  rw [← ei] at g1 HF1
  rw [← ej] at g2 HF2
  have HPT := Lib.hid fun w => put_calls w border W H i j 65536 hr.bw hr.bh (by omega) (by omega)
  have HIS : Hid (IsSpots 1 border t W H x y [sptAt border W H i j 65536]) := (show IsSpots _ _ _ _ _ _ _ _ from .inl ⟨rfl, by rw [ei, ej, eq, HU.out.1, HU.out.2]⟩)
  unfold sptAt at HIS
  obtain ⟨a, ea⟩ : ∃ a, a = borderV border W i := ⟨_, rfl⟩
  obtain ⟨b, eb⟩ : ∃ a, a = borderV border H j := ⟨_, rfl⟩
  rw [← ea, ← eb] at HIS
  rw [← ea, ← eb] at HPT
  unfold WGives at HPT
  have hbx := heap_alloc_new w (.cells (wpC t) 32)
  obtain ⟨c0, c1, c2, c3, c4, c5, c6⟩ := wpC_cells0 hbx
  rw [← eq] at c6
  have HBE := Lib.hid ((Below.refl w.heap.size w).alloc (Nat.le_refl _) (.cells (wpC t) 32))
  clear eu ev ei ej ea eb g1 g2 hA hB hC hD hE hF hQ hr hbx HU
  unfold wpV
  unfold wpC at c0 c1 c2 c3 c4 c5 c6 HBE ⊢
  rw [← eq] at c0 c1 c2 c3 c4 c5 c6 HBE
  go_enter Try.func65, Try.ntmps65
  rw [← eq]
  clear eq
  go_upto_region 1 with (fail)
  generalize w.alloc (.cells #[.int .i64 t.A, .int .i64 t.B, .int .i64 t.C, .int .i64 t.D, .int .i64 t.E, .int .i64 t.F, .int .i64 q] 32) = w1 at c0 c1 c2 c3 c4 c5 c6 HBE ⊢
  go_quiet (fail)
  go_upto_region 3 with (fail)
  go_cut [14] (fun v14 wc => ∃ g, v14 = .slice (some ⟨g, 0, none⟩) 1 1 ∧ Hid (wc.heap[g]? = some (.cells #[.int .i64 a, .int .i64 b, .int .i64 65536] 51 (0, 0))) ∧ Hid (w.heap.size ≤ g) ∧ Hid (Below w.heap.size w wc))
  case first =>
    have HSK : Hid (∀ W W' : World, W.cell? ⟨w.heap.size, 6, none⟩ = some (.int .i64 q) → Below W.heap.size W W' → W'.cell? ⟨w.heap.size, 6, none⟩ = some (.int .i64 q)) := (show ∀ W W' : World, _ → _ → _ from fun W W' h hb => (hb.cell (World.block_lt_of_cell? _ _ h)).trans h)
    go_region_held3 (fun W => W.cell? ⟨w.heap.size, 6, none⟩ = some (.int .i64 q)) (first | assumption | exact HSK.out _ _ (by assumption) (by assumption) | exact HSK.out _ _ (by assumption) ((Below.refl _ _).alloc (Nat.le_refl _) _) | simpa using c6) (first
      | (go_at_call 99; (with_reducible refine (HF1.out _).mono ?_); rintro e1 w2 ⟨rfl, rfl⟩)
      | (go_at_call 99; (with_reducible refine (HF2.out _).mono ?_); rintro e1 w2 ⟨rfl, rfl⟩)
      | (go_at_call 98; (with_reducible refine (HPT.out _).mono ?_); rintro e1 w3 ⟨rfl, hb⟩))
    all_goals (go_wp2; go_meet; case rel => exact ⟨_, rfl, heap_alloc_new w3 _, (show _ ≤ _ from Nat.le_trans HBE.out.size hb.size), (show Below _ _ _ from ujoin (ujoin HBE.out (below_drewN0 hb)) ((Below.refl _ _).alloc (Nat.le_refl _) _))⟩)
  case rest =>
    obtain ⟨g, rfl, HG, HLO, HB⟩ := hcut
    go_wp2
    go_ret
    exact ⟨_, rfl, _, HIS.out, OwnS.one HLO.out (s := ⟨a, b, 65536⟩) HG.out, HB.out⟩

set_option maxHeartbeats 6400000 in
set_option maxRecDepth 100000 in
theorem rspots_linear (w : World) (border : Int) (t : Wp) (W H x y : Int) (hr : RightIn 2 border t W H) (hx : 0 ≤ x ∧ x ≤ 1024) (hy : 0 ≤ y ∧ y ≤ 1024) :
    Calls Try.prog 65 #[.int .i64 2, .int .i64 border, wpV t, .int .i64 W, .int .i64 H, .int .i64 x, .int .i64 y] w fun e w' => ∃ v, e = .returned v ∧ SpotsEnd w 2 border t W H x y v w' := by
  obtain ⟨⟨u1, u2⟩, v1, v2⟩ := fromU_bd hr.wp hx hy
  have hq := hr.q
  obtain ⟨hA, hB, hC, hD, hE, hF, hQ⟩ := hr.wp
  obtain ⟨p1, e1, M1, b1⟩ := mulp t.A x (by omega) (by omega)
  obtain ⟨p2, e2, M2, b2⟩ := mulp t.B y (by omega) (by omega)
  obtain ⟨p3, e3, M3, b3⟩ := mulp t.D x (by omega) (by omega)
  obtain ⟨p4, e4, M4, b4⟩ := mulp t.E y (by omega) (by omega)
  have HU : Hid (fromU t x y = p1 + p2 + t.C ∧ fromV t x y = p3 + p4 + t.F) := (show _ ∧ _ from by unfold fromU fromV; rw [e1, e2, e3, e4]; exact ⟨rfl, rfl⟩)
  rw [HU.out.1] at u1 u2
  rw [HU.out.2] at v1 v2
  clear e1 e2 e3 e4
  have W1 : IntKind.i64.wrap (p1 + p2) = p1 + p2 := IntWalk.i64_in _ (by omega)
  have W3 : IntKind.i64.wrap (p3 + p4) = p3 + p4 := IntWalk.i64_in _ (by omega)
  obtain ⟨u, eu⟩ : ∃ u, u = p1 + p2 + t.C := ⟨_, rfl⟩
  obtain ⟨v, ev⟩ : ∃ u, u = p3 + p4 + t.F := ⟨_, rfl⟩
  rw [← eu] at HU u1 u2
  rw [← ev] at HU v1 v2
  have W2 : IntKind.i64.wrap (p1 + p2 + t.C) = u := by rw [eu]; exact IntWalk.i64_in _ (by omega)
  have W4 : IntKind.i64.wrap (p3 + p4 + t.F) = v := by rw [ev]; exact IntWalk.i64_in _ (by omega)
  obtain ⟨q, eq⟩ : ∃ q, q = t.Q := ⟨_, rfl⟩
  rw [← eq] at hq
  obtain ⟨hq1, hq2⟩ := hq
  have HF1 := Lib.hid fun W => floor_calls W u q (by omega) (by omega) (by omega)
  have HF2 := Lib.hid fun W => floor_calls W v q (by omega) (by omega) (by omega)
  have g1 : (u / q).natAbs ≤ u.natAbs := Int.natAbs_ediv_le_natAbs _ _
  have g2 : (v / q).natAbs ≤ v.natAbs := Int.natAbs_ediv_le_natAbs _ _
  have f1 := Int.emod_nonneg u (b := q) (by omega)
  have f2 := Int.emod_lt_of_pos u (b := q) (by omega)
  have f3 := Int.emod_nonneg v (b := q) (by omega)
  have f4 := Int.emod_lt_of_pos v (b := q) (by omega)
  have d1 := Int.mul_ediv_add_emod u q
  have d2 := Int.mul_ediv_add_emod v q
  obtain ⟨i, ei⟩ : ∃ i, i = u / q := ⟨_, rfl⟩
  obtain ⟨j, ej⟩ : ∃ i, i = v / q := ⟨_, rfl⟩
  obtain ⟨f, ef⟩ : ∃ i, i = u % q := ⟨_, rfl⟩
  obtain ⟨g, eg⟩ : ∃ i, i = v % q := ⟨_, rfl⟩
  rw [← ei] at g1 HF1
  rw [← ej] at g2 HF2
  rw [← ei, ← ef] at d1
  rw [← ej, ← eg] at d2
  rw [← ef] at f1 f2
  rw [← eg] at f3 f4
  rw [Int.mul_comm] at d1 d2
  obtain ⟨m1, em1⟩ : ∃ m, m = i * q := ⟨_, rfl⟩
  obtain ⟨m2, em2⟩ : ∃ m, m = j * q := ⟨_, rfl⟩
  rw [← em1] at d1
  rw [← em2] at d2
  have V1 : IntKind.i64.wrap (i * q) = m1 := by rw [em1]; exact IntWalk.i64_in _ (by rw [← em1]; omega)
  have V2 : IntKind.i64.wrap (j * q) = m2 := by rw [em2]; exact IntWalk.i64_in _ (by rw [← em2]; omega)
  have V3 : IntKind.i64.wrap (u - m1) = f := by rw [IntWalk.i64_in _ (by omega)]; omega
  have V4 : IntKind.i64.wrap (v - m2) = g := by rw [IntWalk.i64_in _ (by omega)]; omega
  have V5 : IntKind.i64.wrap (q - f) = q - f := IntWalk.i64_in _ (by omega)
  have V6 : IntKind.i64.wrap (q - g) = q - g := IntWalk.i64_in _ (by omega)
  obtain ⟨s1, y1, N1, a1⟩ := mulq (q - f) (q - g) (by omega) (by omega)
  obtain ⟨s2, y2, N2, a2⟩ := mulq f (q - g) (by omega) (by omega)
  obtain ⟨s3, y3, N3, a3⟩ := mulq (q - f) g (by omega) (by omega)
  obtain ⟨s4, y4, N4, a4⟩ := mulq f g (by omega) (by omega)
  have HSH : Hid (∀ (W : World) (ad : Addr), (W.cell? (ad.add 0) = some (.int .i64 s1) ∧ W.cell? (ad.add 1) = some (.int .i64 s2) ∧ W.cell? (ad.add 2) = some (.int .i64 s3) ∧ W.cell? (ad.add 3) = some (.int .i64 s4)) → Calls Try.prog 55 #[.slice (some ad) 4 4] W fun e w' => ∃ bo res, e = .returned (.tuple #[.slice (some ⟨bo, 0, none⟩) 4 4, .int .i64 0]) ∧ W.heap.size ≤ bo ∧ w'.heap[bo]? = some (.cells (arrI 4 res) 3 (0, 0)) ∧ IsShared (wt4 q f g) 4 res ∧ Below W.heap.size W w') := (show ∀ _ _, _ → _ from fun W ad hc => rshare4_calls q f g ⟨by omega, by omega⟩ ⟨by omega, by omega⟩ ⟨by omega, by omega⟩ W ad fun k hk => by
    have hk4 : k = 0 ∨ k = 1 ∨ k = 2 ∨ k = 3 := by omega
    rcases hk4 with rfl | rfl | rfl | rfl
    · rw [hc.1]; simp only [wt4, y1]
    · rw [hc.2.1]; simp only [wt4, y2]
    · rw [hc.2.2.1]; simp only [wt4, y3]
    · rw [hc.2.2.2]; simp only [wt4, y4])
  have HS : Hid (∀ res, IsShared (wt4 q f g) 4 res → IsSpots 2 border t W H x y (spotsTo border W H i j res 4)) := (show ∀ _, _ from fun res hres => .inr ⟨by decide, res, by rw [← eq, HU.out.1, HU.out.2, ← ef, ← eg]; exact hres, by rw [ei, ej, eq, HU.out.1, HU.out.2]⟩)
  have HPT : Hid (∀ w (a c r : Int), (-34376515584 ≤ a ∧ a ≤ 34376515585) → (-34376515584 ≤ c ∧ c ≤ 34376515585) → Calls Try.prog 98 #[.int .i64 border, .int .i64 W, .int .i64 H, .int .i64 a, .int .i64 c, .int .i64 r] w fun e w' => e = .returned (.agg (sptC (sptAt border W H a c r))) ∧ Below w.heap.size w w') := (show ∀ w _ _ _, _ → _ → _ from fun w a c r h1 h2 => put_calls w border W H a c r hr.bw hr.bh (by omega) (by omega))
  have i1 : -34376515584 ≤ i ∧ i ≤ 34376515584 := by omega
  have j1 : -34376515584 ≤ j ∧ j ≤ 34376515584 := by omega
  have hbx := heap_alloc_new w (.cells (wpC t) 32)
  obtain ⟨c0, c1, c2, c3, c4, c5, c6⟩ := wpC_cells0 hbx
  rw [← eq] at c6
  have HBE := Lib.hid ((Below.refl w.heap.size w).alloc (Nat.le_refl _) (.cells (wpC t) 32))
  clear eu ev ei ej ef eg g1 g2 hA hB hC hD hE hF hQ hr hbx HU y1 y2 y3 y4 a1 a2 a3 a4 d1 d2 em1 em2 f1 f2 f3 f4
  unfold wpV
  unfold wpC at c0 c1 c2 c3 c4 c5 c6 HBE ⊢
  rw [← eq] at c0 c1 c2 c3 c4 c5 c6 HBE
  go_enter Try.func65, Try.ntmps65
  rw [← eq]
  clear eq
  go_upto_region 1 with (fail)
  generalize w.alloc (.cells #[.int .i64 t.A, .int .i64 t.B, .int .i64 t.C, .int .i64 t.D, .int .i64 t.E, .int .i64 t.F, .int .i64 q] 32) = w1 at c0 c1 c2 c3 c4 c5 c6 HBE ⊢
  go_quiet (fail)
  have k6 : (w1.drewN nq).cell? ⟨w.heap.size, 6, none⟩ = some (.int .i64 q) := c6
  have HBE2 : Hid (Below w.heap.size w (w1.drewN nq)) := (show Below _ _ _ from ⟨HBE.out.os, HBE.out.tape, HBE.out.output, HBE.out.size, HBE.out.block⟩)
  go_upto_region 4 with (fail)
  generalize w1.drewN nq = w2 at k6 HBE2 ⊢
  clear c0 c1 c2 c3 c4 c5 c6 HBE
  go_quiet ((first
    | (go_at_call 99; with_reducible exact Calls.quiet_of_same ((HF1.out _).mono fun _ _ h => ⟨h.1, h.2.symm⟩))
    | (go_at_call 99; with_reducible exact Calls.quiet_of_same ((HF2.out _).mono fun _ _ h => ⟨h.1, h.2.symm⟩))))
  have k6' : (w2.drewN nq).cell? ⟨w.heap.size, 6, none⟩ = some (.int .i64 q) := k6
  have HBE3 : Hid (Below w.heap.size w (w2.drewN nq)) := (show Below _ _ _ from ⟨HBE2.out.os, HBE2.out.tape, HBE2.out.output, HBE2.out.size, HBE2.out.block⟩)
  go_upto_region 5 with (fail)
  generalize w2.drewN nq = w3 at k6' HBE3 ⊢
  go_quiet (fail)
  have k7 : (w3.drewN nq).cell? ⟨w.heap.size, 6, none⟩ = some (.int .i64 q) := k6'
  have HBE4 : Hid (Below w.heap.size w (w3.drewN nq)) := (show Below _ _ _ from ⟨HBE3.out.os, HBE3.out.tape, HBE3.out.output, HBE3.out.size, HBE3.out.block⟩)
  go_upto_region 6 with (fail)
  generalize w3.drewN nq = w4 at k7 HBE4 ⊢
  clear k6 k6' HBE2 HBE3 HF1 HF2
  go_wp2_with (go_at_call 55; refine (HSH.out _ _ ⟨ucell (heap_alloc_new w4 _) 0, ucell (heap_alloc_new w4 _) 1, ucell (heap_alloc_new w4 _) 2, ucell (heap_alloc_new w4 _) 3⟩).mono ?_; rintro e1 w5 ⟨bo, res, rfl, hlo, hio, hres, hbl⟩; have HB5 := Lib.hid (ujoin (ujoin HBE4.out ((Below.refl _ w4).alloc (Nat.le_refl _) _)) hbl); have HIO := Lib.hid hio; have HRES := Lib.hid hres; have HLO : Hid (w.heap.size < bo) := (show _ < _ from by have := HBE4.out.size; simp at hlo; omega); clear hlo hio hres hbl k7)
  clear HSH HBE4 N1 N2 N3 N4 V1 V2 V3 V4 V5 V6
  go_loopw [23, 24] (fun v23 v24 wr => ∃ k : Nat, v24 = .int .i64 (k : Int) ∧ k ≤ 4 ∧ Hid (OwnS wr w.heap.size v23 (spotsTo border W H i j res k)) ∧ Hid (wr.heap[bo]? = some (.cells (arrI 4 res) 3 (0, 0))) ∧ Hid (v23.ownBlock ≠ some bo) ∧ Hid (Below w.heap.size w wr)) (fun _ v24 _ => 4 - (intOf v24).toNat)
  case atStart => exact ⟨0, rfl, by omega, (show OwnS _ _ _ _ from OwnS.nil _ _), HIO.out, (show _ ≠ _ from by simp [Value.ownBlock]), HB5.out⟩
  case round =>
    obtain ⟨k, rfl, hk, HO, HR, HNE, HB⟩ := hrel
    by_cases hlt : k < 4
    · have hltz : (k : Int) < 4 := by omega
      obtain ⟨r, er⟩ : ∃ r, r = res k := ⟨_, rfl⟩
      have cr := (ucell HR.out k).trans (arrI_get 4 res k hlt)
      rw [← er] at cr
      by_cases hr : r = 0
      · subst hr
        have HE : Hid (spotsTo border W H i j res (k + 1) = spotsTo border W H i j res k) := (show _ = _ from by rw [spotsTo, if_pos er.symm])
        clear er
        go_wp2
        go_roundw
        case rel => exact ⟨k + 1, by first | rfl | go_num, by omega, (show OwnS _ _ _ _ from by rw [HE.out]; exact HO.out), HR.out, HNE.out, HB.out⟩
        case measure => simp [intOf]; omega
      · have hr0 : (r != 0) = true := by rw [bne_iff_ne]; exact hr
        obtain ⟨m, em⟩ : ∃ m, m = ((k % 2 : Nat) : Int) := ⟨_, rfl⟩
        obtain ⟨d, ed⟩ : ∃ m, m = ((k / 2 : Nat) : Int) := ⟨_, rfl⟩
        have TM : (k : Int).tmod 2 = m := by rw [em]; rfl
        have TD : (k : Int).tdiv 2 = d := by rw [ed]; rfl
        have W3 : IntKind.i64.wrap m = m := IntWalk.i64_in _ (by omega)
        have W4 : IntKind.i64.wrap d = d := IntWalk.i64_in _ (by omega)
        have W5 : IntKind.i64.wrap (i + m) = i + m := IntWalk.i64_in _ (by omega)
        have W6 : IntKind.i64.wrap (j + d) = j + d := IntWalk.i64_in _ (by omega)
        have HA := Lib.hid fun W => HPT.out W (i + m) (j + d) r (by omega) (by omega)
        obtain ⟨s, es⟩ : ∃ s, s = sptAt border W H (i + m) (j + d) r := ⟨_, rfl⟩
        rw [← es] at HA
        unfold sptC at HA
        have HE : Hid (spotsTo border W H i j res (k + 1) = spotsTo border W H i j res k ++ [s]) := (show _ = _ from by rw [spotsTo, if_neg (fun h => hr (er.trans h)), es, em, ed, er])
        have hlen := spotsTo_len border W H i j res k
        obtain ⟨A0, n0, c0, e0⟩ := HO.out.sl
        subst e0
        clear er em ed es hr
        go_wp2_with (first
          | (go_at_call 98; go_loud ((with_reducible refine (HA.out _).mono ?_); rintro e1 w6 ⟨rfl, hbl⟩; have hb2 := ujoin hbl ((Below.refl _ w6).alloc (Nat.le_refl _) (.cells #[.int .i64 s.X, .int .i64 s.Y, .int .i64 s.N] 51)); obtain ⟨v', V', hrun, p1, p2, p3⟩ := own_spot 44 _ w.heap.size _ _ (HO.out.below hb2) (Nat.le_trans HB.out.size hb2.size) (by omega) w6.heap.size 51 s (heap_alloc_new w6 _); have HO2 : Hid (OwnS V' w.heap.size v' (spotsTo border W H i j res (k + 1))) := (show OwnS _ _ _ _ from by rw [HE.out]; exact p1); have hro := heap_lt' HR.out; have HR2 : Hid (V'.heap[bo]? = some (.cells (arrI 4 res) 3 (0, 0))) := (show _ = _ from (p2.block bo (Nat.lt_of_lt_of_le hro hb2.size) (fun e => HNE.out e.symm)).trans ((hb2.block bo hro).trans HR.out)); have HNE2 : Hid (v'.ownBlock ≠ some bo) := (show _ ≠ _ from by (rcases p3 with p3 | p3); (rw [p3]; exact HNE.out); (rw [p3]; intro e; injection e with e; have := hb2.size; omega)); have HB2 : Hid (Below w.heap.size w V') := (show Below _ _ _ from ((ujoin HB.out hb2).grown p2 (Nat.le_trans HB.out.size hb2.size) (fun z ez => (HO.out.lt z (by first | exact ez | exact ez.symm)).1))); obtain ⟨A9, n9, c9, e9⟩ := p1.sl; subst e9; clear hbl p1 p2 p3 hb2 hro))
          | (at_builtin; refine Go.Lib.wpList_append_run _ rfl _ _ 44 44 rfl _ _ rfl rfl _ V' hrun ?_))
        go_roundw
        case rel => exact ⟨k + 1, by first | rfl | go_num, by omega, HO2.out, HR2.out, HNE2.out, HB2.out⟩
        case measure => simp [intOf]; omega
    · have hltz : ¬ (k : Int) < 4 := by omega
      have e : k = 4 := by omega
      subst e
      go_wp2
      go_ret
      exact ⟨_, rfl, _, HS.out _ HRES.out, HO.out, HB.out⟩
end Go.Proofs.Ytdcpeeolfgohmaa
