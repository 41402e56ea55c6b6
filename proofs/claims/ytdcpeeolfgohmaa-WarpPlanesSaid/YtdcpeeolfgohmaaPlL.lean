/- halidelaw28.WarpPlanes: the walk. -/
import Derived.Test.YtdcpeeolfgohmaaRpPS
namespace Go.Proofs.Ytdcpeeolfgohmaa
open Go.RowKit Go.Proofs.YtdcpeeolfgohmaaW.PrintWords
set_option linter.unusedSimpArgs false
set_option linter.unusedVariables false
attribute [local go_sem] Oper.semAt_some

/-- A plane in a box. -/
structure PBq (g : Nat) (W H : Int) (A : Option Addr) (n c : Nat) (y : Nat → Nat) (V : World) : Prop where
  bx : V.heap[g]? = some (.cells #[.int .i64 W, .int .i64 H, .slice A n c] 55 (0, 0))
  rw : RowU V A n y
theorem PBq.below {g : Nat} {W H : Int} {A : Option Addr} {n c : Nat} {y : Nat → Nat} {V V' : World} (h : PBq g W H A n c y V) (hb : Below V.heap.size V V') : PBq g W H A n c y V' := ⟨(hb.block _ (heap_lt' h.bx)).trans h.bx, h.rw.below hb⟩
theorem PBq.new {V : World} {W H : Int} {A : Option Addr} {n c : Nat} {y : Nat → Nat} (hr : RowU V A n y) : PBq V.heap.size W H A n c y (V.alloc (.cells #[.int .i64 W, .int .i64 H, .slice A n c] 55)) := ⟨heap_alloc_new V _, hr.below ((Below.refl _ _).alloc (Nat.le_refl _) _)⟩
theorem PBq.grown {g : Nat} {W H : Int} {A : Option Addr} {n c : Nat} {y : Nat → Nat} {V V' : World} (h : PBq g W H A n c y V) {q : Nat} (hg : V.grownBy V' (some q)) (h1 : g ≠ q) (h2 : ∀ ad, A = some ad → ad.block ≠ q) : PBq g W H A n c y V' := by
  refine ⟨(hg.block _ (heap_lt' h.bx) (fun e => h1 (Option.some.inj e))).trans h.bx, fun hn => ?_⟩
  obtain ⟨ad, e, hc⟩ := h.rw hn
  refine ⟨ad, e, fun i hi => ?_⟩
  have hb : (ad.add i).block = ad.block := by unfold Addr.add; split <;> rfl
  have hlt := World.block_lt_of_cell? _ _ (hc i hi)
  exact (World.cell?_of_block (by rw [hb] at hlt ⊢; exact hg.block _ hlt (fun e2 => h2 ad e (Option.some.inj e2)))).trans (hc i hi)
theorem row_lt {V : World} {A : Option Addr} {n : Nat} {y : Nat → Nat} (h : RowU V A n y) (hn : 1 ≤ n) : ∀ ad, A = some ad → ad.block < V.heap.size := fun ad e => by
  obtain ⟨ad2, e2, hc⟩ := h hn
  rw [e] at e2
  injection e2 with e2
  subst e2
  have h := World.block_lt_of_cell? _ _ (hc 0 hn)
  have hb : (ad.add 0).block = ad.block := by unfold Addr.add; split <;> rfl
  rw [hb] at h
  exact h
theorem qbelow_alloc (V : World) (o : Obj) : Below V.heap.size V (V.alloc o) := (Below.refl _ _).alloc (Nat.le_refl _) o
/-- What a plane warped is, its row told by a function, its block by its number. -/
def PGq (w0 : World) (kind border : Int) (t : Wp) (W H : Int) (x : Nat → Nat) (w h : Int) (N : Nat) (e : Ending) (w' : World) : Prop := ∃ g c y, e = .returned (.tuple #[.agg #[.int .i64 w, .int .i64 h, .slice (some ⟨g, 0, none⟩) N c], .int .i64 0]) ∧ RowU w' (some ⟨g, 0, none⟩) N y ∧ (∀ i, i < N → IsPx kind border t W H x w i (y i)) ∧ w0.heap.size ≤ g ∧ (∃ cur, w'.heap[g]? = some (.cells cur 65 (0, 0)) ∧ ∀ j, j < N → ∃ z : Int, cur[j]? = some (.int .u32 z)) ∧ Below w0.heap.size w0 w'
theorem pgq_of {kind border : Int} {t : Wp} {W H : Int} {x : Nat → Nat} {w h : Int} {N : Nat} {w0 w' : World} {e : Ending} (hN : (N : Int) = w * h) (hN1 : 1 ≤ N) (hp : PlaneEnd w0 kind border t W H x w h e w') : PGq w0 kind border t W H x w h N e w' := by
  obtain ⟨v, cs, rfl, ho, hl, hp, hb⟩ := hp
  have hlN : cs.length = N := by omega
  have pick : ∀ i, ∃ s, i < N → cs[i]? = some (.int .u32 ((s : Nat) : Int)) ∧ IsPx kind border t W H x w i s := fun i => by
    by_cases h : i < N
    · obtain ⟨s, h1, h2⟩ := hp i (by omega)
      exact ⟨s, fun _ => ⟨h1, h2⟩⟩
    · exact ⟨0, fun h2 => absurd h2 h⟩
  obtain ⟨y, hy⟩ := Classical.axiomOfChoice pick
  obtain ⟨A, c, e, hc, -, hr⟩ := ho.row
  rw [hlN] at e hr
  obtain ⟨hl2, h2⟩ := ho
  rcases h2 with ⟨rfl, h0⟩ | ⟨g, cap, cur, e2, hbg, hg, hnc, hcm, hcs, htake⟩
  · omega
  · rw [e2] at e
    injection e with e3 e4 e5
    subst e3 e5
    rw [hlN] at e2 htake
    subst e2
    refine ⟨g, cap, y, rfl, fun hn => by obtain ⟨ad, eA, hcl⟩ := hr hn; exact ⟨ad, eA, fun i hi => hcl i _ (hy i hi).1⟩, fun i hi => (hy i hi).2, hbg, ⟨cur, hg, fun j hj => ?_⟩, hb⟩
    have h3 := (hy j hj).1
    rw [← htake, List.getElem?_take, if_pos (by omega), Array.getElem?_toList] at h3
    exact ⟨_, h3⟩
theorem PBq.grown0 {g : Nat} {W H : Int} {A : Option Addr} {n c : Nat} {y : Nat → Nat} {V V' : World} (h : PBq g W H A n c y V) {q : Nat} (hg : V.grownBy V' (some q)) (h1 : g ≠ q) (h2 : 1 ≤ n → ∀ ad, A = some ad → ad.block ≠ q) : PBq g W H A n c y V' := by
  rcases Nat.eq_zero_or_pos n with h0 | h0
  · subst h0
    exact ⟨(hg.block _ (heap_lt' h.bx) (fun e => h1 (Option.some.inj e))).trans h.bx, RowU.nil _ _ _⟩
  · exact h.grown hg h1 (h2 h0)
/-- The law's plane and warp in their boxes. -/
structure PlW (w : World) (W H : Int) (A : Option Addr) (n c : Nat) (x : Nat → Nat) (t : Wp) (V : World) : Prop where
  be : Below w.heap.size w V
  px : PBq w.heap.size W H A n c x V
  tb : BoxW V (w.heap.size + 1) t
theorem PlW.below {w : World} {W H : Int} {A : Option Addr} {n c : Nat} {x : Nat → Nat} {t : Wp} {V V' : World} (h : PlW w W H A n c x t V) (hb : Below V.heap.size V V') : PlW w W H A n c x t V' := ⟨ujoin h.be hb, h.px.below hb, h.tb.below hb⟩
theorem PlW.start (w : World) (W H : Int) (A : Option Addr) (n c : Nat) (x : Nat → Nat) (t : Wp) (hr : RowU w A n x) : PlW w W H A n c x t ((w.alloc (.cells #[.int .i64 W, .int .i64 H, .slice A n c] 55)).alloc (.cells #[.int .i64 t.A, .int .i64 t.B, .int .i64 t.C, .int .i64 t.D, .int .i64 t.E, .int .i64 t.F, .int .i64 t.Q] 32)) := by
  have b1 := qbelow_alloc w (.cells #[.int .i64 W, .int .i64 H, .slice A n c] 55)
  obtain ⟨w1, e1⟩ : ∃ w1, w1 = w.alloc (.cells #[.int .i64 W, .int .i64 H, .slice A n c] 55) := ⟨_, rfl⟩
  have z1 : PBq w.heap.size W H A n c x w1 := by rw [e1]; exact PBq.new hr
  have s1 : w1.heap.size = w.heap.size + 1 := by rw [e1, World.size_alloc]
  rw [← e1] at b1 ⊢
  have b2 := qbelow_alloc w1 (.cells #[.int .i64 t.A, .int .i64 t.B, .int .i64 t.C, .int .i64 t.D, .int .i64 t.E, .int .i64 t.F, .int .i64 t.Q] 32)
  have z2 := BoxW.new w1 t
  rw [s1] at z2
  exact ⟨ujoin b1 b2, z1.below b2, z2⟩
theorem PlW.grown {w : World} {W H : Int} {A : Option Addr} {n c : Nat} {x : Nat → Nat} {t : Wp} {V V' : World} (h : PlW w W H A n c x t V) {q : Nat} (hg : V.grownBy V' (some q)) (hq : w.heap.size + 2 ≤ q) (hA : ∀ ad, A = some ad → ad.block ≠ q) : PlW w W H A n c x t V' :=
  ⟨h.be.grown hg h.be.size (fun k e => by injection e with e; omega), h.px.grown hg (by omega) hA, (hg.block _ (heap_lt' h.tb) (fun e => by injection e with e; omega)).trans h.tb⟩
theorem PlW.grown0 {w : World} {W H : Int} {A : Option Addr} {n c : Nat} {x : Nat → Nat} {t : Wp} {V V' : World} (h : PlW w W H A n c x t V) {q : Nat} (hg : V.grownBy V' (some q)) (hq : w.heap.size + 2 ≤ q) (hA : 1 ≤ n → ∀ ad, A = some ad → ad.block ≠ q) : PlW w W H A n c x t V' :=
  ⟨h.be.grown hg h.be.size (fun k e => by injection e with e; omega), h.px.grown0 hg (by omega) hA, (hg.block _ (heap_lt' h.tb) (fun e => by injection e with e; omega)).trans h.tb⟩
set_option maxHeartbeats 12800000 in
set_option maxRecDepth 100000 in
theorem lawPlanes_ok (W H : Int) (A : Option Addr) (n c0 : Nat) (x : Nat → Nat) (kind border : Int) (t : Wp) (u v : Int) (w : World) (hn7 : n ≤ 700) (hr : RowU w A n x) (hx : ∀ k, k < n → x k < 4294967296) (hu : u ≤ 40) (hv : v ≤ 40) (hpe : planeErr kind border t W H n u v = 0) :
    Calls Try.prog 7 #[.agg #[.int .i64 W, .int .i64 H, .slice A n c0], .int .i64 kind, .int .i64 border, .agg #[.int .i64 t.A, .int .i64 t.B, .int .i64 t.C, .int .i64 t.D, .int .i64 t.E, .int .i64 t.F, .int .i64 t.Q], .int .i64 u, .int .i64 v] w fun e w' => WGives w (.bool true) e w' := by
  obtain ⟨hpl, hri, hsu⟩ := planeErr_in hpe
  obtain ⟨a1, a2, a3, a4, a5, a6⟩ := sizeB_in hsu
  obtain ⟨N, eN⟩ : ∃ N : Nat, (N : Int) = u * v := ⟨(u * v).toNat, by have := Int.mul_nonneg (show 0 ≤ u by omega) (show 0 ≤ v by omega); omega⟩
  have hN1 : 1 ≤ N := by
    have := Int.mul_le_mul (show 1 ≤ u by omega) (show 1 ≤ v by omega) (by decide) (by omega)
    omega
  have hN2 : N ≤ 65536 := by omega
  have hn1 : 1 ≤ n := by
    have hs := (rightE_in hri).sz
    obtain ⟨b1, b2, b3, b4, b5, b6⟩ := sizeB_in hs
    have := Int.mul_le_mul b1 b3 (by decide) (by omega)
    unfold plE at hpl
    rw [if_neg (by rw [hs]; decide)] at hpl
    split at hpl
    · omega
    · omega
  have HKN := Lib.hid fun V => known28_calls V
  have HFW : Hid (∀ V, Calls Try.prog 28 #[.agg #[.int .i64 W, .int .i64 H, .slice A n c0]] V fun e w' => e = .returned (.bool true) ∧ Below V.heap.size V w') := (show ∀ V, _ from fun V => by have q := few_calls V W H A n c0 (by omega); rw [show decide (n ≤ 700) = true from decide_eq_true hn7] at q; exact q)
  have HCP : Hid (∀ V, RowU V A n x → Calls Try.prog 29 #[.agg #[.int .i64 W, .int .i64 H, .slice A n c0]] V fun e w' => ∃ v', e = .returned (.agg #[.int .i64 W, .int .i64 H, v']) ∧ OwnV w' V.heap.size v' n x ∧ Below V.heap.size V w') := (show ∀ V, _ → _ from fun V h => copy_calls V W H A n c0 x (by omega) h)
  have HRP : Hid (∀ V, RowU V A n x → Calls Try.prog 30 #[.agg #[.int .i64 W, .int .i64 H, .slice A n c0], .int .i64 kind, .int .i64 border, .agg #[.int .i64 t.A, .int .i64 t.B, .int .i64 t.C, .int .i64 t.D, .int .i64 t.E, .int .i64 t.F, .int .i64 t.Q], .int .i64 u, .int .i64 v] V fun e w' => PGq V kind border t W H x u v N e w') := (show ∀ V, _ → _ from fun V h => (rPlane_ok W H A n c0 kind border t u v x V (by omega) h hx hpl hri hsu).mono fun e w' q => pgq_of eN hN1 q)
  have HPP : Hid (∀ V Af cf, RowU V Af n x → Calls Try.prog 31 #[.agg #[.int .i64 W, .int .i64 H, .slice Af n cf], .int .i64 kind, .int .i64 border, .agg #[.int .i64 t.A, .int .i64 t.B, .int .i64 t.C, .int .i64 t.D, .int .i64 t.E, .int .i64 t.F, .int .i64 t.Q], .int .i64 u, .int .i64 v] V fun e w' => PGq V kind border t W H x u v N e w') := (show ∀ V Af cf, _ → _ from fun V Af cf h => (plane_yes W H Af n cf kind border t u v x V (by omega) h hx hpl hri hsu).mono fun e w' q => pgq_of eN hN1 q)
  have HE1 : Hid (∀ V (A B : Option Addr) (c d : Nat) (y z : Nat → Nat), RowU V A N y → RowU V B N z → (∀ i, i < N → IsPx kind border t W H x u i (y i)) → (∀ i, i < N → IsPx kind border t W H x u i (z i)) → Calls Try.prog 32 #[.agg #[.int .i64 u, .int .i64 v, .slice A N c], .agg #[.int .i64 u, .int .i64 v, .slice B N d]] V fun e w' => e = .returned (.bool true) ∧ Below V.heap.size V w') := (show ∀ V A B c d y z, _ → _ → _ → _ → _ from fun V A B c d y z h1 h2 h3 h4 => hplane_yes V u v A B N c d y z h1 h2 (by omega) fun k hk => (h3 k hk).unique (h4 k hk))
  have HE2 : Hid (∀ V (A B : Option Addr) (c d : Nat), RowU V A n x → RowU V B n x → Calls Try.prog 32 #[.agg #[.int .i64 W, .int .i64 H, .slice A n c], .agg #[.int .i64 W, .int .i64 H, .slice B n d]] V fun e w' => e = .returned (.bool true) ∧ Below V.heap.size V w') := (show ∀ V A B c d, _ → _ → _ from fun V A B c d h1 h2 => hplane_yes V W H A B n c d x x h1 h2 (by omega) fun _ _ => rfl)
  have HSO : Hid (∀ V g c, g < V.heap.size → (∃ cur, V.heap[g]? = some (.cells cur 65 (0, 0)) ∧ ∀ j, j < N → ∃ z : Int, cur[j]? = some (.int .u32 z)) → Calls Try.prog 33 #[.agg #[.int .i64 u, .int .i64 v, .slice (some ⟨g, 0, none⟩) N c]] V fun e w' => e = .returned (.tuple #[]) ∧ V.grownBy w' (some g)) := (show ∀ V g c, _ → _ → _ from fun V g c h1 h2 => spoil_calls V u v (some ⟨g, 0, none⟩) N c g (by omega) h1 (.inr ⟨rfl, h2⟩))
  have HAB := Lib.hid (row_lt hr hn1)
  have HS := Lib.hid (PlW.start w W H A n c0 x t hr)
  have hu2 : ¬ (40 < u) := by omega
  have hv2 : ¬ (40 < v) := by omega
  clear hr hx hpe hpl hri hsu a1 a2 a3 a4 a5 a6 eN
  unfold WGives at *
  go_enter Try.func7, Try.ntmps7
  go_upto_region 3 with (go_at_call 16; refine (HKN.out _).mono ?_; rintro e1 w1 ⟨rfl, hb⟩; have HM1 := Lib.hid (HS.out.below hb); clear hb)
  clear HKN HS
  have p0 := ucell HM1.out.px.bx 0
  have p1 := ucell HM1.out.px.bx 1
  have p2 := ucell HM1.out.px.bx 2
  go_upto_region 8 with (first
    | (go_at_call 28; refine (HFW.out _).mono ?_; rintro e1 w2 ⟨rfl, hb⟩; have HM2 := Lib.hid (HM1.out.below hb); clear hb p0 p1 p2; have p0 := ucell HM2.out.px.bx 0; have p1 := ucell HM2.out.px.bx 1; have p2 := ucell HM2.out.px.bx 2)
    | (go_at_call 29; refine (HCP.out _ HM2.out.px.rw).mono ?_; rintro e1 w4 ⟨v4, rfl, hO, hb⟩; obtain ⟨A4, c4, ev4, -, hr4, hlo4, -⟩ := hO.row; subst ev4; have hal := qbelow_alloc w4 (.cells #[.int .i64 W, .int .i64 H, .slice A4 n c4] 55); have HM4 := Lib.hid ((HM2.out.below hb).below hal); have HC4 : Hid (PBq w4.heap.size W H A4 n c4 x (w4.alloc (.cells #[.int .i64 W, .int .i64 H, .slice A4 n c4] 55))) := (show PBq _ _ _ _ _ _ _ _ from PBq.new hr4); have HG4 : Hid (w.heap.size + 2 ≤ w4.heap.size) := (show _ ≤ _ from by have h1 := heap_lt' HM2.out.tb; have h2 := hb.size; omega); clear hO hb hr4 hlo4 hal p0 p1 p2; have p0 := ucell HM4.out.px.bx 0; have p1 := ucell HM4.out.px.bx 1; have p2 := ucell HM4.out.px.bx 2; obtain ⟨t0, t1, t2, t3, t4, t5, t6⟩ := HM4.out.tb.cells)
    | (go_at_call 30; refine (HRP.out _ HM4.out.px.rw).mono ?_; rintro e1 w5 ⟨g5, c5, y5, rfl, hr5, hp5, hlo5, -, hb⟩; have hal := qbelow_alloc w5 (.cells #[.int .i64 u, .int .i64 v, .slice (some ⟨g5, 0, none⟩) N c5] 55); have HM5 := Lib.hid ((HM4.out.below hb).below hal); have HC5 := Lib.hid ((HC4.out.below hb).below hal); have HX5 : Hid (PBq w5.heap.size u v (some ⟨g5, 0, none⟩) N c5 y5 (w5.alloc (.cells #[.int .i64 u, .int .i64 v, .slice (some ⟨g5, 0, none⟩) N c5] 55))) := (show PBq _ _ _ _ _ _ _ _ from PBq.new hr5); have HP5 := Lib.hid hp5; clear hb hr5 hp5 hlo5 hal p0 p1 p2 t0 t1 t2 t3 t4 t5 t6; have q0 := ucell HC5.out.bx 0; have q1 := ucell HC5.out.bx 1; have q2 := ucell HC5.out.bx 2; obtain ⟨t0, t1, t2, t3, t4, t5, t6⟩ := HM5.out.tb.cells)
    | (go_at_call 31; refine (HPP.out _ _ _ HC5.out.rw).mono ?_; rintro e1 w6 ⟨g6, c6, y6, rfl, hr6, hp6, hlo6, hcu6, hb⟩; have hal := qbelow_alloc w6 (.cells #[.int .i64 u, .int .i64 v, .slice (some ⟨g6, 0, none⟩) N c6] 55); have HM6 := Lib.hid ((HM5.out.below hb).below hal); have HC6 := Lib.hid ((HC5.out.below hb).below hal); have HX6 := Lib.hid ((HX5.out.below hb).below hal); have HQ6 : Hid (PBq w6.heap.size u v (some ⟨g6, 0, none⟩) N c6 y6 (w6.alloc (.cells #[.int .i64 u, .int .i64 v, .slice (some ⟨g6, 0, none⟩) N c6] 55))) := (show PBq _ _ _ _ _ _ _ _ from PBq.new hr6); have HP6 := Lib.hid hp6; have HO6 : Hid (w.heap.size + 2 ≤ g6 ∧ w4.heap.size ≠ g6 ∧ w5.heap.size ≠ g6 ∧ (∀ ad, A4 = some ad → ad.block ≠ g6) ∧ g5 ≠ g6) := (show _ ∧ _ from ⟨by have h1 := HG4.out; have h2 := heap_lt' HC5.out.bx; omega, by have h2 := heap_lt' HC5.out.bx; omega, by have h2 := heap_lt' HX5.out.bx; omega, fun ad e => by have := row_lt HC5.out.rw hn1 ad e; omega, by have := row_lt HX5.out.rw hN1 _ rfl; dsimp only at this; omega⟩); have HU6 : Hid (∃ cur, (w6.alloc (.cells #[.int .i64 u, .int .i64 v, .slice (some ⟨g6, 0, none⟩) N c6] 55)).heap[g6]? = some (.cells cur 65 (0, 0)) ∧ ∀ j, j < N → ∃ z : Int, cur[j]? = some (.int .u32 z)) := (show ∃ _, _ from by obtain ⟨cur, h1, h2⟩ := hcu6; exact ⟨cur, (hal.block _ (heap_lt' h1)).trans h1, h2⟩); clear hb hr6 hp6 hlo6 hcu6 hal q0 q1 q2 t0 t1 t2 t3 t4 t5 t6))
  clear HFW HCP HRP HM1 HM2 HM4 HC4 HM5 HC5 HX5 HG4
  generalize w4.heap.size = gc at HC6 HO6 ⊢
  generalize w5.heap.size = gx at HX6 HO6 ⊢
  generalize w6.heap.size = gq at HQ6 ⊢
  generalize w6.alloc (.cells #[.int .i64 u, .int .i64 v, .slice (some ⟨g6, 0, none⟩) N c6] 55) = W6 at HM6 HC6 HX6 HQ6 HU6 ⊢
  have a0 := ucell HQ6.out.bx 0
  have a1 := ucell HQ6.out.bx 1
  have a2 := ucell HQ6.out.bx 2
  have b0 := ucell HX6.out.bx 0
  have b1 := ucell HX6.out.bx 1
  have b2 := ucell HX6.out.bx 2
  go_upto_region 10 with (first
    | (go_at_call 32; (with_reducible refine (HE1.out _ _ _ _ _ _ _ HQ6.out.rw HX6.out.rw HP6.out HP5.out).mono ?_); rintro e1 w7 ⟨rfl, hb⟩; have HM7 := Lib.hid (HM6.out.below hb); have HC7 := Lib.hid (HC6.out.below hb); have HX7 := Lib.hid (HX6.out.below hb); have HQ7 := Lib.hid (HQ6.out.below hb); have HU7 : Hid (∃ cur, w7.heap[g6]? = some (.cells cur 65 (0, 0)) ∧ ∀ j, j < N → ∃ z : Int, cur[j]? = some (.int .u32 z)) := (show ∃ _, _ from by obtain ⟨cur, h1, h2⟩ := HU6.out; exact ⟨cur, (hb.block _ (heap_lt' h1)).trans h1, h2⟩); clear hb a0 a1 a2 b0 b1 b2; have q0 := ucell HC7.out.bx 0; have q1 := ucell HC7.out.bx 1; have q2 := ucell HC7.out.bx 2; have p0 := ucell HM7.out.px.bx 0; have p1 := ucell HM7.out.px.bx 1; have p2 := ucell HM7.out.px.bx 2)
    | (go_at_call 32; (with_reducible refine (HE2.out _ _ _ _ _ HC7.out.rw HM7.out.px.rw).mono ?_); rintro e1 w8 ⟨rfl, hb⟩; have HM8 := Lib.hid (HM7.out.below hb); have HC8 := Lib.hid (HC7.out.below hb); have HX8 := Lib.hid (HX7.out.below hb); have HQ8 := Lib.hid (HQ7.out.below hb); have HU8 : Hid (∃ cur, w8.heap[g6]? = some (.cells cur 65 (0, 0)) ∧ ∀ j, j < N → ∃ z : Int, cur[j]? = some (.int .u32 z)) := (show ∃ _, _ from by obtain ⟨cur, h1, h2⟩ := HU7.out; exact ⟨cur, (hb.block _ (heap_lt' h1)).trans h1, h2⟩); clear hb q0 q1 q2 p0 p1 p2; have a0 := ucell HQ8.out.bx 0; have a1 := ucell HQ8.out.bx 1; have a2 := ucell HQ8.out.bx 2))
  clear HM6 HC6 HX6 HQ6 HU6 HM7 HC7 HX7 HQ7 HU7
  have hg8 : g6 < w8.heap.size := by obtain ⟨cur, h1, -⟩ := HU8.out; exact heap_lt' h1
  go_upto_region 11 with (go_at_call 33; (with_reducible refine (HSO.out _ _ _ hg8 HU8.out).mono ?_); rintro e1 w9 ⟨rfl, hgr⟩; have HM9 := Lib.hid (HM8.out.grown hgr HO6.out.1 (fun ad e => by have h1 := HAB.out ad e; have h2 := HO6.out.1; omega)); have HC9 := Lib.hid (HC8.out.grown hgr HO6.out.2.1 HO6.out.2.2.2.1); have HX9 := Lib.hid (HX8.out.grown hgr HO6.out.2.2.1 (fun ad e => by injection e with e; subst e; exact HO6.out.2.2.2.2)); clear hgr a0 a1 a2; have q0 := ucell HC9.out.bx 0; have q1 := ucell HC9.out.bx 1; have q2 := ucell HC9.out.bx 2; obtain ⟨t0, t1, t2, t3, t4, t5, t6⟩ := HM9.out.tb.cells)
  clear HM8 HC8 HX8 HQ8 HU8
  go_upto_region 12 with (go_at_call 31; (with_reducible refine (HPP.out _ _ _ HC9.out.rw).mono ?_); rintro e1 w10 ⟨g10, c10, y10, rfl, hr10, hp10, hlo10, -, hb⟩; have hal := qbelow_alloc w10 (.cells #[.int .i64 u, .int .i64 v, .slice (some ⟨g10, 0, none⟩) N c10] 55); have HM10 := Lib.hid ((HM9.out.below hb).below hal); have HX10 := Lib.hid ((HX9.out.below hb).below hal); have HA10 : Hid (PBq w10.heap.size u v (some ⟨g10, 0, none⟩) N c10 y10 (w10.alloc (.cells #[.int .i64 u, .int .i64 v, .slice (some ⟨g10, 0, none⟩) N c10] 55))) := (show PBq _ _ _ _ _ _ _ _ from PBq.new hr10); have HP10 := Lib.hid hp10; clear hb hr10 hp10 hlo10 hal q0 q1 q2 t0 t1 t2 t3 t4 t5 t6)
  generalize w10.heap.size = ga at HA10 ⊢
  generalize w10.alloc (.cells #[.int .i64 u, .int .i64 v, .slice (some ⟨g10, 0, none⟩) N c10] 55) = W10 at HM10 HX10 HA10 ⊢
  have a0 := ucell HA10.out.bx 0
  have a1 := ucell HA10.out.bx 1
  have a2 := ucell HA10.out.bx 2
  have b0 := ucell HX10.out.bx 0
  have b1 := ucell HX10.out.bx 1
  have b2 := ucell HX10.out.bx 2
  go_wp2_with (go_at_call 32; (with_reducible refine (HE1.out _ _ _ _ _ _ _ HA10.out.rw HX10.out.rw HP10.out HP5.out).mono ?_); rintro e1 w11 ⟨rfl, hb⟩; have HB11 := Lib.hid (ujoin HM10.out.be hb); clear hb a0 a1 a2 b0 b1 b2)
  go_ret
  exact ⟨rfl, HB11.out⟩
set_option maxHeartbeats 12800000 in
set_option maxRecDepth 100000 in
theorem lawPlanes_no (W H : Int) (A : Option Addr) (n c0 : Nat) (x : Nat → Nat) (kind border : Int) (t : Wp) (u v : Int) (w : World) (hn7 : n ≤ 700) (hr : RowU w A n x) (hu : u ≤ 40) (hv : v ≤ 40) (hpe : planeErr kind border t W H n u v ≠ 0) :
    Calls Try.prog 7 #[.agg #[.int .i64 W, .int .i64 H, .slice A n c0], .int .i64 kind, .int .i64 border, .agg #[.int .i64 t.A, .int .i64 t.B, .int .i64 t.C, .int .i64 t.D, .int .i64 t.E, .int .i64 t.F, .int .i64 t.Q], .int .i64 u, .int .i64 v] w fun e w' => WGives w (.bool true) e w' := by
  have HKN := Lib.hid fun V => known28_calls V
  have HFW : Hid (∀ V, Calls Try.prog 28 #[.agg #[.int .i64 W, .int .i64 H, .slice A n c0]] V fun e w' => e = .returned (.bool true) ∧ Below V.heap.size V w') := (show ∀ V, _ from fun V => by have q := few_calls V W H A n c0 (by omega); rw [show decide (n ≤ 700) = true from decide_eq_true hn7] at q; exact q)
  have HCP : Hid (∀ V, RowU V A n x → Calls Try.prog 29 #[.agg #[.int .i64 W, .int .i64 H, .slice A n c0]] V fun e w' => ∃ v', e = .returned (.agg #[.int .i64 W, .int .i64 H, v']) ∧ OwnV w' V.heap.size v' n x ∧ Below V.heap.size V w') := (show ∀ V, _ → _ from fun V h => copy_calls V W H A n c0 x (by omega) h)
  obtain ⟨er, eer⟩ : ∃ er, er = planeErr kind border t W H n u v := ⟨_, rfl⟩
  have HRP : Hid (∀ V, Calls Try.prog 30 #[.agg #[.int .i64 W, .int .i64 H, .slice A n c0], .int .i64 kind, .int .i64 border, .agg #[.int .i64 t.A, .int .i64 t.B, .int .i64 t.C, .int .i64 t.D, .int .i64 t.E, .int .i64 t.F, .int .i64 t.Q], .int .i64 u, .int .i64 v] V fun e w' => e = .returned (.tuple #[.agg #[.int .i64 0, .int .i64 0, .slice none 0 0], .int .i64 er]) ∧ Below V.heap.size V w') := (show ∀ V, _ from fun V => by rw [eer]; exact rPlane_no W H A n c0 kind border t u v V (by omega) hpe)
  have HPP : Hid (∀ V Af cf, Calls Try.prog 31 #[.agg #[.int .i64 W, .int .i64 H, .slice Af n cf], .int .i64 kind, .int .i64 border, .agg #[.int .i64 t.A, .int .i64 t.B, .int .i64 t.C, .int .i64 t.D, .int .i64 t.E, .int .i64 t.F, .int .i64 t.Q], .int .i64 u, .int .i64 v] V fun e w' => e = .returned (.tuple #[.agg #[.int .i64 0, .int .i64 0, .slice none 0 0], .int .i64 er]) ∧ Below V.heap.size V w') := (show ∀ V Af cf, _ from fun V Af cf => by rw [eer]; exact plane_no W H Af n cf kind border t u v V (by omega) hpe)
  have HE1 : Hid (∀ V, Calls Try.prog 32 #[.agg #[.int .i64 0, .int .i64 0, .slice none 0 0], .agg #[.int .i64 0, .int .i64 0, .slice none 0 0]] V fun e w' => e = .returned (.bool true) ∧ Below V.heap.size V w') := (show ∀ V, _ from fun V => hplane_yes V 0 0 none none 0 0 0 x x (RowU.nil _ _ _) (RowU.nil _ _ _) (by decide) fun _ _ => rfl)
  have HE2 : Hid (∀ V (A B : Option Addr) (c d : Nat), RowU V A n x → RowU V B n x → Calls Try.prog 32 #[.agg #[.int .i64 W, .int .i64 H, .slice A n c], .agg #[.int .i64 W, .int .i64 H, .slice B n d]] V fun e w' => e = .returned (.bool true) ∧ Below V.heap.size V w') := (show ∀ V A B c d, _ → _ → _ from fun V A B c d h1 h2 => hplane_yes V W H A B n c d x x h1 h2 (by omega) fun _ _ => rfl)
  have HSO : Hid (∀ V g, g < V.heap.size → Calls Try.prog 33 #[.agg #[.int .i64 0, .int .i64 0, .slice none 0 0]] V fun e w' => e = .returned (.tuple #[]) ∧ V.grownBy w' (some g)) := (show ∀ V g, _ → _ from fun V g h1 => spoil_calls V 0 0 none 0 0 g (by decide) h1 (.inl rfl))
  have HS := Lib.hid (PlW.start w W H A n c0 x t hr)
  have hu2 : ¬ (40 < u) := by omega
  have hv2 : ¬ (40 < v) := by omega
  have hee : (er != er) = false := bne_self_eq_false _
  clear hr hpe eer
  unfold WGives at *
  go_enter Try.func7, Try.ntmps7
  go_upto_region 3 with (go_at_call 16; refine (HKN.out _).mono ?_; rintro e1 w1 ⟨rfl, hb⟩; have HM1 := Lib.hid (HS.out.below hb); clear hb)
  clear HKN HS
  have p0 := ucell HM1.out.px.bx 0
  have p1 := ucell HM1.out.px.bx 1
  have p2 := ucell HM1.out.px.bx 2
  go_upto_region 8 with (first
    | (go_at_call 28; refine (HFW.out _).mono ?_; rintro e1 w2 ⟨rfl, hb⟩; have HM2 := Lib.hid (HM1.out.below hb); clear hb p0 p1 p2; have p0 := ucell HM2.out.px.bx 0; have p1 := ucell HM2.out.px.bx 1; have p2 := ucell HM2.out.px.bx 2)
    | (go_at_call 29; refine (HCP.out _ HM2.out.px.rw).mono ?_; rintro e1 w4 ⟨v4, rfl, hO, hb⟩; obtain ⟨A4, c4, ev4, -, hr4, hlo4, -⟩ := hO.row; subst ev4; have hal := qbelow_alloc w4 (.cells #[.int .i64 W, .int .i64 H, .slice A4 n c4] 55); have HM4 := Lib.hid ((HM2.out.below hb).below hal); have HC4 : Hid (PBq w4.heap.size W H A4 n c4 x (w4.alloc (.cells #[.int .i64 W, .int .i64 H, .slice A4 n c4] 55))) := (show PBq _ _ _ _ _ _ _ _ from PBq.new hr4); have HG4 : Hid (w.heap.size + 2 ≤ w4.heap.size) := (show _ ≤ _ from by have h1 := heap_lt' HM2.out.tb; have h2 := hb.size; omega); clear hO hb hr4 hlo4 hal p0 p1 p2; have p0 := ucell HM4.out.px.bx 0; have p1 := ucell HM4.out.px.bx 1; have p2 := ucell HM4.out.px.bx 2; obtain ⟨t0, t1, t2, t3, t4, t5, t6⟩ := HM4.out.tb.cells)
    | (go_at_call 30; refine (HRP.out _).mono ?_; rintro e1 w5 ⟨rfl, hb⟩; have hal := qbelow_alloc w5 (.cells #[.int .i64 0, .int .i64 0, .slice none 0 0] 55); have HM5 := Lib.hid ((HM4.out.below hb).below hal); have HC5 := Lib.hid ((HC4.out.below hb).below hal); have HX5 : Hid (PBq w5.heap.size 0 0 none 0 0 x (w5.alloc (.cells #[.int .i64 0, .int .i64 0, .slice none 0 0] 55))) := (show PBq _ _ _ _ _ _ _ _ from PBq.new (RowU.nil _ _ _)); clear hb hal p0 p1 p2 t0 t1 t2 t3 t4 t5 t6; have q0 := ucell HC5.out.bx 0; have q1 := ucell HC5.out.bx 1; have q2 := ucell HC5.out.bx 2; obtain ⟨t0, t1, t2, t3, t4, t5, t6⟩ := HM5.out.tb.cells)
    | (go_at_call 31; refine (HPP.out _ _ _).mono ?_; rintro e1 w6 ⟨rfl, hb⟩; have hal := qbelow_alloc w6 (.cells #[.int .i64 0, .int .i64 0, .slice none 0 0] 55); have HM6 := Lib.hid ((HM5.out.below hb).below hal); have HC6 := Lib.hid ((HC5.out.below hb).below hal); have HX6 := Lib.hid ((HX5.out.below hb).below hal); have HQ6 : Hid (PBq w6.heap.size 0 0 none 0 0 x (w6.alloc (.cells #[.int .i64 0, .int .i64 0, .slice none 0 0] 55))) := (show PBq _ _ _ _ _ _ _ _ from PBq.new (RowU.nil _ _ _)); have HO6 : Hid (w.heap.size + 2 ≤ w6.heap.size ∧ w4.heap.size ≠ w6.heap.size ∧ w5.heap.size ≠ w6.heap.size ∧ (1 ≤ n → (∀ ad, A4 = some ad → ad.block ≠ w6.heap.size) ∧ ∀ ad, A = some ad → ad.block ≠ w6.heap.size)) := (show _ ∧ _ from ⟨by have h1 := HG4.out; have h2 := heap_lt' HC5.out.bx; have := hb.size; omega, by have h2 := heap_lt' HC5.out.bx; have := hb.size; omega, by have h2 := heap_lt' HX5.out.bx; have := hb.size; omega, fun h1 => ⟨fun ad e => by have := row_lt HC5.out.rw h1 ad e; have := hb.size; omega, fun ad e => by have := row_lt HM5.out.px.rw h1 ad e; have := hb.size; omega⟩⟩); clear hb hal q0 q1 q2 t0 t1 t2 t3 t4 t5 t6))
  clear HFW HCP HRP HM1 HM2 HM4 HC4 HM5 HC5 HX5 HG4
  generalize w4.heap.size = gc at HC6 HO6 ⊢
  generalize w5.heap.size = gx at HX6 HO6 ⊢
  generalize w6.alloc (.cells #[.int .i64 0, .int .i64 0, .slice none 0 0] 55) = W6 at HM6 HC6 HX6 HQ6 ⊢
  generalize w6.heap.size = gq at HQ6 HO6 ⊢
  have a0 := ucell HQ6.out.bx 0
  have a1 := ucell HQ6.out.bx 1
  have a2 := ucell HQ6.out.bx 2
  have b0 := ucell HX6.out.bx 0
  have b1 := ucell HX6.out.bx 1
  have b2 := ucell HX6.out.bx 2
  go_upto_region 10 with (first
    | (go_at_call 32; (with_reducible refine (HE1.out _).mono ?_); rintro e1 w7 ⟨rfl, hb⟩; have HM7 := Lib.hid (HM6.out.below hb); have HC7 := Lib.hid (HC6.out.below hb); have HX7 := Lib.hid (HX6.out.below hb); have HQ7 := Lib.hid (HQ6.out.below hb); clear hb a0 a1 a2 b0 b1 b2; have q0 := ucell HC7.out.bx 0; have q1 := ucell HC7.out.bx 1; have q2 := ucell HC7.out.bx 2; have p0 := ucell HM7.out.px.bx 0; have p1 := ucell HM7.out.px.bx 1; have p2 := ucell HM7.out.px.bx 2)
    | (go_at_call 32; (with_reducible refine (HE2.out _ _ _ _ _ HC7.out.rw HM7.out.px.rw).mono ?_); rintro e1 w8 ⟨rfl, hb⟩; have HM8 := Lib.hid (HM7.out.below hb); have HC8 := Lib.hid (HC7.out.below hb); have HX8 := Lib.hid (HX7.out.below hb); have HQ8 := Lib.hid (HQ7.out.below hb); clear hb q0 q1 q2 p0 p1 p2; have a0 := ucell HQ8.out.bx 0; have a1 := ucell HQ8.out.bx 1; have a2 := ucell HQ8.out.bx 2))
  clear HM6 HC6 HX6 HQ6 HM7 HC7 HX7 HQ7
  go_upto_region 11 with (go_at_call 33; (with_reducible refine (HSO.out _ _ (heap_lt' HQ8.out.bx)).mono ?_); rintro e1 w9 ⟨rfl, hgr⟩; have HM9 := Lib.hid (HM8.out.grown0 hgr HO6.out.1 (fun h => (HO6.out.2.2.2 h).2)); have HC9 := Lib.hid (HC8.out.grown0 hgr HO6.out.2.1 (fun h => (HO6.out.2.2.2 h).1)); have HX9 := Lib.hid (HX8.out.grown0 hgr HO6.out.2.2.1 (fun h => absurd h (by decide))); clear hgr a0 a1 a2; have q0 := ucell HC9.out.bx 0; have q1 := ucell HC9.out.bx 1; have q2 := ucell HC9.out.bx 2; obtain ⟨t0, t1, t2, t3, t4, t5, t6⟩ := HM9.out.tb.cells)
  clear HM8 HC8 HX8 HQ8
  go_upto_region 12 with (go_at_call 31; (with_reducible refine (HPP.out _ _ _).mono ?_); rintro e1 w10 ⟨rfl, hb⟩; have hal := qbelow_alloc w10 (.cells #[.int .i64 0, .int .i64 0, .slice none 0 0] 55); have HM10 := Lib.hid ((HM9.out.below hb).below hal); have HX10 := Lib.hid ((HX9.out.below hb).below hal); have HA10 : Hid (PBq w10.heap.size 0 0 none 0 0 x (w10.alloc (.cells #[.int .i64 0, .int .i64 0, .slice none 0 0] 55))) := (show PBq _ _ _ _ _ _ _ _ from PBq.new (RowU.nil _ _ _)); clear hb hal q0 q1 q2 t0 t1 t2 t3 t4 t5 t6)
  generalize w10.alloc (.cells #[.int .i64 0, .int .i64 0, .slice none 0 0] 55) = W10 at HM10 HX10 HA10 ⊢
  generalize w10.heap.size = ga at HA10 ⊢
  have a0 := ucell HA10.out.bx 0
  have a1 := ucell HA10.out.bx 1
  have a2 := ucell HA10.out.bx 2
  have b0 := ucell HX10.out.bx 0
  have b1 := ucell HX10.out.bx 1
  have b2 := ucell HX10.out.bx 2
  go_wp2_with (go_at_call 32; (with_reducible refine (HE1.out _).mono ?_); rintro e1 w11 ⟨rfl, hb⟩; have HB11 := Lib.hid (ujoin HM10.out.be hb); clear hb a0 a1 a2 b0 b1 b2)
  go_ret
  exact ⟨rfl, HB11.out⟩
set_option maxHeartbeats 12800000 in
set_option maxRecDepth 100000 in
theorem lawPlanes_out (W H : Int) (A : Option Addr) (n c0 : Nat) (x : Nat → Nat) (kind border : Int) (t : Wp) (u v : Int) (w : World) (hn : n ≤ 9223372036854775807) (hr : RowU w A n x) (ho : ¬ (n ≤ 700 ∧ u ≤ 40 ∧ v ≤ 40)) :
    Calls Try.prog 7 #[.agg #[.int .i64 W, .int .i64 H, .slice A n c0], .int .i64 kind, .int .i64 border, .agg #[.int .i64 t.A, .int .i64 t.B, .int .i64 t.C, .int .i64 t.D, .int .i64 t.E, .int .i64 t.F, .int .i64 t.Q], .int .i64 u, .int .i64 v] w fun e w' => WGives w (.bool true) e w' := by
  have HKN := Lib.hid fun V => known28_calls V
  have HFW := Lib.hid fun V => few_calls V W H A n c0 hn
  have HS := Lib.hid (PlW.start w W H A n c0 x t hr)
  unfold plC at HFW
  clear hr hn
  unfold WGives at *
  go_enter Try.func7, Try.ntmps7
  go_upto_region 3 with (go_at_call 16; refine (HKN.out _).mono ?_; rintro e1 w1 ⟨rfl, hb⟩; have HM1 := Lib.hid (HS.out.below hb); clear hb)
  clear HKN HS
  have p0 := ucell HM1.out.px.bx 0
  have p1 := ucell HM1.out.px.bx 1
  have p2 := ucell HM1.out.px.bx 2
  by_cases h7 : n ≤ 700
  · have hd7 : decide (n ≤ 700) = true := decide_eq_true h7
    rw [hd7] at HFW
    clear hd7
    by_cases hu : 40 < u
    · clear ho
      go_wp2_with (go_at_call 28; refine (HFW.out _).mono ?_; rintro e1 w2 ⟨rfl, hb⟩; have HM2 := Lib.hid (HM1.out.below hb); clear hb p0 p1 p2)
      go_ret
      exact ⟨rfl, HM2.out.be⟩
    · have hv : 40 < v := by omega
      clear ho
      go_wp2_with (go_at_call 28; refine (HFW.out _).mono ?_; rintro e1 w2 ⟨rfl, hb⟩; have HM2 := Lib.hid (HM1.out.below hb); clear hb p0 p1 p2)
      go_ret
      exact ⟨rfl, HM2.out.be⟩
  · have hd7 : decide (n ≤ 700) = false := decide_eq_false h7
    rw [hd7] at HFW
    clear hd7 h7 ho
    go_wp2_with (go_at_call 28; refine (HFW.out _).mono ?_; rintro e1 w2 ⟨rfl, hb⟩; have HM2 := Lib.hid (HM1.out.below hb); clear hb p0 p1 p2)
    go_ret
    exact ⟨rfl, HM2.out.be⟩
theorem lawPlanes_row (W H : Int) (A : Option Addr) (n c0 : Nat) (x : Nat → Nat) (kind border : Int) (t : Wp) (u v : Int) (w : World) (hr : RowU w A n x) (hc : n ≤ c0) (hm : n ≤ 9223372036854775807) (hl : ∀ k, k < n → x k < 4294967296) (hW : -9223372036854775808 ≤ W ∧ W ≤ 9223372036854775807) (hH : -9223372036854775808 ≤ H ∧ H ≤ 9223372036854775807) :
    Calls Try.prog 7 #[.agg #[.int .i64 W, .int .i64 H, .slice A n c0], .int .i64 kind, .int .i64 border, .agg #[.int .i64 t.A, .int .i64 t.B, .int .i64 t.C, .int .i64 t.D, .int .i64 t.E, .int .i64 t.F, .int .i64 t.Q], .int .i64 u, .int .i64 v] w fun e w' => WGives w (.bool true) e w' := by
  by_cases ho : n ≤ 700 ∧ u ≤ 40 ∧ v ≤ 40
  · obtain ⟨h1, h2, h3⟩ := ho
    by_cases hpe : planeErr kind border t W H n u v = 0
    · exact lawPlanes_ok W H A n c0 x kind border t u v w h1 hr hl h2 h3 hpe
    · exact lawPlanes_no W H A n c0 x kind border t u v w h1 hr h2 h3 hpe
  · exact lawPlanes_out W H A n c0 x kind border t u v w hm hr ho
end Go.Proofs.Ytdcpeeolfgohmaa
