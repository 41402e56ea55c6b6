/- halideref28.Plane: the document's plane warped is the program's. halideref28.Plane: its errors. halidehelp.Spoil: a row of the call's own written over; what else there is stays. -/
import Derived.Test.YtdcpeeolfgohmaaTmD
import Derived.Test.YtdcpeeolfgohmaaPlOw
import Derived.Test.YtdcpeeolfgohmaaMonK
import Derived.Test.YtdcpeeolfgohmaaWsBE
import Derived.Test.YtdcpeeolfgohmaaMkHI
import Derived.Deep.RegionHeld3
namespace Go.Proofs.Ytdcpeeolfgohmaa
open Go.RowKit Go.Proofs.YtdcpeeolfgohmaaW.PrintWords
set_option linter.unusedSimpArgs false
set_option linter.unusedVariables false
attribute [local go_sem] Oper.semAt_some

/-- What the document's loops hold. -/
structure RpL (w0 : World) (W H : Int) (A : Option Addr) (np cp : Nat) (t : Wp) (w h : Int) (g2 : Nat) (v : Value) (cs : List Value) (V : World) : Prop where
  be : Below w0.heap.size w0 V
  b6 : V.heap[w0.heap.size]? = some (.cells #[.int .i64 W, .int .i64 H, .slice A np cp] 55 (0, 0))
  tb : BoxW V (w0.heap.size + 1) t
  zb : V.heap[w0.heap.size + 1 + 1]? = some (.cells #[.int .i64 0, .int .i64 0, .slice none 0 0] 55 (0, 0))
  ob : V.heap[g2]? = some (.cells #[.int .i64 w, .int .i64 h, v] 55 (0, 0))
  ow : OwnC V w0.heap.size 65 v cs
  og : w0.heap.size + 3 ≤ g2
  na : v.ownBlock ≠ some g2 ∧ ∀ k, v.ownBlock = some k → w0.heap.size + 3 ≤ k
section
variable {w0 : World} {W H : Int} {A : Option Addr} {np cp : Nat} {t : Wp} {w h : Int} {g2 : Nat} {v v' : Value} {cs cs' : List Value} {V V' : World}
theorem RpL.below (q : RpL w0 W H A np cp t w h g2 v cs V) (hb : Below V.heap.size V V') : RpL w0 W H A np cp t w h g2 v cs V' :=
  ⟨ujoin q.be hb, (hb.block _ (heap_lt' q.b6)).trans q.b6, q.tb.below hb, (hb.block _ (heap_lt' q.zb)).trans q.zb, (hb.block _ (heap_lt' q.ob)).trans q.ob, q.ow.below hb, q.og, q.na⟩
theorem RpL.push (q : RpL w0 W H A np cp t w h g2 v cs V) (ho : OwnC V' w0.heap.size 65 v' cs') (hg : V.grownBy V' v.ownBlock) (hb : v'.ownBlock = v.ownBlock ∨ v'.ownBlock = some V.heap.size) : RpL w0 W H A np cp t w h g2 v' cs' (V'.setCell ⟨g2, 2, none⟩ v') := by
  have o1 := q.og
  have na := q.na
  have st : ∀ k, k ≠ g2 → (V'.setCell ⟨g2, 2, none⟩ v').heap[k]? = V'.heap[k]? := fun k hk => Below.heap_setCell _ ⟨g2, 2, none⟩ _ _ hk
  have sm : ∀ k, k < V.heap.size → v.ownBlock ≠ some k → V'.heap[k]? = V.heap[k]? := fun k hk hn => hg.block k hk (fun e => hn e.symm)
  have l6 := heap_lt' q.b6
  have l7 := heap_lt' q.tb
  have l8 := heap_lt' q.zb
  have l9 := heap_lt' q.ob
  have low : ∀ k, k < w0.heap.size + 3 → v.ownBlock ≠ some k := fun k hk e => by have := na.2 k e; omega
  have hvn : v'.ownBlock ≠ some g2 ∧ ∀ k, v'.ownBlock = some k → w0.heap.size + 3 ≤ k := by
    rcases hb with e | e
    · rw [e]; exact na
    · rw [e]
      exact ⟨fun z => by injection z with z; omega, fun k z => by injection z with z; omega⟩
  have hob : V'.heap[g2]? = some (.cells #[.int .i64 w, .int .i64 h, v] 55 (0, 0)) := (sm g2 l9 na.1).trans q.ob
  exact {
    be := (q.be.grown hg q.be.size (fun k e => by have := na.2 k e; omega)).setCell (p := ⟨g2, 2, none⟩) (by show w0.heap.size ≤ g2; omega) _
    b6 := (st _ (by omega)).trans ((sm _ l6 (low _ (by omega))).trans q.b6)
    tb := (st _ (by omega)).trans ((sm _ l7 (low _ (by omega))).trans q.tb)
    zb := (st _ (by omega)).trans ((sm _ l8 (low _ (by omega))).trans q.zb)
    ob := blk_put hob 2 v' rfl
    ow := ho.same fun k hk => st k (fun e => by subst e; exact hvn.1 hk)
    og := o1
    na := hvn }
end
theorem addr_zero (ad : Addr) : ad.add 0 = ad := by unfold Addr.add; split <;> simp_all
/-- What a spot's reading wants of the world. -/
structure RpS (w0 : World) (W : Int) (A : Option Addr) (np cp g2 : Nat) (v : Value) (B7 : Option Addr) (L : List Spt) (x : Nat → Nat) (V : World) : Prop where
  c0 : V.cell? ⟨w0.heap.size, 0, none⟩ = some (.int .i64 W)
  c2 : V.cell? ⟨w0.heap.size, 2, none⟩ = some (.slice A np cp)
  cv : V.cell? ⟨g2, 2, none⟩ = some v
  rs : RowSp V B7 L
  rx : RowU V A np x
theorem RpS.of {w0 : World} {W H : Int} {A : Option Addr} {np cp : Nat} {t : Wp} {w h : Int} {g2 : Nat} {v : Value} {cs : List Value} {V : World} {B7 : Option Addr} {L : List Spt} {x : Nat → Nat} (q : RpL w0 W H A np cp t w h g2 v cs V) (hr : RowSp V B7 L) (hx : RowU w0 A np x) : RpS w0 W A np cp g2 v B7 L x V := ⟨ucell q.b6 0, ucell q.b6 2, ucell q.ob 2, hr, hx.below q.be⟩
theorem RpS.below {w0 : World} {W : Int} {A : Option Addr} {np cp g2 : Nat} {v : Value} {B7 : Option Addr} {L : List Spt} {x : Nat → Nat} {V V' : World} (q : RpS w0 W A np cp g2 v B7 L x V) (hx : 1 ≤ np) (hb : Below V.heap.size V V') : RpS w0 W A np cp g2 v B7 L x V' :=
  ⟨(hb.cell (World.block_lt_of_cell? _ _ q.c0)).trans q.c0, (hb.cell (World.block_lt_of_cell? _ _ q.c2)).trans q.c2, (hb.cell (World.block_lt_of_cell? _ _ q.cv)).trans q.cv, q.rs.below hb, q.rx.below hb⟩
theorem RpS.grown {w0 : World} {W H : Int} {A : Option Addr} {np cp : Nat} {t : Wp} {w h : Int} {g2 : Nat} {v : Value} {cs : List Value} {V V' : World} {B7 : Option Addr} {L : List Spt} {x : Nat → Nat} (q : RpS w0 W A np cp g2 v B7 L x V) (p : RpL w0 W H A np cp t w h g2 v cs V) (hg : V.grownBy V' v.ownBlock) (hx : RowU w0 A np x) (hn : 1 ≤ np) (hB : ∀ ad, B7 = some ad → v.ownBlock ≠ some ad.block) : RpS w0 W A np cp g2 v B7 L x V' := by
  have l6 := heap_lt' p.b6
  have l9 := heap_lt' p.ob
  have e6 := hg.block w0.heap.size l6 (fun e => by have := p.na.2 _ e.symm; omega)
  have e9 := hg.block g2 l9 (fun e => p.na.1 e.symm)
  have be : Below w0.heap.size w0 V' := p.be.grown hg p.be.size (fun k e => by have := p.na.2 k e; omega)
  refine ⟨ucell (e6.trans p.b6) 0, ucell (e6.trans p.b6) 2, ucell (e9.trans p.ob) 2, fun h1 => ?_, hx.below be⟩
  obtain ⟨ad, e, hc⟩ := q.rs h1
  refine ⟨ad, e, fun i hi => ?_⟩
  have key : ∀ (p' : Addr) (u : Value), p'.block = ad.block → V.cell? p' = some u → V'.cell? p' = some u := fun p' u hp hu => by
    have hlt := World.block_lt_of_cell? _ _ hu
    exact (World.cell?_of_block (by rw [hp] at hlt ⊢; exact hg.block _ hlt (fun e' => hB ad e e'.symm))).trans hu
  have hb : (ad.add (i * 3)).block = ad.block := by unfold Addr.add; split <;> rfl
  obtain ⟨h1, h2, h3⟩ := hc i hi
  exact ⟨key _ _ hb h1, key _ _ hb h2, key _ _ hb h3⟩
theorem spot_read {kind border : Int} {t : Wp} {W H X Y : Int} {L : List Spt} {np : Nat} {x : Nat → Nat} (hr : RightIn kind border t W H) (hnp : (np : Int) = W * H) (h : IsSpots kind border t W H X Y L) (k : Nat) (hk : k < L.length) :
    IntKind.i64.wrap (L[k].Y * W) = L[k].Y * W ∧ IntKind.i64.wrap (L[k].Y * W + L[k].X) = ((L[k].Y * W + L[k].X).toNat : Int) ∧ (L[k].Y * W + L[k].X).toNat < np ∧ spX x W L k = x (L[k].Y * W + L[k].X).toNat ∧ spN L k = L[k].N := by
  obtain ⟨h1, h2, -⟩ := spots_in hr h L[k] (List.getElem_mem hk)
  obtain ⟨i1, i2, i3, i4, i5⟩ := idx_in hr.sz hnp h1 h2
  refine ⟨i1, by rw [i2]; omega, i5, ?_, ?_⟩
  · unfold spX pxIdx; rw [List.getD_eq_getElem?_getD, List.getElem?_eq_getElem hk]; rfl
  · unfold spN; rw [List.getD_eq_getElem?_getD, List.getElem?_eq_getElem hk]; rfl
theorem take_push {α : Type} (f : Spt → α) (L : List Spt) (k : Nat) (hk : k < L.length) : (L.take k).map f ++ [f L[k]] = (L.take (k + 1)).map f := by
  rw [List.take_succ_eq_append_getElem hk, List.map_append]
  rfl
set_option maxHeartbeats 12800000 in
set_option maxRecDepth 100000 in
theorem rPlane_ok (W H : Int) (A : Option Addr) (np cp : Nat) (kind border : Int) (t : Wp) (w h : Int) (x : Nat → Nat) (w0 : World) (hnp : np ≤ 1000000000) (hrow : RowU w0 A np x) (hxb : ∀ k, k < np → x k < 4294967296) (he : plE W H np = 0) (hr : rightE kind border t W H = 0) (hs : sizeB w h = true) :
    Calls Try.prog 30 #[.agg #[.int .i64 W, .int .i64 H, .slice A np cp], .int .i64 kind, .int .i64 border, .agg #[.int .i64 t.A, .int .i64 t.B, .int .i64 t.C, .int .i64 t.D, .int .i64 t.E, .int .i64 t.F, .int .i64 t.Q], .int .i64 w, .int .i64 h] w0 fun e w' => PlaneEnd w0 kind border t W H x w h e w' := by
  have HMY : Hid (∀ V, Calls Try.prog 34 #[.agg #[.int .i64 W, .int .i64 H, .slice A np cp]] V fun e w' => e = .returned (.int .i64 0) ∧ Below V.heap.size V w') := (show ∀ V, _ from fun V => by have q := may_calls V W H A np cp (by omega); rw [he] at q; exact q)
  have HWR : Hid (∀ V, Calls Try.prog 64 #[.int .i64 kind, .int .i64 border, .agg #[.int .i64 t.A, .int .i64 t.B, .int .i64 t.C, .int .i64 t.D, .int .i64 t.E, .int .i64 t.F, .int .i64 t.Q], .int .i64 W, .int .i64 H] V fun e w' => e = .returned (.int .i64 0) ∧ Below V.heap.size V w') := (show ∀ V, _ from fun V => by have q := wrong_calls V kind border t W H; rw [hr] at q; exact q)
  have HSZ : Hid (∀ V, Calls Try.prog 69 #[.int .i64 w, .int .i64 h] V fun e w' => e = .returned (.bool true) ∧ V = w') := (show ∀ V, _ from fun V => by have q := rsize_calls V w h; rw [hs] at q; exact q)
  obtain ⟨a1, a2, a3, a4, a5, a6⟩ := sizeB_in hs
  obtain ⟨wn, rfl⟩ := Int.eq_ofNat_of_zero_le (by omega : 0 ≤ w)
  obtain ⟨hn, rfl⟩ := Int.eq_ofNat_of_zero_le (by omega : 0 ≤ h)
  have HRT := Lib.hid (rightE_in hr)
  have HNP : Hid ((np : Int) = W * H) := (show _ = _ from by
    unfold plE at he
    split at he
    · omega
    · split at he
      · omega
      · omega)
  have HRW := Lib.hid hrow
  have HXB := Lib.hid hxb
  have hwn : 1 ≤ wn ∧ wn ≤ 1024 := by omega
  have hhn : 1 ≤ hn ∧ hn ≤ 1024 := by omega
  have HN1 : Hid (wn * hn ≤ 65536) := (show _ ≤ _ from by have : ((wn * hn : Nat) : Int) ≤ 65536 := by rw [Int.natCast_mul]; exact a6
                                                          omega)
  have hnp1 : 1 ≤ np := by
    obtain ⟨b1, b2, b3, b4, b5, b6⟩ := sizeB_in HRT.out.sz
    have := Int.mul_le_mul b1 b3 (by decide) (by omega)
    have := HNP.out
    omega
  have hkd := HRT.out.kd
  have HSP : Hid (∀ V (X Y : Nat), X ≤ 1024 → Y ≤ 1024 → Calls Try.prog 65 #[.int .i64 kind, .int .i64 border, .agg #[.int .i64 t.A, .int .i64 t.B, .int .i64 t.C, .int .i64 t.D, .int .i64 t.E, .int .i64 t.F, .int .i64 t.Q], .int .i64 W, .int .i64 H, .int .i64 (X : Int), .int .i64 (Y : Int)] V fun e w' => ∃ A7 c7 L, e = .returned (.slice A7 L.length c7) ∧ IsSpots kind border t W H (X : Int) (Y : Int) L ∧ RowSp w' A7 L ∧ (∀ ad, A7 = some ad → V.heap.size ≤ ad.block) ∧ Below V.heap.size V w') := (show ∀ V X Y, _ → _ → _ from fun V X Y h1 h2 => by
    have fin : ∀ {e : Ending} {w' : World}, (∃ v, e = .returned v ∧ SpotsEnd V kind border t W H (X : Int) (Y : Int) v w') → ∃ A7 c7 L, e = .returned (.slice A7 L.length c7) ∧ IsSpots kind border t W H (X : Int) (Y : Int) L ∧ RowSp w' A7 L ∧ (∀ ad, A7 = some ad → V.heap.size ≤ ad.block) ∧ Below V.heap.size V w' := fun h => by
      obtain ⟨v, rfl, L, h3, h4, h5⟩ := h
      obtain ⟨A7, c7, rfl, -, hrow, hbl⟩ := h4.row
      exact ⟨A7, c7, L, rfl, h3, hrow, fun ad e => (hbl ad e).1, h5⟩
    rcases hkd with rfl | rfl
    · exact (rspots_near V border t W H X Y HRT.out (by omega) (by omega)).mono fun e w' h => fin h
    · exact (rspots_linear V border t W H X Y HRT.out (by omega) (by omega)).mono fun e w' h => fin h)
  have HST := Lib.hid (PlB.start W H A np cp t w0)
  unfold plC wpC at HST
  clear he hr hs hrow hxb a1 a2 a3 a4 a5 a6
  go_enter Try.func30, Try.ntmps30
  go_upto_region 1 with (fail)
  generalize (((w0.alloc (.cells #[.int .i64 W, .int .i64 H, .slice A np cp] 55)).alloc (.cells #[.int .i64 t.A, .int .i64 t.B, .int .i64 t.C, .int .i64 t.D, .int .i64 t.E, .int .i64 t.F, .int .i64 t.Q] 32)).alloc (.cells #[.int .i64 0, .int .i64 0, .slice none 0 0] 55)) = w1 at HST ⊢
  obtain ⟨p0, p1, p2⟩ := plC_cells HST.out.1.k0
  go_upto_region 8 with (first
    | (go_at_call 34; refine (HMY.out _).mono ?_; rintro e1 w2 ⟨rfl, hb⟩; have HX2 := Lib.hid (HST.out.1.below hb); have HB2 := Lib.hid (ujoin HST.out.2 hb); obtain ⟨t0, t1, t2, t3, t4, t5, t6⟩ := wpC_cells HX2.out.k1; obtain ⟨q0, q1, q2⟩ := plC_cells HX2.out.k0; clear hb p0 p1 p2)
    | (go_at_call 64; refine (HWR.out _).mono ?_; rintro e1 w3 ⟨rfl, hb⟩; have HX3 := Lib.hid (HX2.out.below hb); have HB3 := Lib.hid (ujoin HB2.out hb); clear hb t0 t1 t2 t3 t4 t5 t6 q0 q1 q2)
    | (go_at_call 69; refine (HSZ.out _).mono ?_; rintro e1 w4 ⟨rfl, rfl⟩))
  clear HMY HWR HSZ HST HX2 HB2
  have HL0 : Hid (RpL w0 W H A np cp t (wn : Int) (hn : Int) w3.heap.size (.slice none 0 0) [] (w3.alloc (.cells #[.int .i64 (wn : Int), .int .i64 (hn : Int), .slice none 0 0] 55))) := (show RpL _ _ _ _ _ _ _ _ _ _ _ _ _ from by
    have bo := (Below.refl w3.heap.size w3).alloc (Nat.le_refl _) (.cells #[.int .i64 (wn : Int), .int .i64 (hn : Int), .slice none 0 0] 55)
    have hx := HX3.out.below bo
    exact ⟨ujoin HB3.out bo, hx.k0, hx.k1, hx.k2, heap_alloc_new w3 _, OwnC.nil _ _ _, HX3.out.size, by simp [Value.ownBlock], fun k hk => by simp [Value.ownBlock] at hk⟩)
  clear HX3 HB3
  obtain ⟨g2, eg2⟩ : ∃ g, g = w3.heap.size := ⟨_, rfl⟩
  go_upto_region 9 with (fail)
  rw [← eg2] at HL0 ⊢
  clear eg2
  generalize w3.alloc (.cells #[.int .i64 (wn : Int), .int .i64 (hn : Int), .slice none 0 0] 55) = W4 at HL0 ⊢
  go_wp2
  go_loopg [16] hn (fun kq v16 wr => ∃ (y : Nat) (v : Value) (cs : List Value), v16 = .int .i64 (y : Int) ∧ y ≤ hn ∧ hn ≤ y + kq ∧ cs.length = y * wn ∧ Hid (RpL w0 W H A np cp t (wn : Int) (hn : Int) g2 v cs wr) ∧ Hid (PxRow kind border t W H x (wn : Int) cs))
  case atStart => exact ⟨0, _, [], rfl, Nat.zero_le _, by omega, by simp, HL0.out, PxRow.nil _ _ _ _ _ _ _⟩
  case round =>
    obtain ⟨y, v1, cs1, rfl, hy, hyk, hl1, HL1, HP1⟩ := hrel
    clear HL0
    by_cases hyt : y < hn
    · have hyz : (y : Int) < (hn : Int) := by omega
      go_wp2
      go_loopg [17] wn (fun kr v17 wx => ∃ (xx : Nat) (v : Value) (cs : List Value), v17 = .int .i64 (xx : Int) ∧ xx ≤ wn ∧ wn ≤ xx + kr ∧ cs.length = y * wn + xx ∧ Hid (RpL w0 W H A np cp t (wn : Int) (hn : Int) g2 v cs wx) ∧ Hid (PxRow kind border t W H x (wn : Int) cs))
      case atStart => exact ⟨0, v1, cs1, rfl, Nat.zero_le _, by omega, by omega, HL1.out, HP1.out⟩
      case round =>
        obtain ⟨xx, v2, cs2, rfl, hxx, hxk, hl2, HL2, HP2⟩ := hrel
        clear HL1 HP1
        by_cases hxt : xx < wn
        · have hxz : (xx : Int) < (wn : Int) := by omega
          have hmod : ((cs2.length : Int)) % (wn : Int) = (xx : Int) := by
            rw [hl2, Int.natCast_add, Int.natCast_mul, Int.add_comm, Int.add_mul_emod_self_right, Int.emod_eq_of_lt (by omega) (by omega)]
          have hdiv : ((cs2.length : Int)) / (wn : Int) = (y : Int) := by
            rw [hl2, Int.natCast_add, Int.natCast_mul, Int.add_comm, Int.add_mul_ediv_right _ _ (by omega), Int.ediv_eq_zero_of_lt (by omega) (by omega), Int.zero_add]
          have hlen : cs2.length ≤ 65536 := by
            have h1 := Nat.mul_le_mul_right wn (show y + 1 ≤ hn by omega)
            have h2 := HN1.out
            rw [Nat.mul_comm] at h2
            rw [Nat.add_mul] at h1
            omega
          have HMD := Lib.hid (And.intro hmod hdiv)
          have HSQ := Lib.hid fun V => HSP.out V xx y (by omega) (by omega)
          obtain ⟨t0, t1, t2, t3, t4, t5, t6⟩ := HL2.out.tb.cells
          have q0 := ucell HL2.out.b6 0
          have q1 := ucell HL2.out.b6 1
          clear hmod hdiv
          go_upto_region 16 with (go_at_call 65; (with_reducible refine (HSQ.out _).mono ?_); rintro e1 w5 ⟨A7, c7, L, rfl, hL, hrs, hsb, hb⟩; have HL5 := Lib.hid (HL2.out.below hb); have HSL := Lib.hid hL; have HRS := Lib.hid hrs; have HSB : Hid (∀ ad, A7 = some ad → v2.ownBlock ≠ some ad.block) := (show ∀ ad, _ → _ from fun ad e k => by have h1 := hsb ad e; have h2 := (HL2.out.ow.lt _ k).2; omega); clear hb hL hrs hsb t0 t1 t2 t3 t4 t5 t6 q0 q1)
          clear HSQ HL2
          obtain ⟨A2, n2, k2, ev2⟩ := HL5.out.ow.sl
          subst ev2
          by_cases hk1 : kind = 1
          · as_aux_lemma =>
              subst hk1
              have hl1 : 0 < L.length := by
                obtain ⟨s1, e1⟩ := spots_ne rfl HSL.out
                rw [e1]; simp
              have hlz : (0 : Int) < (L.length : Int) := by omega
              obtain ⟨i1, i2, i3, i4, i5⟩ := spot_read HRT.out HNP.out HSL.out 0 hl1
              obtain ⟨ad7, ead7, hc7⟩ := HRS.out hl1
              subst ead7
              obtain ⟨ap, eap, hcp⟩ := HRW.out hnp1
              subst eap
              clear hc7 hcp
              obtain ⟨sX, esX⟩ : ∃ q, q = L[0].X := ⟨_, rfl⟩
              obtain ⟨sY, esY⟩ : ∃ q, q = L[0].Y := ⟨_, rfl⟩
              obtain ⟨kx, ekx⟩ : ∃ q, q = (L[0].Y * W + L[0].X).toNat := ⟨_, rfl⟩
              rw [← ekx] at i2 i3 i4
              rw [← esX] at i2
              rw [← esY] at i1 i2
              have HSV : Hid (sX = L[0].X ∧ sY = L[0].Y) := (show _ ∧ _ from ⟨esX, esY⟩)
              obtain ⟨pr, epr⟩ : ∃ q, q = sY * W := ⟨_, rfl⟩
              rw [← epr] at i2
              have i1' : IntKind.i64.wrap (sY * W) = pr := by rw [epr]; exact i1
              obtain ⟨xv, exv⟩ : ∃ q, q = x kx := ⟨_, rfl⟩
              have HKX : Hid (x kx = xv) := (show _ = _ from exv.symm)
              have hkm : (kx : Int) < (np : Int) := by omega
              have HPX : Hid (IsPx 1 border t W H x (wn : Int) cs2.length xv) := (show IsPx _ _ _ _ _ _ _ _ _ from by
                refine ⟨L, by rw [HMD.out.1, HMD.out.2]; exact HSL.out, ?_⟩
                unfold pxOf
                rw [if_pos rfl, i4, exv])
              have aadd0 := addr_zero ad7
              clear i1 i4 i5 ekx esX esY epr exv
              go_upto_region 17 with (fail)
              refine wp_region_any (by kernel_rfl) ?_
              change wpAny _ _ _ _ _ _ _ w5.drew
              have hd := (Below.refl w5.heap.size w5).drew
              have HL6 := Lib.hid (HL5.out.below hd)
              have HR6 := Lib.hid (HRS.out.below hd)
              clear hd HL5 HRS
              generalize w5.drew = V0 at HL6 HR6 ⊢
              have hS : RpS w0 W (some ap) np cp g2 (.slice A2 n2 k2) (some ad7) L x V0 := RpS.of HL6.out HR6.out HRW.out
              refine wpAny_of_K (S := RpS w0 W (some ap) np cp g2 (.slice A2 n2 k2) (some ad7) L x) (T := [21]) _ _ _ _ ?_
              refine wpAnyK_take [1, 19, 20, 21] (i := 0) (v := ?_) rfl (by kernel_rfl) (by kernel_rfl) (by kernel_rfl) (by kernel_rfl) (fun _ _ _ h => h) (Or.inl ⟨by rfl, ?_⟩) hS ?_
              rotate_left
              · intro W' hSw; obtain ⟨c0, c2, cv, rs, rx⟩ := hSw; obtain ⟨ad8, e8, hc8⟩ := rs hl1; injection e8 with e8; subst e8; obtain ⟨r1, r2, r3⟩ := hc8 0 hl1; rw [← HSV.out.1, Nat.zero_mul] at r1; rw [← HSV.out.2, Nat.zero_mul] at r2; obtain ⟨ap', ep', hcp'⟩ := rx hnp1; injection ep' with ep'; subst ep'; have kp := hcp' kx i3; rw [HKX.out] at kp; rw [aadd0] at r1 r2; clear hc8 hcp' r3 rs rx; go_simp; try (with_reducible rfl)
              simp only [Act.put, List.setIfInBounds_toArray, List.set_cons_zero, List.set_cons_succ]
              refine wpAnyK_take [19, 20, 21] (i := 1) (v := ?_) rfl (by kernel_rfl) (by kernel_rfl) (by kernel_rfl) (by kernel_rfl) (fun _ _ _ h => h) (Or.inl ⟨by rfl, ?_⟩) hS ?_
              rotate_left
              · intro W' hSw; obtain ⟨c0, c2, cv, rs, rx⟩ := hSw; obtain ⟨ad8, e8, hc8⟩ := rs hl1; injection e8 with e8; subst e8; obtain ⟨r1, r2, r3⟩ := hc8 0 hl1; rw [← HSV.out.1, Nat.zero_mul] at r1; rw [← HSV.out.2, Nat.zero_mul] at r2; obtain ⟨ap', ep', hcp'⟩ := rx hnp1; injection ep' with ep'; subst ep'; have kp := hcp' kx i3; rw [HKX.out] at kp; rw [aadd0] at r1 r2; clear hc8 hcp' r3 rs rx; go_simp; try (with_reducible rfl)
              simp only [Act.put, List.setIfInBounds_toArray, List.set_cons_zero, List.set_cons_succ]
              refine wpAnyK_take [3, 16, 17, 18, 19, 20, 21] (i := 2) (v := ?_) rfl (by kernel_rfl) (by kernel_rfl) (by kernel_rfl) (by kernel_rfl) (fun _ _ _ h => h) (Or.inl ⟨by rfl, ?_⟩) hS ?_
              rotate_left
              · intro W' hSw; obtain ⟨c0, c2, cv, rs, rx⟩ := hSw; obtain ⟨ad8, e8, hc8⟩ := rs hl1; injection e8 with e8; subst e8; obtain ⟨r1, r2, r3⟩ := hc8 0 hl1; rw [← HSV.out.1, Nat.zero_mul] at r1; rw [← HSV.out.2, Nat.zero_mul] at r2; obtain ⟨ap', ep', hcp'⟩ := rx hnp1; injection ep' with ep'; subst ep'; have kp := hcp' kx i3; rw [HKX.out] at kp; rw [aadd0] at r1 r2; clear hc8 hcp' r3 rs rx; go_simp; try (with_reducible rfl)
              simp only [Act.put, List.setIfInBounds_toArray, List.set_cons_zero, List.set_cons_succ]
              refine wpAnyK_take [16, 17, 18, 19, 20, 21] (i := 3) (v := ?_) rfl (by kernel_rfl) (by kernel_rfl) (by kernel_rfl) (by kernel_rfl) (fun _ _ _ h => h) (Or.inl ⟨by rfl, ?_⟩) hS ?_
              rotate_left
              · intro W' hSw; obtain ⟨c0, c2, cv, rs, rx⟩ := hSw; obtain ⟨ad8, e8, hc8⟩ := rs hl1; injection e8 with e8; subst e8; obtain ⟨r1, r2, r3⟩ := hc8 0 hl1; rw [← HSV.out.1, Nat.zero_mul] at r1; rw [← HSV.out.2, Nat.zero_mul] at r2; obtain ⟨ap', ep', hcp'⟩ := rx hnp1; injection ep' with ep'; subst ep'; have kp := hcp' kx i3; rw [HKX.out] at kp; rw [aadd0] at r1 r2; clear hc8 hcp' r3 rs rx; go_simp; try (with_reducible rfl)
              simp only [Act.put, List.setIfInBounds_toArray, List.set_cons_zero, List.set_cons_succ]
              refine wpAnyK_take [5, 6, 7, 10, 15, 16, 17, 18, 19, 20, 21] (i := 4) (v := ?_) rfl (by kernel_rfl) (by kernel_rfl) (by kernel_rfl) (by kernel_rfl) (fun _ _ _ h => h) (Or.inl ⟨by rfl, ?_⟩) hS ?_
              rotate_left
              · intro W' hSw; obtain ⟨c0, c2, cv, rs, rx⟩ := hSw; obtain ⟨ad8, e8, hc8⟩ := rs hl1; injection e8 with e8; subst e8; obtain ⟨r1, r2, r3⟩ := hc8 0 hl1; rw [← HSV.out.1, Nat.zero_mul] at r1; rw [← HSV.out.2, Nat.zero_mul] at r2; obtain ⟨ap', ep', hcp'⟩ := rx hnp1; injection ep' with ep'; subst ep'; have kp := hcp' kx i3; rw [HKX.out] at kp; rw [aadd0] at r1 r2; clear hc8 hcp' r3 rs rx; go_simp; try (with_reducible rfl)
              simp only [Act.put, List.setIfInBounds_toArray, List.set_cons_zero, List.set_cons_succ]
              refine wpAnyK_take [6, 7, 10, 15, 16, 17, 18, 19, 20, 21] (i := 5) (v := ?_) rfl (by kernel_rfl) (by kernel_rfl) (by kernel_rfl) (by kernel_rfl) (fun _ _ _ h => h) (Or.inl ⟨by rfl, ?_⟩) hS ?_
              rotate_left
              · intro W' hSw; obtain ⟨c0, c2, cv, rs, rx⟩ := hSw; obtain ⟨ad8, e8, hc8⟩ := rs hl1; injection e8 with e8; subst e8; obtain ⟨r1, r2, r3⟩ := hc8 0 hl1; rw [← HSV.out.1, Nat.zero_mul] at r1; rw [← HSV.out.2, Nat.zero_mul] at r2; obtain ⟨ap', ep', hcp'⟩ := rx hnp1; injection ep' with ep'; subst ep'; have kp := hcp' kx i3; rw [HKX.out] at kp; rw [aadd0] at r1 r2; clear hc8 hcp' r3 rs rx; go_simp; try (with_reducible rfl)
              simp only [Act.put, List.setIfInBounds_toArray, List.set_cons_zero, List.set_cons_succ]
              refine wpAnyK_take [7, 10, 15, 16, 17, 18, 19, 20, 21] (i := 6) (v := ?_) rfl (by kernel_rfl) (by kernel_rfl) (by kernel_rfl) (by kernel_rfl) (fun _ _ _ h => h) (Or.inl ⟨by rfl, ?_⟩) hS ?_
              rotate_left
              · intro W' hSw; obtain ⟨c0, c2, cv, rs, rx⟩ := hSw; obtain ⟨ad8, e8, hc8⟩ := rs hl1; injection e8 with e8; subst e8; obtain ⟨r1, r2, r3⟩ := hc8 0 hl1; rw [← HSV.out.1, Nat.zero_mul] at r1; rw [← HSV.out.2, Nat.zero_mul] at r2; obtain ⟨ap', ep', hcp'⟩ := rx hnp1; injection ep' with ep'; subst ep'; have kp := hcp' kx i3; rw [HKX.out] at kp; rw [aadd0] at r1 r2; clear hc8 hcp' r3 rs rx; go_simp; try (with_reducible rfl)
              simp only [Act.put, List.setIfInBounds_toArray, List.set_cons_zero, List.set_cons_succ]
              refine wpAnyK_take [10, 15, 16, 17, 18, 19, 20, 21] (i := 7) (v := ?_) rfl (by kernel_rfl) (by kernel_rfl) (by kernel_rfl) (by kernel_rfl) (fun _ _ _ h => h) (Or.inl ⟨by rfl, ?_⟩) hS ?_
              rotate_left
              · intro W' hSw; obtain ⟨c0, c2, cv, rs, rx⟩ := hSw; obtain ⟨ad8, e8, hc8⟩ := rs hl1; injection e8 with e8; subst e8; obtain ⟨r1, r2, r3⟩ := hc8 0 hl1; rw [← HSV.out.1, Nat.zero_mul] at r1; rw [← HSV.out.2, Nat.zero_mul] at r2; obtain ⟨ap', ep', hcp'⟩ := rx hnp1; injection ep' with ep'; subst ep'; have kp := hcp' kx i3; rw [HKX.out] at kp; rw [aadd0] at r1 r2; clear hc8 hcp' r3 rs rx; go_simp; try (with_reducible rfl)
              simp only [Act.put, List.setIfInBounds_toArray, List.set_cons_zero, List.set_cons_succ]
              refine wpAnyK_take [9, 10, 15, 16, 17, 18, 19, 20, 21] (i := 8) (v := ?_) rfl (by kernel_rfl) (by kernel_rfl) (by kernel_rfl) (by kernel_rfl) (fun _ _ _ h => h) (Or.inl ⟨by rfl, ?_⟩) hS ?_
              rotate_left
              · intro W' hSw; obtain ⟨c0, c2, cv, rs, rx⟩ := hSw; obtain ⟨ad8, e8, hc8⟩ := rs hl1; injection e8 with e8; subst e8; obtain ⟨r1, r2, r3⟩ := hc8 0 hl1; rw [← HSV.out.1, Nat.zero_mul] at r1; rw [← HSV.out.2, Nat.zero_mul] at r2; obtain ⟨ap', ep', hcp'⟩ := rx hnp1; injection ep' with ep'; subst ep'; have kp := hcp' kx i3; rw [HKX.out] at kp; rw [aadd0] at r1 r2; clear hc8 hcp' r3 rs rx; go_simp; try (with_reducible rfl)
              simp only [Act.put, List.setIfInBounds_toArray, List.set_cons_zero, List.set_cons_succ]
              refine wpAnyK_take [10, 15, 16, 17, 18, 19, 20, 21] (i := 9) (v := ?_) rfl (by kernel_rfl) (by kernel_rfl) (by kernel_rfl) (by kernel_rfl) (fun _ _ _ h => h) (Or.inl ⟨by rfl, ?_⟩) hS ?_
              rotate_left
              · intro W' hSw; obtain ⟨c0, c2, cv, rs, rx⟩ := hSw; obtain ⟨ad8, e8, hc8⟩ := rs hl1; injection e8 with e8; subst e8; obtain ⟨r1, r2, r3⟩ := hc8 0 hl1; rw [← HSV.out.1, Nat.zero_mul] at r1; rw [← HSV.out.2, Nat.zero_mul] at r2; obtain ⟨ap', ep', hcp'⟩ := rx hnp1; injection ep' with ep'; subst ep'; have kp := hcp' kx i3; rw [HKX.out] at kp; rw [aadd0] at r1 r2; clear hc8 hcp' r3 rs rx; go_simp; try (with_reducible rfl)
              simp only [Act.put, List.setIfInBounds_toArray, List.set_cons_zero, List.set_cons_succ]
              refine wpAnyK_take [15, 16, 17, 18, 19, 20, 21] (i := 10) (v := ?_) rfl (by kernel_rfl) (by kernel_rfl) (by kernel_rfl) (by kernel_rfl) (fun _ _ _ h => h) (Or.inl ⟨by rfl, ?_⟩) hS ?_
              rotate_left
              · intro W' hSw; obtain ⟨c0, c2, cv, rs, rx⟩ := hSw; obtain ⟨ad8, e8, hc8⟩ := rs hl1; injection e8 with e8; subst e8; obtain ⟨r1, r2, r3⟩ := hc8 0 hl1; rw [← HSV.out.1, Nat.zero_mul] at r1; rw [← HSV.out.2, Nat.zero_mul] at r2; obtain ⟨ap', ep', hcp'⟩ := rx hnp1; injection ep' with ep'; subst ep'; have kp := hcp' kx i3; rw [HKX.out] at kp; rw [aadd0] at r1 r2; clear hc8 hcp' r3 rs rx; go_simp; try (with_reducible rfl)
              simp only [Act.put, List.setIfInBounds_toArray, List.set_cons_zero, List.set_cons_succ]
              refine wpAnyK_take [12, 13, 14, 15, 16, 17, 18, 19, 20, 21] (i := 11) (v := ?_) rfl (by kernel_rfl) (by kernel_rfl) (by kernel_rfl) (by kernel_rfl) (fun _ _ _ h => h) (Or.inl ⟨by rfl, ?_⟩) hS ?_
              rotate_left
              · intro W' hSw; obtain ⟨c0, c2, cv, rs, rx⟩ := hSw; obtain ⟨ad8, e8, hc8⟩ := rs hl1; injection e8 with e8; subst e8; obtain ⟨r1, r2, r3⟩ := hc8 0 hl1; rw [← HSV.out.1, Nat.zero_mul] at r1; rw [← HSV.out.2, Nat.zero_mul] at r2; obtain ⟨ap', ep', hcp'⟩ := rx hnp1; injection ep' with ep'; subst ep'; have kp := hcp' kx i3; rw [HKX.out] at kp; rw [aadd0] at r1 r2; clear hc8 hcp' r3 rs rx; go_simp; try (with_reducible rfl)
              simp only [Act.put, List.setIfInBounds_toArray, List.set_cons_zero, List.set_cons_succ]
              refine wpAnyK_take [13, 14, 15, 16, 17, 18, 19, 20, 21] (i := 12) (v := ?_) rfl (by kernel_rfl) (by kernel_rfl) (by kernel_rfl) (by kernel_rfl) (fun _ _ _ h => h) (Or.inl ⟨by rfl, ?_⟩) hS ?_
              rotate_left
              · intro W' hSw; obtain ⟨c0, c2, cv, rs, rx⟩ := hSw; obtain ⟨ad8, e8, hc8⟩ := rs hl1; injection e8 with e8; subst e8; obtain ⟨r1, r2, r3⟩ := hc8 0 hl1; rw [← HSV.out.1, Nat.zero_mul] at r1; rw [← HSV.out.2, Nat.zero_mul] at r2; obtain ⟨ap', ep', hcp'⟩ := rx hnp1; injection ep' with ep'; subst ep'; have kp := hcp' kx i3; rw [HKX.out] at kp; rw [aadd0] at r1 r2; clear hc8 hcp' r3 rs rx; go_simp; try (with_reducible rfl)
              simp only [Act.put, List.setIfInBounds_toArray, List.set_cons_zero, List.set_cons_succ]
              refine wpAnyK_take [14, 15, 16, 17, 18, 19, 20, 21] (i := 13) (v := ?_) rfl (by kernel_rfl) (by kernel_rfl) (by kernel_rfl) (by kernel_rfl) (fun _ _ _ h => h) (Or.inl ⟨by rfl, ?_⟩) hS ?_
              rotate_left
              · intro W' hSw; obtain ⟨c0, c2, cv, rs, rx⟩ := hSw; obtain ⟨ad8, e8, hc8⟩ := rs hl1; injection e8 with e8; subst e8; obtain ⟨r1, r2, r3⟩ := hc8 0 hl1; rw [← HSV.out.1, Nat.zero_mul] at r1; rw [← HSV.out.2, Nat.zero_mul] at r2; obtain ⟨ap', ep', hcp'⟩ := rx hnp1; injection ep' with ep'; subst ep'; have kp := hcp' kx i3; rw [HKX.out] at kp; rw [aadd0] at r1 r2; clear hc8 hcp' r3 rs rx; go_simp; try (with_reducible rfl)
              simp only [Act.put, List.setIfInBounds_toArray, List.set_cons_zero, List.set_cons_succ]
              refine wpAnyK_take [15, 16, 17, 18, 19, 20, 21] (i := 14) (v := ?_) rfl (by kernel_rfl) (by kernel_rfl) (by kernel_rfl) (by kernel_rfl) (fun _ _ _ h => h) (Or.inl ⟨by rfl, ?_⟩) hS ?_
              rotate_left
              · intro W' hSw; obtain ⟨c0, c2, cv, rs, rx⟩ := hSw; obtain ⟨ad8, e8, hc8⟩ := rs hl1; injection e8 with e8; subst e8; obtain ⟨r1, r2, r3⟩ := hc8 0 hl1; rw [← HSV.out.1, Nat.zero_mul] at r1; rw [← HSV.out.2, Nat.zero_mul] at r2; obtain ⟨ap', ep', hcp'⟩ := rx hnp1; injection ep' with ep'; subst ep'; have kp := hcp' kx i3; rw [HKX.out] at kp; rw [aadd0] at r1 r2; clear hc8 hcp' r3 rs rx; go_simp; try (with_reducible rfl)
              simp only [Act.put, List.setIfInBounds_toArray, List.set_cons_zero, List.set_cons_succ]
              refine wpAnyK_take [16, 17, 18, 19, 20, 21] (i := 15) (v := ?_) rfl (by kernel_rfl) (by kernel_rfl) (by kernel_rfl) (by kernel_rfl) (fun _ _ _ h => h) (Or.inl ⟨by rfl, ?_⟩) hS ?_
              rotate_left
              · intro W' hSw; obtain ⟨c0, c2, cv, rs, rx⟩ := hSw; obtain ⟨ad8, e8, hc8⟩ := rs hl1; injection e8 with e8; subst e8; obtain ⟨r1, r2, r3⟩ := hc8 0 hl1; rw [← HSV.out.1, Nat.zero_mul] at r1; rw [← HSV.out.2, Nat.zero_mul] at r2; obtain ⟨ap', ep', hcp'⟩ := rx hnp1; injection ep' with ep'; subst ep'; have kp := hcp' kx i3; rw [HKX.out] at kp; rw [aadd0] at r1 r2; clear hc8 hcp' r3 rs rx; go_simp; try (with_reducible rfl)
              simp only [Act.put, List.setIfInBounds_toArray, List.set_cons_zero, List.set_cons_succ]
              refine wpAnyK_take [17, 18, 19, 20, 21] (i := 16) (v := ?_) rfl (by kernel_rfl) (by kernel_rfl) (by kernel_rfl) (by kernel_rfl) (fun _ _ _ h => h) (Or.inl ⟨by rfl, ?_⟩) hS ?_
              rotate_left
              · intro W' hSw; obtain ⟨c0, c2, cv, rs, rx⟩ := hSw; obtain ⟨ad8, e8, hc8⟩ := rs hl1; injection e8 with e8; subst e8; obtain ⟨r1, r2, r3⟩ := hc8 0 hl1; rw [← HSV.out.1, Nat.zero_mul] at r1; rw [← HSV.out.2, Nat.zero_mul] at r2; obtain ⟨ap', ep', hcp'⟩ := rx hnp1; injection ep' with ep'; subst ep'; have kp := hcp' kx i3; rw [HKX.out] at kp; rw [aadd0] at r1 r2; clear hc8 hcp' r3 rs rx; go_simp; try (with_reducible rfl)
              simp only [Act.put, List.setIfInBounds_toArray, List.set_cons_zero, List.set_cons_succ]
              refine wpAnyK_take [18, 19, 20, 21] (i := 17) (v := ?_) rfl (by kernel_rfl) (by kernel_rfl) (by kernel_rfl) (by kernel_rfl) (fun _ _ _ h => h) (Or.inl ⟨by rfl, ?_⟩) hS ?_
              rotate_left
              · intro W' hSw; obtain ⟨c0, c2, cv, rs, rx⟩ := hSw; obtain ⟨ad8, e8, hc8⟩ := rs hl1; injection e8 with e8; subst e8; obtain ⟨r1, r2, r3⟩ := hc8 0 hl1; rw [← HSV.out.1, Nat.zero_mul] at r1; rw [← HSV.out.2, Nat.zero_mul] at r2; obtain ⟨ap', ep', hcp'⟩ := rx hnp1; injection ep' with ep'; subst ep'; have kp := hcp' kx i3; rw [HKX.out] at kp; rw [aadd0] at r1 r2; clear hc8 hcp' r3 rs rx; go_simp; try (with_reducible rfl)
              simp only [Act.put, List.setIfInBounds_toArray, List.set_cons_zero, List.set_cons_succ]
              have hba := (Below.refl V0.heap.size V0).alloc (Nat.le_refl _) (.cells #[.int .u32 (xv : Int)] 65)
              have HL7 := Lib.hid (HL6.out.below hba)
              have hS7 := hS.below hnp1 hba
              refine wpAnyK_ready (rs := [18]) (by kernel_rfl) (by simp) (ReadyK.cons rfl (fun K hK => ?_) ReadyK.nil)
              rw [if_pos (by rfl)]
              go_simp
              refine hK.out _ _ (fun _ => hS7) ?_
              clear hK K
              obtain ⟨v', V', hrun, u1, u2, u3⟩ := own_push_c oneU32 53 _ w0.heap.size _ _ HL7.out.ow HL7.out.be.size (by omega) ⟨V0.heap.size, 0, none⟩ 1 (.int .u32 (xv : Int)) (ucell (heap_alloc_new V0 _) 0) rfl
              have HL8 := Lib.hid (HL7.out.push u1 u2 u3)
              have hS8 := hS7.grown HL7.out u2 HRW.out hnp1 (fun ad e => by injection e with e; subst e; exact HSB.out _ rfl)
              obtain ⟨A9, n9, c9, e9⟩ := u1.sl
              subst e9
              have hb6 := u2.block g2 (heap_lt' HL7.out.ob) (fun e => HL7.out.na.1 e.symm)
              have cw : V'.cell? ⟨g2, 2, none⟩ = some (.slice A2 n2 k2) := ucell (hb6.trans HL7.out.ob) 2
              have fw : V'.frozen? ⟨g2, 2, none⟩ = false := ufree (hb6.trans HL7.out.ob) 2
              have HP3 := Lib.hid (HP2.out.next HPX.out)
              clear u1 u2 u3 hb6 HL6 HL7 hS hS7 hba HPX HP2 HR6
              refine wpAnyK_ready (rs := [19]) (by kernel_rfl) (by simp) (ReadyK.cons rfl (fun K hK => ?_) ReadyK.nil)
              rw [if_pos (by rfl)]
              refine Go.Lib.wp_append_run _ _ _ 53 53 rfl _ _ rfl rfl _ V' hrun ?_
              simp only [Act.put, List.setIfInBounds_toArray, List.set_cons_zero, List.set_cons_succ]
              refine hK.out _ _ (fun _ => hS8) ?_
              clear hK K hrun
              refine wpAnyK_ready (rs := [20]) (by kernel_rfl) (by simp) (ReadyK.cons rfl (fun K hK => ?_) ReadyK.nil)
              rw [if_pos (by rfl)]
              go_simp
              refine hK.out _ _ (fun _ => hS8) ?_
              clear hK K hS8
              refine wpAnyK_ready (rs := [21]) (by kernel_rfl) (by simp) (ReadyK.cons rfl (fun K hK => ?_) ReadyK.nil)
              rw [if_pos (by rfl)]
              go_simp
              refine hK.out _ _ (fun h => absurd h (by decide)) ?_
              clear hK K
              refine wpAnyK_done (by kernel_rfl) ?_ _
              go_wp2
              go_roundg (wn - (xx + 1))
              case measure => omega
              case rel => exact ⟨xx + 1, _, _, by go_num, by omega, by omega, by rw [List.length_append, hl2]; simp; omega, HL8.out, HP3.out⟩
          · as_aux_lemma =>
              have hk2 : kind = 2 := by
                rcases hkd with h | h
                · exact absurd h hk1
                · exact h
              subst hk2
              obtain ⟨hwt, hsum⟩ := spots_wts HRT.out.q.1 (by decide) HSL.out
              have hl4 := HSL.out.len
              have hll : 1 ≤ L.length := by
                rcases Nat.eq_zero_or_pos L.length with h0 | h0
                · rw [h0] at hsum; exact absurd hsum (by unfold wtTo; simp)
                · exact h0
              have HDT : Hid (∀ V A B c d, RowZ V A L.length (spN L) → RowU V B L.length (spX x W L) → Calls Try.prog 70 #[.slice A L.length c, .slice B L.length d] V fun e w' => Gives V (.tuple #[.int .u32 ((dotOf (spN L) (spX x W L) L.length : Nat) : Int), .int .i64 0]) e w') := (show ∀ V A B c d, _ → _ → _ from fun V A B c d h1 h2 => rDot_calls V A B L.length c d (spN L) (spX x W L) h1 h2 hll (by omega) (spots_dot HRT.out HNP.out HXB.out HSL.out).1 hwt)
              obtain ⟨sv, esv⟩ : ∃ q, q = dotOf (spN L) (spX x W L) L.length := ⟨_, rfl⟩
              rw [← esv] at HDT
              have HPX : Hid (IsPx 2 border t W H x (wn : Int) cs2.length sv) := (show IsPx _ _ _ _ _ _ _ _ _ from by
                refine ⟨L, by rw [HMD.out.1, HMD.out.2]; exact HSL.out, ?_⟩
                unfold pxOf
                rw [if_neg (by decide), esv])
              obtain ⟨ad7, ead7, hc7⟩ := HRS.out hll
              subst ead7
              obtain ⟨ap, eap, hcp⟩ := HRW.out hnp1
              subst eap
              have HS5 : Hid (RpS w0 W (some ap) np cp g2 (.slice A2 n2 k2) (some ad7) L x w5) := (show RpS w0 W (some ap) np cp g2 (.slice A2 n2 k2) (some ad7) L x w5 from RpS.of HL5.out HRS.out HRW.out)
              clear hc7 hcp hwt hsum esv HSB
              go_wp2
              go_loopg [19, 20, 21] L.length (fun kq v19 v20 v21 wz => ∃ k : Nat, v21 = .int .i64 (k : Int) ∧ k ≤ L.length ∧ L.length ≤ k + kq ∧ Aside (PairC w5 wz 3 65 v19 ((L.take k).map valN) v20 ((L.take k).map (valX x W))))
              case atStart => exact ⟨0, rfl, Nat.zero_le _, by omega, PairC.nil _ _ (Below.refl _ _)⟩
              case round =>
                obtain ⟨k, rfl, hk, hkq, HPr⟩ := hrel
                obtain ⟨A3, n3, k3, e3⟩ := HPr.out.a.sl
                subst e3
                obtain ⟨A4, n4, k4, e4⟩ := HPr.out.b.sl
                subst e4
                by_cases hkt : k < L.length
                · have hkz : (k : Int) < (L.length : Int) := by omega
                  have HSk := Lib.hid (HS5.out.below hnp1 HPr.out.bel)
                  obtain ⟨i1, i2, i3, i4, i5⟩ := spot_read (x := x) HRT.out HNP.out HSL.out k hkt
                  obtain ⟨sX, esX⟩ : ∃ q, q = L[k].X := ⟨_, rfl⟩
                  obtain ⟨sY, esY⟩ : ∃ q, q = L[k].Y := ⟨_, rfl⟩
                  obtain ⟨sN, esN⟩ : ∃ q, q = L[k].N := ⟨_, rfl⟩
                  obtain ⟨kx, ekx⟩ : ∃ q, q = (L[k].Y * W + L[k].X).toNat := ⟨_, rfl⟩
                  have hpi : pxIdx W L[k] = kx := by rw [ekx]; rfl
                  rw [← ekx] at i2 i3 i4
                  rw [← esX] at i2
                  rw [← esY] at i1 i2
                  have HSV : Hid (sX = L[k].X ∧ sY = L[k].Y ∧ sN = L[k].N) := (show _ ∧ _ from ⟨esX, esY, esN⟩)
                  obtain ⟨pr, epr⟩ : ∃ q, q = sY * W := ⟨_, rfl⟩
                  rw [← epr] at i2
                  have i1' : IntKind.i64.wrap (sY * W) = pr := by rw [epr]; exact i1
                  obtain ⟨xv, exv⟩ : ∃ q, q = x kx := ⟨_, rfl⟩
                  have HKX : Hid (x kx = xv) := (show _ = _ from exv.symm)
                  have hkm : (kx : Int) < (np : Int) := by omega
                  have HT1 : Hid ((L.take k).map valN ++ [.int .i64 sN] = (L.take (k + 1)).map valN) := (show _ = _ from by rw [esN]; exact take_push valN L k hkt)
                  have HT2 : Hid ((L.take k).map (valX x W) ++ [.int .u32 (xv : Int)] = (L.take (k + 1)).map (valX x W)) := (show _ = _ from by rw [← take_push (valX x W) L k hkt]; unfold valX; rw [hpi, exv])
                  have hlk : (L.take k).length ≤ 4 := by rw [List.length_take]; omega
                  obtain ⟨ad8, e8, hc8⟩ := HSk.out.rs hll
                  injection e8 with e8
                  subst e8
                  obtain ⟨r1, r2, r3⟩ := hc8 k hkt
                  rw [← esN] at r3
                  have hba := (Below.refl wr.heap.size wr).alloc (Nat.le_refl _) (.cells #[.int .i64 sN] 3)
                  obtain ⟨x1, W6, hrun1, hP1, -, -⟩ := pair_push oneInt 93 (HPr.out.below hba) (by rw [List.length_map]; omega) ⟨wr.heap.size, 0, none⟩ (.int .i64 sN) (ucell (heap_alloc_new wr _) 0) rfl
                  rw [HT1.out] at hP1
                  have HP1' := Lib.hid hP1
                  have HRUN1 := Lib.hid hrun1
                  obtain ⟨A5, n5, k5, e5⟩ := hP1.a.sl
                  subst e5
                  have HS6 := Lib.hid (HS5.out.below hnp1 hP1.bel)
                  clear hc8 r1 r2 i1 i4 i5 ekx esX esY esN epr exv hpi hba hP1 hrun1 HSk HPr
                  go_upto_region 24 with (at_builtin; refine Go.Lib.wpList_append_run _ rfl _ _ 93 93 rfl _ _ rfl rfl _ W6 HRUN1.out ?_)
                  clear r3 HRUN1
                  refine wp_region_any (by kernel_rfl) ?_
                  change wpAny _ _ _ _ _ _ _ W6.drew
                  have hd := (Below.refl W6.heap.size W6).drew
                  have HP7 := Lib.hid (HP1'.out.below hd)
                  have hS := HS6.out.below hnp1 hd
                  clear hd HP1' HS6
                  generalize W6.drew = V0 at HP7 hS ⊢
                  refine wpAny_of_K (S := RpS w0 W (some ap) np cp g2 (.slice A2 n2 k2) (some ad7) L x) (T := []) _ _ _ _ ?_
                  refine wpAnyK_take [] (i := 0) (v := ?_) rfl (by kernel_rfl) (by kernel_rfl) (by kernel_rfl) (by kernel_rfl) (fun _ _ _ h => h) (Or.inl ⟨by rfl, ?_⟩) hS ?_
                  rotate_left
                  · intro W' hSw; obtain ⟨c0, c2, cv, rs, rx⟩ := hSw; obtain ⟨ad8, e8, hc8⟩ := rs hll; injection e8 with e8; subst e8; obtain ⟨r1, r2, r3⟩ := hc8 k hkt; rw [← HSV.out.1] at r1; rw [← HSV.out.2.1] at r2; obtain ⟨ap', ep', hcp'⟩ := rx hnp1; injection ep' with ep'; subst ep'; have kp := hcp' kx i3; rw [HKX.out] at kp; clear hc8 hcp' r3 rs rx; go_simp; try (with_reducible rfl)
                  simp only [Act.put, List.setIfInBounds_toArray, List.set_cons_zero, List.set_cons_succ]
                  refine wpAnyK_take [] (i := 1) (v := ?_) rfl (by kernel_rfl) (by kernel_rfl) (by kernel_rfl) (by kernel_rfl) (fun _ _ _ h => h) (Or.inl ⟨by rfl, ?_⟩) hS ?_
                  rotate_left
                  · intro W' hSw; obtain ⟨c0, c2, cv, rs, rx⟩ := hSw; obtain ⟨ad8, e8, hc8⟩ := rs hll; injection e8 with e8; subst e8; obtain ⟨r1, r2, r3⟩ := hc8 k hkt; rw [← HSV.out.1] at r1; rw [← HSV.out.2.1] at r2; obtain ⟨ap', ep', hcp'⟩ := rx hnp1; injection ep' with ep'; subst ep'; have kp := hcp' kx i3; rw [HKX.out] at kp; clear hc8 hcp' r3 rs rx; go_simp; try (with_reducible rfl)
                  simp only [Act.put, List.setIfInBounds_toArray, List.set_cons_zero, List.set_cons_succ]
                  refine wpAnyK_take [] (i := 2) (v := ?_) rfl (by kernel_rfl) (by kernel_rfl) (by kernel_rfl) (by kernel_rfl) (fun _ _ _ h => h) (Or.inl ⟨by rfl, ?_⟩) hS ?_
                  rotate_left
                  · intro W' hSw; obtain ⟨c0, c2, cv, rs, rx⟩ := hSw; obtain ⟨ad8, e8, hc8⟩ := rs hll; injection e8 with e8; subst e8; obtain ⟨r1, r2, r3⟩ := hc8 k hkt; rw [← HSV.out.1] at r1; rw [← HSV.out.2.1] at r2; obtain ⟨ap', ep', hcp'⟩ := rx hnp1; injection ep' with ep'; subst ep'; have kp := hcp' kx i3; rw [HKX.out] at kp; clear hc8 hcp' r3 rs rx; go_simp; try (with_reducible rfl)
                  simp only [Act.put, List.setIfInBounds_toArray, List.set_cons_zero, List.set_cons_succ]
                  refine wpAnyK_take [] (i := 3) (v := ?_) rfl (by kernel_rfl) (by kernel_rfl) (by kernel_rfl) (by kernel_rfl) (fun _ _ _ h => h) (Or.inl ⟨by rfl, ?_⟩) hS ?_
                  rotate_left
                  · intro W' hSw; obtain ⟨c0, c2, cv, rs, rx⟩ := hSw; obtain ⟨ad8, e8, hc8⟩ := rs hll; injection e8 with e8; subst e8; obtain ⟨r1, r2, r3⟩ := hc8 k hkt; rw [← HSV.out.1] at r1; rw [← HSV.out.2.1] at r2; obtain ⟨ap', ep', hcp'⟩ := rx hnp1; injection ep' with ep'; subst ep'; have kp := hcp' kx i3; rw [HKX.out] at kp; clear hc8 hcp' r3 rs rx; go_simp; try (with_reducible rfl)
                  simp only [Act.put, List.setIfInBounds_toArray, List.set_cons_zero, List.set_cons_succ]
                  refine wpAnyK_take [] (i := 4) (v := ?_) rfl (by kernel_rfl) (by kernel_rfl) (by kernel_rfl) (by kernel_rfl) (fun _ _ _ h => h) (Or.inl ⟨by rfl, ?_⟩) hS ?_
                  rotate_left
                  · intro W' hSw; obtain ⟨c0, c2, cv, rs, rx⟩ := hSw; obtain ⟨ad8, e8, hc8⟩ := rs hll; injection e8 with e8; subst e8; obtain ⟨r1, r2, r3⟩ := hc8 k hkt; rw [← HSV.out.1] at r1; rw [← HSV.out.2.1] at r2; obtain ⟨ap', ep', hcp'⟩ := rx hnp1; injection ep' with ep'; subst ep'; have kp := hcp' kx i3; rw [HKX.out] at kp; clear hc8 hcp' r3 rs rx; go_simp; try (with_reducible rfl)
                  simp only [Act.put, List.setIfInBounds_toArray, List.set_cons_zero, List.set_cons_succ]
                  refine wpAnyK_take [] (i := 5) (v := ?_) rfl (by kernel_rfl) (by kernel_rfl) (by kernel_rfl) (by kernel_rfl) (fun _ _ _ h => h) (Or.inl ⟨by rfl, ?_⟩) hS ?_
                  rotate_left
                  · intro W' hSw; obtain ⟨c0, c2, cv, rs, rx⟩ := hSw; obtain ⟨ad8, e8, hc8⟩ := rs hll; injection e8 with e8; subst e8; obtain ⟨r1, r2, r3⟩ := hc8 k hkt; rw [← HSV.out.1] at r1; rw [← HSV.out.2.1] at r2; obtain ⟨ap', ep', hcp'⟩ := rx hnp1; injection ep' with ep'; subst ep'; have kp := hcp' kx i3; rw [HKX.out] at kp; clear hc8 hcp' r3 rs rx; go_simp; try (with_reducible rfl)
                  simp only [Act.put, List.setIfInBounds_toArray, List.set_cons_zero, List.set_cons_succ]
                  refine wpAnyK_take [] (i := 6) (v := ?_) rfl (by kernel_rfl) (by kernel_rfl) (by kernel_rfl) (by kernel_rfl) (fun _ _ _ h => h) (Or.inl ⟨by rfl, ?_⟩) hS ?_
                  rotate_left
                  · intro W' hSw; obtain ⟨c0, c2, cv, rs, rx⟩ := hSw; obtain ⟨ad8, e8, hc8⟩ := rs hll; injection e8 with e8; subst e8; obtain ⟨r1, r2, r3⟩ := hc8 k hkt; rw [← HSV.out.1] at r1; rw [← HSV.out.2.1] at r2; obtain ⟨ap', ep', hcp'⟩ := rx hnp1; injection ep' with ep'; subst ep'; have kp := hcp' kx i3; rw [HKX.out] at kp; clear hc8 hcp' r3 rs rx; go_simp; try (with_reducible rfl)
                  simp only [Act.put, List.setIfInBounds_toArray, List.set_cons_zero, List.set_cons_succ]
                  refine wpAnyK_take [] (i := 7) (v := ?_) rfl (by kernel_rfl) (by kernel_rfl) (by kernel_rfl) (by kernel_rfl) (fun _ _ _ h => h) (Or.inl ⟨by rfl, ?_⟩) hS ?_
                  rotate_left
                  · intro W' hSw; obtain ⟨c0, c2, cv, rs, rx⟩ := hSw; obtain ⟨ad8, e8, hc8⟩ := rs hll; injection e8 with e8; subst e8; obtain ⟨r1, r2, r3⟩ := hc8 k hkt; rw [← HSV.out.1] at r1; rw [← HSV.out.2.1] at r2; obtain ⟨ap', ep', hcp'⟩ := rx hnp1; injection ep' with ep'; subst ep'; have kp := hcp' kx i3; rw [HKX.out] at kp; clear hc8 hcp' r3 rs rx; go_simp; try (with_reducible rfl)
                  simp only [Act.put, List.setIfInBounds_toArray, List.set_cons_zero, List.set_cons_succ]
                  refine wpAnyK_take [] (i := 8) (v := ?_) rfl (by kernel_rfl) (by kernel_rfl) (by kernel_rfl) (by kernel_rfl) (fun _ _ _ h => h) (Or.inl ⟨by rfl, ?_⟩) hS ?_
                  rotate_left
                  · intro W' hSw; obtain ⟨c0, c2, cv, rs, rx⟩ := hSw; obtain ⟨ad8, e8, hc8⟩ := rs hll; injection e8 with e8; subst e8; obtain ⟨r1, r2, r3⟩ := hc8 k hkt; rw [← HSV.out.1] at r1; rw [← HSV.out.2.1] at r2; obtain ⟨ap', ep', hcp'⟩ := rx hnp1; injection ep' with ep'; subst ep'; have kp := hcp' kx i3; rw [HKX.out] at kp; clear hc8 hcp' r3 rs rx; go_simp; try (with_reducible rfl)
                  simp only [Act.put, List.setIfInBounds_toArray, List.set_cons_zero, List.set_cons_succ]
                  refine wpAnyK_take [] (i := 9) (v := ?_) rfl (by kernel_rfl) (by kernel_rfl) (by kernel_rfl) (by kernel_rfl) (fun _ _ _ h => h) (Or.inl ⟨by rfl, ?_⟩) hS ?_
                  rotate_left
                  · intro W' hSw; obtain ⟨c0, c2, cv, rs, rx⟩ := hSw; obtain ⟨ad8, e8, hc8⟩ := rs hll; injection e8 with e8; subst e8; obtain ⟨r1, r2, r3⟩ := hc8 k hkt; rw [← HSV.out.1] at r1; rw [← HSV.out.2.1] at r2; obtain ⟨ap', ep', hcp'⟩ := rx hnp1; injection ep' with ep'; subst ep'; have kp := hcp' kx i3; rw [HKX.out] at kp; clear hc8 hcp' r3 rs rx; go_simp; try (with_reducible rfl)
                  simp only [Act.put, List.setIfInBounds_toArray, List.set_cons_zero, List.set_cons_succ]
                  refine wpAnyK_take [] (i := 10) (v := ?_) rfl (by kernel_rfl) (by kernel_rfl) (by kernel_rfl) (by kernel_rfl) (fun _ _ _ h => h) (Or.inl ⟨by rfl, ?_⟩) hS ?_
                  rotate_left
                  · intro W' hSw; obtain ⟨c0, c2, cv, rs, rx⟩ := hSw; obtain ⟨ad8, e8, hc8⟩ := rs hll; injection e8 with e8; subst e8; obtain ⟨r1, r2, r3⟩ := hc8 k hkt; rw [← HSV.out.1] at r1; rw [← HSV.out.2.1] at r2; obtain ⟨ap', ep', hcp'⟩ := rx hnp1; injection ep' with ep'; subst ep'; have kp := hcp' kx i3; rw [HKX.out] at kp; clear hc8 hcp' r3 rs rx; go_simp; try (with_reducible rfl)
                  simp only [Act.put, List.setIfInBounds_toArray, List.set_cons_zero, List.set_cons_succ]
                  refine wpAnyK_take [] (i := 11) (v := ?_) rfl (by kernel_rfl) (by kernel_rfl) (by kernel_rfl) (by kernel_rfl) (fun _ _ _ h => h) (Or.inl ⟨by rfl, ?_⟩) hS ?_
                  rotate_left
                  · intro W' hSw; obtain ⟨c0, c2, cv, rs, rx⟩ := hSw; obtain ⟨ad8, e8, hc8⟩ := rs hll; injection e8 with e8; subst e8; obtain ⟨r1, r2, r3⟩ := hc8 k hkt; rw [← HSV.out.1] at r1; rw [← HSV.out.2.1] at r2; obtain ⟨ap', ep', hcp'⟩ := rx hnp1; injection ep' with ep'; subst ep'; have kp := hcp' kx i3; rw [HKX.out] at kp; clear hc8 hcp' r3 rs rx; go_simp; try (with_reducible rfl)
                  simp only [Act.put, List.setIfInBounds_toArray, List.set_cons_zero, List.set_cons_succ]
                  refine wpAnyK_take [] (i := 12) (v := ?_) rfl (by kernel_rfl) (by kernel_rfl) (by kernel_rfl) (by kernel_rfl) (fun _ _ _ h => h) (Or.inl ⟨by rfl, ?_⟩) hS ?_
                  rotate_left
                  · intro W' hSw; obtain ⟨c0, c2, cv, rs, rx⟩ := hSw; obtain ⟨ad8, e8, hc8⟩ := rs hll; injection e8 with e8; subst e8; obtain ⟨r1, r2, r3⟩ := hc8 k hkt; rw [← HSV.out.1] at r1; rw [← HSV.out.2.1] at r2; obtain ⟨ap', ep', hcp'⟩ := rx hnp1; injection ep' with ep'; subst ep'; have kp := hcp' kx i3; rw [HKX.out] at kp; clear hc8 hcp' r3 rs rx; go_simp; try (with_reducible rfl)
                  simp only [Act.put, List.setIfInBounds_toArray, List.set_cons_zero, List.set_cons_succ]
                  refine wpAnyK_take [] (i := 13) (v := ?_) rfl (by kernel_rfl) (by kernel_rfl) (by kernel_rfl) (by kernel_rfl) (fun _ _ _ h => h) (Or.inl ⟨by rfl, ?_⟩) hS ?_
                  rotate_left
                  · intro W' hSw; obtain ⟨c0, c2, cv, rs, rx⟩ := hSw; obtain ⟨ad8, e8, hc8⟩ := rs hll; injection e8 with e8; subst e8; obtain ⟨r1, r2, r3⟩ := hc8 k hkt; rw [← HSV.out.1] at r1; rw [← HSV.out.2.1] at r2; obtain ⟨ap', ep', hcp'⟩ := rx hnp1; injection ep' with ep'; subst ep'; have kp := hcp' kx i3; rw [HKX.out] at kp; clear hc8 hcp' r3 rs rx; go_simp; try (with_reducible rfl)
                  simp only [Act.put, List.setIfInBounds_toArray, List.set_cons_zero, List.set_cons_succ]
                  refine wpAnyK_take [] (i := 14) (v := ?_) rfl (by kernel_rfl) (by kernel_rfl) (by kernel_rfl) (by kernel_rfl) (fun _ _ _ h => h) (Or.inl ⟨by rfl, ?_⟩) hS ?_
                  rotate_left
                  · intro W' hSw; obtain ⟨c0, c2, cv, rs, rx⟩ := hSw; obtain ⟨ad8, e8, hc8⟩ := rs hll; injection e8 with e8; subst e8; obtain ⟨r1, r2, r3⟩ := hc8 k hkt; rw [← HSV.out.1] at r1; rw [← HSV.out.2.1] at r2; obtain ⟨ap', ep', hcp'⟩ := rx hnp1; injection ep' with ep'; subst ep'; have kp := hcp' kx i3; rw [HKX.out] at kp; clear hc8 hcp' r3 rs rx; go_simp; try (with_reducible rfl)
                  simp only [Act.put, List.setIfInBounds_toArray, List.set_cons_zero, List.set_cons_succ]
                  refine wpAnyK_take [] (i := 15) (v := ?_) rfl (by kernel_rfl) (by kernel_rfl) (by kernel_rfl) (by kernel_rfl) (fun _ _ _ h => h) (Or.inl ⟨by rfl, ?_⟩) hS ?_
                  rotate_left
                  · intro W' hSw; obtain ⟨c0, c2, cv, rs, rx⟩ := hSw; obtain ⟨ad8, e8, hc8⟩ := rs hll; injection e8 with e8; subst e8; obtain ⟨r1, r2, r3⟩ := hc8 k hkt; rw [← HSV.out.1] at r1; rw [← HSV.out.2.1] at r2; obtain ⟨ap', ep', hcp'⟩ := rx hnp1; injection ep' with ep'; subst ep'; have kp := hcp' kx i3; rw [HKX.out] at kp; clear hc8 hcp' r3 rs rx; go_simp; try (with_reducible rfl)
                  simp only [Act.put, List.setIfInBounds_toArray, List.set_cons_zero, List.set_cons_succ]
                  refine wpAnyK_take [] (i := 16) (v := ?_) rfl (by kernel_rfl) (by kernel_rfl) (by kernel_rfl) (by kernel_rfl) (fun _ _ _ h => h) (Or.inl ⟨by rfl, ?_⟩) hS ?_
                  rotate_left
                  · intro W' hSw; obtain ⟨c0, c2, cv, rs, rx⟩ := hSw; obtain ⟨ad8, e8, hc8⟩ := rs hll; injection e8 with e8; subst e8; obtain ⟨r1, r2, r3⟩ := hc8 k hkt; rw [← HSV.out.1] at r1; rw [← HSV.out.2.1] at r2; obtain ⟨ap', ep', hcp'⟩ := rx hnp1; injection ep' with ep'; subst ep'; have kp := hcp' kx i3; rw [HKX.out] at kp; clear hc8 hcp' r3 rs rx; go_simp; try (with_reducible rfl)
                  simp only [Act.put, List.setIfInBounds_toArray, List.set_cons_zero, List.set_cons_succ]
                  refine wpAnyK_take [] (i := 17) (v := ?_) rfl (by kernel_rfl) (by kernel_rfl) (by kernel_rfl) (by kernel_rfl) (fun _ _ _ h => h) (Or.inl ⟨by rfl, ?_⟩) hS ?_
                  rotate_left
                  · intro W' hSw; obtain ⟨c0, c2, cv, rs, rx⟩ := hSw; obtain ⟨ad8, e8, hc8⟩ := rs hll; injection e8 with e8; subst e8; obtain ⟨r1, r2, r3⟩ := hc8 k hkt; rw [← HSV.out.1] at r1; rw [← HSV.out.2.1] at r2; obtain ⟨ap', ep', hcp'⟩ := rx hnp1; injection ep' with ep'; subst ep'; have kp := hcp' kx i3; rw [HKX.out] at kp; clear hc8 hcp' r3 rs rx; go_simp; try (with_reducible rfl)
                  simp only [Act.put, List.setIfInBounds_toArray, List.set_cons_zero, List.set_cons_succ]
                  refine wpAnyK_take [] (i := 18) (v := ?_) rfl (by kernel_rfl) (by kernel_rfl) (by kernel_rfl) (by kernel_rfl) (fun _ _ _ h => h) (Or.inl ⟨by rfl, ?_⟩) hS ?_
                  rotate_left
                  · intro W' hSw; obtain ⟨c0, c2, cv, rs, rx⟩ := hSw; obtain ⟨ad8, e8, hc8⟩ := rs hll; injection e8 with e8; subst e8; obtain ⟨r1, r2, r3⟩ := hc8 k hkt; rw [← HSV.out.1] at r1; rw [← HSV.out.2.1] at r2; obtain ⟨ap', ep', hcp'⟩ := rx hnp1; injection ep' with ep'; subst ep'; have kp := hcp' kx i3; rw [HKX.out] at kp; clear hc8 hcp' r3 rs rx; go_simp; try (with_reducible rfl)
                  simp only [Act.put, List.setIfInBounds_toArray, List.set_cons_zero, List.set_cons_succ]
                  have hba := (Below.refl V0.heap.size V0).alloc (Nat.le_refl _) (.cells #[.int .u32 (xv : Int)] 65)
                  have hS7 := hS.below hnp1 hba
                  refine wpAnyK_ready (rs := [19]) (by kernel_rfl) (by simp) (ReadyK.cons rfl (fun K hK => ?_) ReadyK.nil)
                  rw [if_pos (by rfl)]
                  go_simp
                  refine hK.out _ _ (fun _ => hS7) ?_
                  clear hK K
                  obtain ⟨x2, V', hrun, hP2, -, -⟩ := pair_push oneU32 53 (HP7.out.below hba).flip (by rw [List.length_map]; omega) ⟨V0.heap.size, 0, none⟩ (.int .u32 (xv : Int)) (ucell (heap_alloc_new V0 _) 0) rfl
                  rw [HT2.out] at hP2
                  have HP8 := Lib.hid hP2.flip
                  have hS8 := HS5.out.below hnp1 hP2.bel
                  obtain ⟨A9, n9, c9, e9⟩ := hP2.a.sl
                  subst e9
                  clear hP2 HP7 hS hS7 hba
                  refine wpAnyK_ready (rs := [20]) (by kernel_rfl) (by simp) (ReadyK.cons rfl (fun K hK => ?_) ReadyK.nil)
                  rw [if_pos (by rfl)]
                  refine Go.Lib.wp_append_run _ _ _ 53 53 rfl _ _ rfl rfl _ V' hrun ?_
                  simp only [Act.put, List.setIfInBounds_toArray, List.set_cons_zero, List.set_cons_succ]
                  refine hK.out _ _ (fun _ => hS8) ?_
                  clear hK K hrun
                  refine wpAnyK_ready (rs := [21]) (by kernel_rfl) (by simp) (ReadyK.cons rfl (fun K hK => ?_) ReadyK.nil)
                  rw [if_pos (by rfl)]
                  go_simp
                  refine hK.out _ _ (fun _ => hS8) ?_
                  clear hK K hS8
                  refine wpAnyK_done (by kernel_rfl) ?_ _
                  go_wp2
                  go_roundg (L.length - (k + 1))
                  case measure => omega
                  case rel => exact ⟨k + 1, by go_num, by omega, by omega, HP8.out⟩
                · have hkz : ¬ (k : Int) < (L.length : Int) := by omega
                  have hkL : k = L.length := by omega
                  subst hkL
                  have HPr2 : Hid (PairC w5 wr 3 65 (.slice A3 n3 k3) (L.map valN) (.slice A4 n4 k4) (L.map (valX x W))) := (show PairC _ _ _ _ _ _ _ _ from by have := HPr.out; rw [List.take_length] at this; exact this)
                  obtain ⟨B3, d3, e3, -, hz3⟩ := rowN_of HPr2.out.a
                  obtain ⟨B4, d4, e4, -, hz4⟩ := rowX_of HPr2.out.b
                  injection e3 with e31 e32 e33
                  injection e4 with e41 e42 e43
                  subst e31 e32 e33 e41 e42 e43
                  have HZ3 := Lib.hid hz3
                  have HZ4 := Lib.hid hz4
                  have HL6 := Lib.hid (HL5.out.below HPr2.out.bel)
                  clear hz3 hz4 HPr HPr2 HL5 HS5
                  go_upto_region 26 with (go_at_call 70; (with_reducible refine (HDT.out _ _ _ _ _ HZ3.out HZ4.out).mono ?_); rintro e1 w7 ⟨rfl, hb⟩; have HL7 := Lib.hid (HL6.out.below hb); clear hb)
                  have hba := (Below.refl w7.heap.size w7).alloc (Nat.le_refl _) (.cells #[.int .u32 (sv : Int)] 65)
                  have HL8 := Lib.hid (HL7.out.below hba)
                  obtain ⟨v', V', hrun, u1, u2, u3⟩ := own_push_c oneU32 53 _ w0.heap.size _ _ HL8.out.ow HL8.out.be.size (by omega) ⟨w7.heap.size, 0, none⟩ 1 (.int .u32 (sv : Int)) (ucell (heap_alloc_new w7 _) 0) rfl
                  have HL9 := Lib.hid (HL8.out.push u1 u2 u3)
                  have HRUN := Lib.hid hrun
                  obtain ⟨A9, n9, c9, e9⟩ := u1.sl
                  subst e9
                  have hb6 := u2.block g2 (heap_lt' HL8.out.ob) (fun e => HL8.out.na.1 e.symm)
                  have cw : V'.cell? ⟨g2, 2, none⟩ = some (.slice A2 n2 k2) := ucell (hb6.trans HL8.out.ob) 2
                  have fw : V'.frozen? ⟨g2, 2, none⟩ = false := ufree (hb6.trans HL8.out.ob) 2
                  have cr := ucell HL7.out.ob 2
                  have HP3 := Lib.hid (HP2.out.next HPX.out)
                  clear u1 u2 u3 hb6 hba hrun HL6 HL7 HL8 HPX HP2 HZ3 HZ4
                  go_wp2_with (at_builtin; refine Go.Lib.wpList_append_run _ rfl _ _ 53 53 rfl _ _ rfl rfl _ V' HRUN.out ?_)
                  go_roundg (wn - (xx + 1))
                  case measure => omega
                  case rel => exact ⟨xx + 1, _, _, by go_num, by omega, by omega, by rw [List.length_append, hl2]; simp; omega, HL9.out, HP3.out⟩
        · have hxz : ¬ (xx : Int) < (wn : Int) := by omega
          go_wp2
          go_roundg (hn - (y + 1))
          case measure => omega
          case rel => exact ⟨y + 1, v2, cs2, by go_num, by omega, by omega, by rw [Nat.add_mul]; omega, HL2.out, HP2.out⟩
    · have hyz : ¬ (y : Int) < (hn : Int) := by omega
      have hyn : y = hn := by omega
      subst hyn
      obtain ⟨A3, n3, k3, ev3⟩ := HL1.out.ow.sl
      subst ev3
      have d0 := ucell HL1.out.ob 0
      have d1 := ucell HL1.out.ob 1
      have d2 := ucell HL1.out.ob 2
      obtain ⟨e1, e2, e3, e4, e5, e6⟩ := st3 HL1.out.zb (.int .i64 (wn : Int)) (.int .i64 (y : Int))
      go_wp2
      refine bodyPost_ret (ret_plane rfl _ _ (w0.heap.size + 1 + 1) _ rfl (st3_end HL1.out.zb) rfl) rfl ?_
      refine ⟨_, cs1, rfl, HL1.out.ow.same (fun k hk => ?_), by rw [hl1, Int.natCast_mul, Int.mul_comm], HP1.out, st3_below HL1.out.be (by omega)⟩
      have := HL1.out.na.2 k hk
      exact (Below.heap_setCell _ ⟨w0.heap.size + 1 + 1, 2, none⟩ _ _ (by show k ≠ w0.heap.size + 1 + 1; omega)).trans ((Below.heap_setCell _ ⟨w0.heap.size + 1 + 1, 1, none⟩ _ _ (by show k ≠ w0.heap.size + 1 + 1; omega)).trans (Below.heap_setCell _ ⟨w0.heap.size + 1 + 1, 0, none⟩ _ _ (by show k ≠ w0.heap.size + 1 + 1; omega)))
attribute [local go_sem] Oper.semAt_some

set_option maxHeartbeats 6400000 in
set_option maxRecDepth 100000 in
theorem rPlane_no (W H : Int) (A : Option Addr) (np cp : Nat) (kind border : Int) (t : Wp) (w h : Int) (w0 : World) (hnp : np ≤ 1000000000) (he : planeErr kind border t W H np w h ≠ 0) :
    Calls Try.prog 30 #[.agg #[.int .i64 W, .int .i64 H, .slice A np cp], .int .i64 kind, .int .i64 border, .agg #[.int .i64 t.A, .int .i64 t.B, .int .i64 t.C, .int .i64 t.D, .int .i64 t.E, .int .i64 t.F, .int .i64 t.Q], .int .i64 w, .int .i64 h] w0 fun e w' => PlaneNo w0 (planeErr kind border t W H np w h) e w' := by
  have HMY : Hid (∀ V, Calls Try.prog 34 #[.agg #[.int .i64 W, .int .i64 H, .slice A np cp]] V fun e w' => e = .returned (.int .i64 (plE W H np)) ∧ Below V.heap.size V w') := (show ∀ V, _ from fun V => may_calls V W H A np cp (by omega))
  have HWR : Hid (∀ V, Calls Try.prog 64 #[.int .i64 kind, .int .i64 border, .agg #[.int .i64 t.A, .int .i64 t.B, .int .i64 t.C, .int .i64 t.D, .int .i64 t.E, .int .i64 t.F, .int .i64 t.Q], .int .i64 W, .int .i64 H] V fun e w' => e = .returned (.int .i64 (rightE kind border t W H)) ∧ Below V.heap.size V w') := (show ∀ V, _ from fun V => wrong_calls V kind border t W H)
  have HSZ : Hid (∀ V, Calls Try.prog 69 #[.int .i64 w, .int .i64 h] V fun e w' => e = .returned (.bool (sizeB w h)) ∧ V = w') := (show ∀ V, _ from fun V => rsize_calls V w h)
  have HST := Lib.hid (PlB.start W H A np cp t w0)
  unfold plC wpC at HST
  obtain ⟨er, eer⟩ : ∃ er, er = planeErr kind border t W H np w h := ⟨_, rfl⟩
  rw [← eer] at he ⊢
  unfold planeErr at eer
  by_cases h1 : plE W H np = 0
  · rw [if_neg (by rw [h1]; simp)] at eer
    rw [h1] at HMY
    by_cases h2 : rightE kind border t W H = 0
    · rw [if_neg (by rw [h2]; simp)] at eer
      rw [h2] at HWR
      cases h3 : sizeB w h with
      | true => rw [if_neg (by rw [h3]; decide)] at eer; exact absurd eer he
      | false =>
        rw [if_pos h3] at eer
        rw [h3] at HSZ
        subst eer
        clear h1 h2 h3 he
        go_enter Try.func30, Try.ntmps30
        go_upto_region 1 with (fail)
        generalize (((w0.alloc (.cells #[.int .i64 W, .int .i64 H, .slice A np cp] 55)).alloc (.cells #[.int .i64 t.A, .int .i64 t.B, .int .i64 t.C, .int .i64 t.D, .int .i64 t.E, .int .i64 t.F, .int .i64 t.Q] 32)).alloc (.cells #[.int .i64 0, .int .i64 0, .slice none 0 0] 55)) = w1 at HST ⊢
        obtain ⟨p0, p1, p2⟩ := plC_cells HST.out.1.k0
        go_wp2_with (first
          | (go_at_call 34; refine (HMY.out _).mono ?_; rintro e1 w2 ⟨rfl, hb⟩; have HX2 := Lib.hid (HST.out.1.below hb); have HB2 := Lib.hid (ujoin HST.out.2 hb); obtain ⟨t0, t1, t2, t3, t4, t5, t6⟩ := wpC_cells HX2.out.k1; obtain ⟨q0, q1, q2⟩ := plC_cells HX2.out.k0;  clear hb p0 p1 p2)
          | (go_at_call 64; refine (HWR.out _).mono ?_; rintro e1 w3 ⟨rfl, hb⟩; have HX3 := Lib.hid (HX2.out.below hb); have HB3 := Lib.hid (ujoin HB2.out hb); obtain ⟨s1, s2, s3, s4, s5, s6⟩ := st3 HX3.out.k2 (.int .i64 0) (.int .i64 0); clear hb t0 t1 t2 t3 t4 t5 t6 q0 q1 q2)
          | (go_at_call 69; refine (HSZ.out _).mono ?_; rintro e1 w4 ⟨rfl, rfl⟩))
        refine bodyPost_ret (ret_plane rfl _ _ (w0.heap.size + 1 + 1) _ rfl (st3_end HX3.out.k2) rfl) rfl ?_
        exact ⟨rfl, st3_below HB3.out (by omega)⟩
    · rw [if_pos h2] at eer
      have hz : ((er : Int) == 0) = false := by rw [beq_eq_false_iff_ne]; exact he
      have hne : (er != 0) = true := by rw [bne_iff_ne]; exact he
      rw [← eer] at HWR
      clear h1 h2 he eer HSZ
      go_enter Try.func30, Try.ntmps30
      go_upto_region 1 with (fail)
      generalize (((w0.alloc (.cells #[.int .i64 W, .int .i64 H, .slice A np cp] 55)).alloc (.cells #[.int .i64 t.A, .int .i64 t.B, .int .i64 t.C, .int .i64 t.D, .int .i64 t.E, .int .i64 t.F, .int .i64 t.Q] 32)).alloc (.cells #[.int .i64 0, .int .i64 0, .slice none 0 0] 55)) = w1 at HST ⊢
      obtain ⟨p0, p1, p2⟩ := plC_cells HST.out.1.k0
      go_wp2_with (first
        | (go_at_call 34; refine (HMY.out _).mono ?_; rintro e1 w2 ⟨rfl, hb⟩; have HX2 := Lib.hid (HST.out.1.below hb); have HB2 := Lib.hid (ujoin HST.out.2 hb); obtain ⟨t0, t1, t2, t3, t4, t5, t6⟩ := wpC_cells HX2.out.k1; obtain ⟨q0, q1, q2⟩ := plC_cells HX2.out.k0;  clear hb p0 p1 p2)
        | (go_at_call 64; refine (HWR.out _).mono ?_; rintro e1 w3 ⟨rfl, hb⟩; have HX3 := Lib.hid (HX2.out.below hb); have HB3 := Lib.hid (ujoin HB2.out hb); obtain ⟨s1, s2, s3, s4, s5, s6⟩ := st3 HX3.out.k2 (.int .i64 0) (.int .i64 0); clear hb t0 t1 t2 t3 t4 t5 t6 q0 q1 q2)
        | (go_at_call 69; refine (HSZ.out _).mono ?_; rintro e1 w4 ⟨rfl, rfl⟩))
      refine bodyPost_ret (ret_plane rfl _ _ (w0.heap.size + 1 + 1) _ rfl (st3_end HX3.out.k2) rfl) rfl ?_
      exact ⟨rfl, st3_below HB3.out (by omega)⟩
  · rw [if_pos h1] at eer
    have hz : ((er : Int) == 0) = false := by rw [beq_eq_false_iff_ne]; exact he
    have hne : (er != 0) = true := by rw [bne_iff_ne]; exact he
    rw [← eer] at HMY
    clear h1 he eer HSZ HWR
    go_enter Try.func30, Try.ntmps30
    go_upto_region 1 with (fail)
    generalize (((w0.alloc (.cells #[.int .i64 W, .int .i64 H, .slice A np cp] 55)).alloc (.cells #[.int .i64 t.A, .int .i64 t.B, .int .i64 t.C, .int .i64 t.D, .int .i64 t.E, .int .i64 t.F, .int .i64 t.Q] 32)).alloc (.cells #[.int .i64 0, .int .i64 0, .slice none 0 0] 55)) = w1 at HST ⊢
    obtain ⟨p0, p1, p2⟩ := plC_cells HST.out.1.k0
    go_wp2_with (first
      | (go_at_call 34; refine (HMY.out _).mono ?_; rintro e1 w2 ⟨rfl, hb⟩; have HX2 := Lib.hid (HST.out.1.below hb); have HB2 := Lib.hid (ujoin HST.out.2 hb); obtain ⟨t0, t1, t2, t3, t4, t5, t6⟩ := wpC_cells HX2.out.k1; obtain ⟨q0, q1, q2⟩ := plC_cells HX2.out.k0; obtain ⟨s1, s2, s3, s4, s5, s6⟩ := st3 HX2.out.k2 (.int .i64 0) (.int .i64 0); clear hb p0 p1 p2)
      | (go_at_call 64; refine (HWR.out _).mono ?_; rintro e1 w3 ⟨rfl, hb⟩; have HX3 := Lib.hid (HX2.out.below hb); have HB3 := Lib.hid (ujoin HB2.out hb);  clear hb t0 t1 t2 t3 t4 t5 t6 q0 q1 q2)
      | (go_at_call 69; refine (HSZ.out _).mono ?_; rintro e1 w4 ⟨rfl, rfl⟩))
    refine bodyPost_ret (ret_plane rfl _ _ (w0.heap.size + 1 + 1) _ rfl (st3_end HX2.out.k2) rfl) rfl ?_
    exact ⟨rfl, st3_below HB2.out (by omega)⟩
attribute [local go_sem] Oper.semAt_some

/-- What a round of Spoil reads. -/
structure SpR (b g i : Nat) (n c : Nat) (z : Int) (V : World) : Prop where
  c2 : V.cell? ⟨b, 2, none⟩ = some (.slice (some ⟨g, 0, none⟩) n c)
  ci : V.cell? ⟨g, i, none⟩ = some (.int .u32 z)
/-- Between its rounds. -/
structure SpL (w : World) (W H : Int) (g n c : Nat) (V : World) : Prop where
  gr : w.grownBy V (some g)
  bx : V.heap[w.heap.size]? = some (.cells #[.int .i64 W, .int .i64 H, .slice (some ⟨g, 0, none⟩) n c] 55 (0, 0))
  rw : ∃ cur, V.heap[g]? = some (.cells cur 65 (0, 0)) ∧ ∀ j, j < n → ∃ z : Int, cur[j]? = some (.int .u32 z)
theorem grownBy_of_below {w V V' : World} {g : Nat} (h : w.grownBy V (some g)) (hb : Below V.heap.size V V') : w.grownBy V' (some g) :=
  ⟨hb.os.trans h.os, hb.tape.trans h.tape, hb.output.trans h.output, Nat.le_trans h.size hb.size, fun k hk hne => (hb.block k (Nat.lt_of_lt_of_le hk h.size)).trans (h.block k hk hne)⟩
theorem SpL.below {w : World} {W H : Int} {g n c : Nat} {V V' : World} (h : SpL w W H g n c V) (hb : Below V.heap.size V V') : SpL w W H g n c V' := by
  obtain ⟨cur, h1, h2⟩ := h.rw
  exact ⟨grownBy_of_below h.gr hb, (hb.block _ (heap_lt' h.bx)).trans h.bx, cur, (hb.block _ (heap_lt' h1)).trans h1, h2⟩
theorem SpL.set {w : World} {W H : Int} {g n c : Nat} {V : World} (h : SpL w W H g n c V) (hg : g < w.heap.size) (i : Nat) (z : Int) : SpL w W H g n c (V.setCell ⟨g, i, none⟩ (.int .u32 z)) := by
  obtain ⟨cur, h1, h2⟩ := h.rw
  have st : ∀ k, k ≠ g → (V.setCell ⟨g, i, none⟩ (.int .u32 z)).heap[k]? = V.heap[k]? := fun k hk => Below.heap_setCell _ ⟨g, i, none⟩ _ _ hk
  have bl := (Below.refl 0 V).setCell (p := ⟨g, i, none⟩) (Nat.zero_le _) (.int .u32 z)
  refine ⟨⟨bl.os.trans h.gr.os, bl.tape.trans h.gr.tape, bl.output.trans h.gr.output, Nat.le_trans h.gr.size bl.size, fun k hk hne => (st k (fun e => hne (by rw [e]))).trans (h.gr.block k hk hne)⟩, (st _ (by omega)).trans h.bx, cur.setIfInBounds i (.int .u32 z), blk_put h1 i _ rfl, fun j hj => ?_⟩
  obtain ⟨y, hy⟩ := h2 j hj
  by_cases e : i = j
  · subst e
    have hlt := (Array.getElem?_eq_some_iff.1 hy).1
    exact ⟨z, by simp [hlt]⟩
  · exact ⟨y, by rw [Array.getElem?_setIfInBounds_ne e]; exact hy⟩
set_option maxHeartbeats 3200000 in
set_option maxRecDepth 100000 in
theorem spoil_calls (w : World) (W H : Int) (A : Option Addr) (n c g : Nat) (hn : n ≤ 1000000000) (hg : g < w.heap.size) (hf : n = 0 ∨ (A = some ⟨g, 0, none⟩ ∧ ∃ cur, w.heap[g]? = some (.cells cur 65 (0, 0)) ∧ ∀ j, j < n → ∃ z : Int, cur[j]? = some (.int .u32 z))) :
    Calls Try.prog 33 #[.agg #[.int .i64 W, .int .i64 H, .slice A n c]] w fun e w' => e = .returned (.tuple #[]) ∧ w.grownBy w' (some g) := by
  rcases hf with rfl | ⟨rfl, hrow⟩
  · have hb := (Below.refl w.heap.size w).alloc (Nat.le_refl _) (.cells #[.int .i64 W, .int .i64 H, .slice A 0 c] 55)
    have HG : Hid (w.grownBy (w.alloc (.cells #[.int .i64 W, .int .i64 H, .slice A 0 c] 55)) (some g)) := (show World.grownBy _ _ _ from ⟨hb.os, hb.tape, hb.output, hb.size, fun k hk _ => hb.block k hk⟩)
    clear hb
    go_enter Try.func33, Try.ntmps33
    go_wp2
    go_loopw [2] (fun v2 wr => v2 = .int .i64 0 ∧ wr = w.alloc (.cells #[.int .i64 W, .int .i64 H, .slice A 0 c] 55)) (fun _ _ => 0)
    case atStart => exact ⟨rfl, rfl⟩
    case round =>
      obtain ⟨rfl, rfl⟩ := hrel
      go_wp2
      go_end0
      exact ⟨rfl, HG.out⟩
  · have hb := (Below.refl w.heap.size w).alloc (Nat.le_refl _) (.cells #[.int .i64 W, .int .i64 H, .slice (some ⟨g, 0, none⟩) n c] 55)
    have HL : Hid (SpL w W H g n c (w.alloc (.cells #[.int .i64 W, .int .i64 H, .slice (some ⟨g, 0, none⟩) n c] 55))) := (show SpL _ _ _ _ _ _ _ from by
      obtain ⟨cur, h1, h2⟩ := hrow
      exact ⟨⟨hb.os, hb.tape, hb.output, hb.size, fun k hk _ => hb.block k hk⟩, heap_alloc_new w _, cur, (hb.block _ hg).trans h1, h2⟩)
    clear hb hrow
    go_enter Try.func33, Try.ntmps33
    go_upto_region 1 with (fail)
    generalize w.alloc (.cells #[.int .i64 W, .int .i64 H, .slice (some ⟨g, 0, none⟩) n c] 55) = w1 at HL ⊢
    go_wp2
    go_loopw [2] (fun v2 wr => ∃ i : Nat, v2 = .int .i64 (i : Int) ∧ i ≤ n ∧ Hid (SpL w W H g n c wr)) (fun v2 _ => n - (intOf v2).toNat)
    case atStart => exact ⟨0, rfl, Nat.zero_le _, HL.out⟩
    case round =>
      obtain ⟨i, rfl, hi, HLi⟩ := hrel
      clear HL
      have c2 := ucell HLi.out.bx 2
      by_cases hlt : i < n
      · have hltz : (i : Int) < (n : Int) := by omega
        obtain ⟨cur, h1, h2⟩ := HLi.out.rw
        obtain ⟨z, hz⟩ := h2 i hlt
        have HLd := Lib.hid (HLi.out.below (Below.refl wr.heap.size wr).drew)
        have hS : SpR w.heap.size g i n c z wr.drew := ⟨c2, by have := ucell h1 i; rw [hz] at this; exact this⟩
        have HZF : Hid (wr.drew.cell? ⟨g, i, none⟩ = some (.int .u32 z) ∧ wr.drew.frozen? ⟨g, i, none⟩ = false) := (show _ ∧ _ from ⟨hS.ci, ufree h1 i⟩)
        clear h1 h2 hz
        go_upto_region 4 with (fail)
        clear c2 HLi
        refine wp_region_any (by kernel_rfl) ?_
        change wpAny _ _ _ _ _ _ _ wr.drew
        generalize wr.drew = V0 at HLd hS HZF ⊢
        obtain ⟨kz, kf⟩ := HZF.out
        refine wpAny_of_K (S := SpR w.heap.size g i n c z) (T := [10]) _ _ _ _ ?_
        refine wpAnyK_take [1, 9, 10] (i := 0) (v := ?_) rfl (by kernel_rfl) (by kernel_rfl) (by kernel_rfl) (by kernel_rfl) (fun _ _ _ h => h) (Or.inl ⟨by rfl, ?_⟩) hS ?_
        rotate_left
        · intro W' hSw; obtain ⟨c2, ci⟩ := hSw; go_simp; try (with_reducible rfl)
        simp only [Act.put, List.setIfInBounds_toArray, List.set_cons_zero, List.set_cons_succ]
        refine wpAnyK_take [9, 10] (i := 1) (v := ?_) rfl (by kernel_rfl) (by kernel_rfl) (by kernel_rfl) (by kernel_rfl) (fun _ _ _ h => h) (Or.inl ⟨by rfl, ?_⟩) hS ?_
        rotate_left
        · intro W' hSw; obtain ⟨c2, ci⟩ := hSw; go_simp; try (with_reducible rfl)
        simp only [Act.put, List.setIfInBounds_toArray, List.set_cons_zero, List.set_cons_succ]
        refine wpAnyK_take [9, 10] (i := 2) (v := ?_) rfl (by kernel_rfl) (by kernel_rfl) (by kernel_rfl) (by kernel_rfl) (fun _ _ _ h => h) (Or.inl ⟨by rfl, ?_⟩) hS ?_
        rotate_left
        · intro W' hSw; obtain ⟨c2, ci⟩ := hSw; go_simp; try (with_reducible rfl)
        simp only [Act.put, List.setIfInBounds_toArray, List.set_cons_zero, List.set_cons_succ]
        refine wpAnyK_take [4, 6, 7, 8, 10] (i := 3) (v := ?_) rfl (by kernel_rfl) (by kernel_rfl) (by kernel_rfl) (by kernel_rfl) (fun _ _ _ h => h) (Or.inl ⟨by rfl, ?_⟩) hS ?_
        rotate_left
        · intro W' hSw; obtain ⟨c2, ci⟩ := hSw; go_simp; try (with_reducible rfl)
        simp only [Act.put, List.setIfInBounds_toArray, List.set_cons_zero, List.set_cons_succ]
        refine wpAnyK_take [6, 7, 8, 10] (i := 4) (v := ?_) rfl (by kernel_rfl) (by kernel_rfl) (by kernel_rfl) (by kernel_rfl) (fun _ _ _ h => h) (Or.inl ⟨by rfl, ?_⟩) hS ?_
        rotate_left
        · intro W' hSw; obtain ⟨c2, ci⟩ := hSw; go_simp; try (with_reducible rfl)
        simp only [Act.put, List.setIfInBounds_toArray, List.set_cons_zero, List.set_cons_succ]
        refine wpAnyK_take [6, 7, 8, 10] (i := 5) (v := ?_) rfl (by kernel_rfl) (by kernel_rfl) (by kernel_rfl) (by kernel_rfl) (fun _ _ _ h => h) (Or.inl ⟨by rfl, ?_⟩) hS ?_
        rotate_left
        · intro W' hSw; obtain ⟨c2, ci⟩ := hSw; go_simp; try (with_reducible rfl)
        simp only [Act.put, List.setIfInBounds_toArray, List.set_cons_zero, List.set_cons_succ]
        refine wpAnyK_take [7, 8, 10] (i := 6) (v := ?_) rfl (by kernel_rfl) (by kernel_rfl) (by kernel_rfl) (by kernel_rfl) (fun _ _ _ h => h) (Or.inl ⟨by rfl, ?_⟩) hS ?_
        rotate_left
        · intro W' hSw; obtain ⟨c2, ci⟩ := hSw; go_simp; try (with_reducible rfl)
        simp only [Act.put, List.setIfInBounds_toArray, List.set_cons_zero, List.set_cons_succ]
        refine wpAnyK_take [8, 10] (i := 7) (v := ?_) rfl (by kernel_rfl) (by kernel_rfl) (by kernel_rfl) (by kernel_rfl) (fun _ _ _ h => h) (Or.inl ⟨by rfl, ?_⟩) hS ?_
        rotate_left
        · intro W' hSw; obtain ⟨c2, ci⟩ := hSw; go_simp; try (with_reducible rfl)
        simp only [Act.put, List.setIfInBounds_toArray, List.set_cons_zero, List.set_cons_succ]
        refine wpAnyK_take [10] (i := 8) (v := ?_) rfl (by kernel_rfl) (by kernel_rfl) (by kernel_rfl) (by kernel_rfl) (fun _ _ _ h => h) (Or.inl ⟨by rfl, ?_⟩) hS ?_
        rotate_left
        · intro W' hSw; obtain ⟨c2, ci⟩ := hSw; go_simp; try (with_reducible rfl)
        simp only [Act.put, List.setIfInBounds_toArray, List.set_cons_zero, List.set_cons_succ]
        refine wpAnyK_take [10] (i := 9) (v := ?_) rfl (by kernel_rfl) (by kernel_rfl) (by kernel_rfl) (by kernel_rfl) (fun _ _ _ h => h) (Or.inl ⟨by rfl, ?_⟩) hS ?_
        rotate_left
        · intro W' hSw; obtain ⟨c2, ci⟩ := hSw; go_simp; try (with_reducible rfl)
        simp only [Act.put, List.setIfInBounds_toArray, List.set_cons_zero, List.set_cons_succ]
        have HL2 := Lib.hid (HLd.out.set hg i (bits .xor .u32 z 1515870810))
        obtain ⟨xz, exz⟩ : ∃ q, bits .xor .u32 z 1515870810 = q := ⟨_, rfl⟩
        refine wpAnyK_ready (rs := [10]) (by kernel_rfl) (by simp) (ReadyK.cons rfl (fun K hK => ?_) ReadyK.nil)
        rw [if_pos (by rfl)]
        go_simp
        refine hK.out _ _ (fun h => absurd h (by decide)) ?_
        clear hK K
        refine wpAnyK_done (by kernel_rfl) ?_ _
        rw [exz] at HL2
        clear hS HLd kz kf HZF
        go_wp2
        go_roundw
        case rel => exact ⟨i + 1, by first | rfl | go_num, by omega, HL2.out⟩
        case measure => simp [intOf]; omega
      · have hltz : ¬ (i : Int) < (n : Int) := by omega
        go_wp2
        go_end0
        exact ⟨rfl, HLi.out.gr⟩
end Go.Proofs.Ytdcpeeolfgohmaa
