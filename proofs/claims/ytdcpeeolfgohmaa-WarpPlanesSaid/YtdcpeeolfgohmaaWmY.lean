/- warp.Plane: the walk. -/
import Derived.Test.YtdcpeeolfgohmaaWmZN
import Derived.Test.YtdcpeeolfgohmaaWmXQ
import Derived.Test.YtdcpeeolfgohmaaLit
import Derived.Lib.AppendZeros
import Derived.Sort.QuietIn
import Derived.Deep.RegionHeld3
namespace Go.Proofs.Ytdcpeeolfgohmaa
open Go.RowKit Go.Proofs.YtdcpeeolfgohmaaW.PrintWords
set_option linter.unusedSimpArgs false
set_option linter.unusedVariables false
attribute [local go_sem] Oper.semAt_some

set_option maxHeartbeats 3200000 in
set_option maxRecDepth 100000 in
theorem plane_in (W H : Int) (A : Option Addr) (np cp : Nat) (kind border : Int) (t : Wp) (w h : Int) (x : Nat → Nat) (w0 : World) (hnp : np ≤ 1000000000) (hrow : RowU w0 A np x) (hxb : ∀ k, k < np → x k < 4294967296) (HOK : ∀ (i : Nat) (L : List Spt), (i : Int) < w * h → kind ≠ 1 → IsSpots kind border t W H ((i : Int) % w) ((i : Int) / w) L → NarrowOk (dotB (spN L) (spX x W L) L.length)) (he : plE W H np = 0) (hr : rightE kind border t W H = 0) (hs : sizeB w h = true) :
    CallsIn Fence.wide 9 Try.prog 31 #[.agg (plC W H A np cp), .int .i64 kind, .int .i64 border, wpV t, .int .i64 w, .int .i64 h] w0 fun e w' => PlaneEnd w0 kind border t W H x w h e w' := by
  have HPC : Hid (∀ W', CallsIn Fence.wide (9 - 1) Try.prog 71 #[.agg (plC W H A np cp)] W' fun e w' => e = .returned (.int .i64 0) ∧ Below W'.heap.size W' w') := (show ∀ W', _ from fun W' => callsIn_wide.2 ((pcheck_calls W' W H A np cp hnp).mono fun e w' h => ⟨by rw [h.1, he], h.2⟩))
  have HRI : Hid (∀ W', CallsIn Fence.wide (9 - 1) Try.prog 66 #[wayV kind border t W H] W' fun e w' => e = .returned (.int .i64 0) ∧ Below W'.heap.size W' w') := (show ∀ W', _ from fun W' => callsIn_wide.2 ((right_calls W' kind border t W H).mono fun e w' h => ⟨by rw [h.1, hr], h.2⟩))
  have HSZ : Hid (∀ W', CallsIn Fence.wide (9 - 1) Try.prog 72 #[.int .i64 w, .int .i64 h] W' fun e w' => e = .returned (.bool true) ∧ W' = w') := (show ∀ W', _ from fun W' => callsIn_wide.2 ((wsize_calls W' w h).mono fun e w' h => ⟨by rw [h.1, hs], h.2⟩))
  obtain ⟨a1, a2, a3, a4, a5, a6⟩ := sizeB_in hs
  have HRT := Lib.hid (rightE_in hr)
  have HNP : Hid ((np : Int) = W * H) := (show _ = _ from by
    unfold plE at he
    split at he
    · omega
    · split at he
      · omega
      · omega)
  have HRW := Lib.hid hrow
  have HXB := Lib.hid hxb
  have HOKH := Lib.hid HOK
  have HST := Lib.hid (PlB.start W H A np cp t w0)
  unfold plC at HPC ⊢
  unfold wayV wayC at HRI
  unfold wpV wpC
  clear he hr hs hrow hxb HOK
  refine callsIn_of_wp_marks Try.func31 rfl trivial ?_ rfl
  simp only [Try.ntmps31, List.size_toArray, List.length_cons, List.length_nil, Nat.reduceAdd, Nat.reduceSub, Array.replicate_succ, Array.replicate_zero, List.push_toArray, List.append_toArray, List.nil_append, List.cons_append]
  gi_wp2_with (first
    | ((refine ⟨trivial, ?_⟩); gi_at_call 71; (with_reducible refine (HPC.out _).mono ?_); rintro e1 w1 ⟨rfl, hb⟩; have HX1 := Lib.hid (HST.out.1.below hb); have HB1 := Lib.hid (ujoin HST.out.2 hb); obtain ⟨c0, c1, c2, c3, c4, c5, c6⟩ := wpC_cells HX1.out.k1; obtain ⟨d0, d1, d2⟩ := plC_cells HX1.out.k0; clear hb)
    | ((refine ⟨trivial, ?_⟩); gi_at_call 66; (with_reducible refine (HRI.out _).mono ?_); rintro e1 w2 ⟨rfl, hb2⟩)
    | ((refine ⟨trivial, ?_⟩); gi_at_call 72; (with_reducible refine (HSZ.out _).mono ?_); rintro e1 w3 ⟨rfl, rfl⟩))
  obtain ⟨g1, eg1⟩ : ∃ g1, g1 = w1.heap.size := ⟨_, rfl⟩
  obtain ⟨g2, eg2⟩ : ∃ g2, g2 = w2.heap.size := ⟨_, rfl⟩
  have H0 : Hid (PlL w0.heap.size g1 g2 w0 W H A np cp kind border t w h [] (.slice none 0 0) [] (w2.alloc (.cells #[.int .i64 w, .int .i64 h, .slice none 0 0] 55))) := (show PlL _ _ _ _ _ _ _ _ _ _ _ _ _ _ _ _ _ _ from by
    have q1 := heap_alloc_new w1 (.cells (wayC kind border t W H) 115)
    have ba := (Below.refl w1.heap.size w1).alloc (Nat.le_refl _) (.cells (wayC kind border t W H) 115)
    have b12 : Below w1.heap.size w1 w2 := ujoin ba hb2
    have bo := (Below.refl w2.heap.size w2).alloc (Nat.le_refl _) (.cells #[.int .i64 w, .int .i64 h, .slice none 0 0] 55)
    have z12 : w1.heap.size + 1 ≤ w2.heap.size := by have := hb2.size; simpa using this
    have q2 : w2.heap[w1.heap.size]? = some (.cells (wayC kind border t W H) 115) := (hb2.block _ (by simp)).trans q1
    have q3 := heap_alloc_new w2 (.cells #[.int .i64 w, .int .i64 h, .slice none 0 0] 55)
    have hx := HX1.out.size
    rw [eg1, eg2]
    exact ⟨(HX1.out.below b12).below bo, (bo.block _ (by omega)).trans q2, q3, OwnC.nil _ _ _, ujoin (ujoin HB1.out b12) bo, trivial, hx, by omega, rfl, by simp [Value.ownBlock], by simp [Value.ownBlock], fun k hk => by simp [Value.ownBlock] at hk⟩)
  rw [← eg1, ← eg2]
  clear eg1 eg2 hb2 HPC HRI HSZ HST c0 c1 c2 c3 c4 c5 c6 d0 d1 d2
  generalize w2.alloc (.cells #[.int .i64 w, .int .i64 h, .slice none 0 0] 55) = V0 at H0 ⊢
  refine wpIn_loop (fun a' V => ∃ (i : Nat) (Ds : List Nat) (v : Value) (cs : List Value), (cs.length = i ∧ (i : Int) ≤ w * h ∧ Hid (PlL w0.heap.size g1 g2 w0 W H A np cp kind border t w h Ds v cs V) ∧ Hid (PxRow kind border t W H x w cs)) ∧ a'.defers = marksOf Ds ∧ a'.tmps.size = 108 ∧ a'.tmps.getD 1 undef = .int .i64 kind ∧ a'.tmps.getD 4 undef = .int .i64 w ∧ a'.tmps.getD 5 undef = .int .i64 h ∧ a'.tmps.getD 6 undef = .pointer (some ⟨w0.heap.size, 0, none⟩) ∧ a'.tmps.getD 12 undef = .pointer (some ⟨w0.heap.size + 1 + 1, 0, none⟩) ∧ a'.tmps.getD 13 undef = .int .i64 0 ∧ a'.tmps.getD 15 undef = .pointer (some ⟨g1, 0, none⟩) ∧ a'.tmps.getD 17 undef = .pointer (some ⟨g2, 0, none⟩) ∧ a'.tmps.getD 54 undef = .int .i64 (w * h) ∧ a'.tmps.getD 55 undef = .int .i64 (i : Int)) (fun a' V => (w * h).toNat - (intOf (a'.tmps.getD 55 undef)).toNat) ?start ?round
  case start => exact ⟨0, [], _, [], ⟨rfl, by omega, H0, (show PxRow _ _ _ _ _ _ _ _ from PxRow.nil _ _ _ _ _ _ _)⟩, rfl, rfl, rfl, rfl, rfl, rfl, rfl, rfl, rfl, rfl, rfl, rfl⟩
  case round =>
    rintro ⟨tm, ds⟩ V ⟨i, Ds, v, cs, ⟨hlen, hi, HL, HPX⟩, hds, hsz, f1, f4, f5, f6, f12, f13, f15, f17, f54, f55⟩
    dsimp only at hds hsz f1 f4 f5 f6 f12 f13 f15 f17 f54 f55
    obtain ⟨U, hU, hk⟩ := lit108 tm hsz
    rw [← hk] at f1 f4 f5 f6 f12 f13 f15 f17 f54 f55
    rw [f1, f4, f5, f6, f12, f13, f15, f17, f54, f55] at hU
    subst hds
    subst hU
    clear H0 V0 hk hsz f1 f4 f5 f6 f12 f13 f15 f17 f54 f55
    by_cases hlt : (i : Int) < w * h
    · obtain ⟨g3, eg3⟩ : ∃ g3, g3 = V.heap.size := ⟨_, rfl⟩
      obtain ⟨m, em⟩ : ∃ m, m = (i : Int) % w := ⟨_, rfl⟩
      obtain ⟨d, ed⟩ : ∃ d, d = (i : Int) / w := ⟨_, rfl⟩
      have hm : 0 ≤ m ∧ m ≤ 1024 := by
        have h1 := Int.emod_nonneg (i : Int) (show w ≠ 0 by omega)
        have h2 := Int.emod_lt_of_pos (i : Int) (show 0 < w by omega)
        omega
      have hd : 0 ≤ d ∧ d ≤ 1024 := by
        have h1 := Int.ediv_nonneg (show 0 ≤ (i : Int) by omega) (show 0 ≤ w by omega)
        have h2 : (i : Int) / w < h := Int.ediv_lt_of_lt_mul (by omega) (by rw [Int.mul_comm]; exact hlt)
        omega
      have TM : (i : Int).tmod w = m := by rw [em]; exact Int.tmod_eq_emod_of_nonneg (by omega)
      have TD : (i : Int).tdiv w = d := by rw [ed]; exact Int.tdiv_eq_ediv_of_nonneg (by omega)
      have WM : IntKind.i64.wrap m = m := IntWalk.i64_in _ (by omega)
      have WD : IntKind.i64.wrap d = d := IntWalk.i64_in _ (by omega)
      have hw0 : w ≠ 0 := by omega
      have HSP := Lib.hid fun W' => callsIn_wide (n := 9 - 1).2 (spots_calls W' kind border t W H m d)
      unfold wayV wayC SpotsTold at HSP
      have HV2 : Hid (PlL w0.heap.size g1 g2 w0 W H A np cp kind border t w h Ds v cs ((V.alloc (.cells #[.slice none 0 0] 93)).alloc (.cells #[.slice none 0 0] 53)) ∧ ((V.alloc (.cells #[.slice none 0 0] 93)).alloc (.cells #[.slice none 0 0] 53)).heap[g3]? = some (.cells #[.slice none 0 0] 93) ∧ ((V.alloc (.cells #[.slice none 0 0] 93)).alloc (.cells #[.slice none 0 0] 53)).heap[g3 + 1]? = some (.cells #[.slice none 0 0] 53) ∧ ((V.alloc (.cells #[.slice none 0 0] 93)).alloc (.cells #[.slice none 0 0] 53)).heap.size = g3 + 2 ∧ PlN (g3 + 2) w0.heap.size g2 g3 (g3 + 1) Ds v) := (show _ ∧ _ from by
        have b1 := (Below.refl V.heap.size V).alloc (Nat.le_refl _) (.cells #[.slice none 0 0] 93)
        have b2 := (Below.refl (V.alloc (.cells #[.slice none 0 0] 93)).heap.size (V.alloc (.cells #[.slice none 0 0] 93))).alloc (Nat.le_refl _) (.cells #[.slice none 0 0] 53)
        have q1 := heap_alloc_new V (.cells #[.slice none 0 0] 93)
        have q2 := heap_alloc_new (V.alloc (.cells #[.slice none 0 0] 93)) (.cells #[.slice none 0 0] 53)
        rw [World.size_alloc] at q2
        obtain ⟨z1, z2, z3, z4, z5⟩ := HL.out.sz
        have o1 := HL.out.o1
        have o2 := HL.out.o2
        rw [eg3]
        refine ⟨HL.out.below (ujoin b1 b2), (b2.block _ (by simp)).trans q1, q2, by simp, ⟨⟨by omega, by omega, fun k hk => by have := z4 k hk; omega, fun D hD => by have := z5 D hD; omega⟩, by omega, by omega, by omega, by omega, by omega, fun D hD => by have := z5 D hD; omega, fun k hk => by have := z4 k hk; omega⟩⟩)
      have HSZ3 := Lib.hid eg3
      have EMD := Lib.hid (And.intro em ed)
      clear em ed
      gi_wp2
      rw [← eg3]
      clear eg3 HL HSZ3
      generalize (V.alloc (.cells #[.slice none 0 0] 93)).alloc (.cells #[.slice none 0 0] 53) = V2 at HV2 ⊢
      obtain ⟨c0, c1, c2, c3, c4, c5, c6, c7, c8, c9, c10⟩ := wayC_cells HV2.out.1.wy
      refine wpIn_mono (Q := NoPanic _) ?_ NoPanic.imp
      gi_region_with (first
        | ((refine ⟨trivial, ?_⟩); gi_at_call 68; (with_reducible refine (HSP.out _).mono ?_); rintro e1 w3 ⟨b, rfl, hb0, hb3, k0, k1, k2, hb⟩))
      refine NoPanic.normal ?_
      have hb' : Below V2.heap.size V2 w3 := ⟨hb.os, hb.tape, hb.output, hb.size, hb.block⟩
      obtain ⟨hl2, q3, q4, hz2, hN2⟩ := HV2.out
      have hbz := hb'.size
      rw [hz2] at hbz
      have hN : PlN w3.heap.size w0.heap.size g2 g3 (g3 + 1) Ds v := hN2.more hbz
      have q3' := (hb'.block g3 (by omega)).trans q3
      have q4' := (hb'.block (g3 + 1) (by omega)).trans q4
      have H3 : Hid (PlI w3.heap.size w0.heap.size g1 g2 g3 (g3 + 1) w0 W H A np cp kind border t w h Ds v cs x (fun _ => False) [] w3) := (show PlI _ _ _ _ _ _ _ _ _ _ _ _ _ _ _ _ _ _ _ _ _ _ _ _ from ⟨.slice none 0 0, .slice none 0 0, hl2.below hb', ucell q3' 0, ucell q4' 0, ufree q3' 0, ufree q4' 0, OwnC.nil _ _ _, OwnC.nil _ _ _, .inl rfl, fun k h => h.elim, Nat.le_refl _⟩)
      have HN := Lib.hid hN
      have HBX : Hid (Boxes b kind border t W H m d w3) := (show Boxes _ _ _ _ _ _ _ _ _ from ⟨k0, k1, k2⟩)
      have hb3' : b + 3 ≤ w3.heap.size := hb3
      have hbg : g3 + 2 ≤ b := by rw [← hz2]; exact hb0
      have HSQ := Lib.hid (spots_seq kind border t W H m d w3 b HRT.out HBX.out hm hd (9 - 1) (by decide))
      clear hb' hl2 q3 q4 hz2 hN2 hN q3' q4' c0 c1 c2 c3 c4 c5 c6 c7 c8 c9 c10 HV2 HSP TM TD hb k0 k1 k2 hb0 hb3 WM WD
      gi_wp2
      refine wpIn_rangeFunc_G2 (F := Fence.wide) (n := 9) rfl (by decide) (gf := 102) (lb := #[.pointer (some ⟨b, 0, none⟩), .pointer (some ⟨b + 1, 0, none⟩), .pointer (some ⟨b + 2, 0, none⟩)]) rfl trivial (enters_of Try.func102 (by kernel_rfl) rfl)
        HSQ.out (Below.refl _ _) (fun k hk => by omega) (fun _ => rfl) (fun B pre x W r o o' h ho hc => h)
        (PlI w3.heap.size w0.heap.size g1 g2 g3 (g3 + 1) w0 W H A np cp kind border t w h Ds v cs x) (fun _ _ _ _ => False) (plI_own HN.out) (fun c => ⟨fun _ _ _ _ h _ => h, fun _ _ _ _ h => h, fun _ _ _ _ _ _ h _ _ _ => h⟩) H3.out
        (fun s W => W.alloc (.cells #[.int .i64 s.X, .int .i64 s.Y, .int .i64 s.N] 51)) (fun s W => (Below.refl _ _).alloc (Nat.le_refl _) _) (fun B pre s W h => (plI_own HN.out).alloc B pre W _ h) (fun _ _ _ _ h => h) (fun B pre W h => by obtain ⟨v1, v2, h⟩ := h; exact ⟨h.sz, fun k hk => (h.sep k hk).2.1⟩) ?ab ?done ?stop
      case stop =>
        rintro D c B pre W1 _ _ h _
        exact h.elim
      case done =>
        rintro D B L W4 hD hSL ⟨v1, v2, HR⟩ hdef
        have hN := HN.out
        have hPL := Lib.hid (HR.pl.mark (D := D) (by have := hN.a.1; omega) hdef (fun hm => by have := hN.a.2.2.2 D hm; omega))
        have hIS : IsSpots kind border t W H m d L := hSL
        have c3 := HR.c3
        have c4 := HR.c4
        obtain ⟨A1, k1, ev1, hk1, hz1⟩ := rowN_of HR.r1
        obtain ⟨A2, k2, ev2, hk2, hx2⟩ := rowX_of HR.r2
        subst ev1
        subst ev2
        have c2 : W4.cell? ⟨g2, 2, none⟩ = some v := ucell hPL.out.ou 2
        clear hdef hSL HR
        by_cases hk : kind = 1
        · have hkb : (kind == 1) = true := by rw [hk]; rfl
          obtain ⟨s, eL⟩ := spots_ne hk hIS
          subst eL
          obtain ⟨ad, eA, hcl⟩ := hx2 (by simp)
          subst eA
          have hz := hPL.out.sz
          obtain ⟨v', V', hrun, p1, p2, p3⟩ := own_push_c oneU32 53 W4 w0.heap.size v cs hPL.out.ow (by omega) (by omega) ad k2 (.int .u32 ((spX x W [s] 0 : Nat) : Int)) (by have := hcl 0 (by simp); rwa [show ad.add 0 = ad by unfold Addr.add; split <;> simp_all] at this) rfl
          have HP2 := Lib.hid (hPL.out.push p1 p2 p3)
          have c2' : V'.cell? ⟨g2, 2, none⟩ = some v := (World.cell?_of_block (a := ⟨g2, 2, none⟩) (p2.block g2 hz.2.2.1 (fun e => hPL.out.na.2.1 e.symm))).trans c2
          have f2' : V'.frozen? ⟨g2, 2, none⟩ = false := (wfree_same (p2.block g2 hz.2.2.1 (fun e => hPL.out.na.2.1 e.symm)) 2).trans (ufree hPL.out.ou 2)
          obtain ⟨A3, n3, k3, ev3⟩ := p1.sl
          subst ev3
          have HPN : Hid (PxRow kind border t W H x w (cs ++ [.int .u32 ((spX x W [s] 0 : Nat) : Int)])) := (show PxRow _ _ _ _ _ _ _ _ from HPX.out.next ⟨_, by rw [hlen, ← EMD.out.1, ← EMD.out.2]; exact hIS, by unfold pxOf; rw [if_pos hk]⟩)
          clear hPL hN hD hIS p1 p2 p3 hcl hx2 hz1 hz
          gi_wp2_with (gi_at_builtin; refine wpListIn_append_run' _ rfl _ _ 53 53 rfl _ _ rfl rfl _ V' hrun ?_)
          exact ⟨⟨i + 1, D :: Ds, _, _, ⟨by simp [hlen], by omega, HP2, HPN⟩, rfl, rfl, by first | rfl | (rw [hk]; rfl), rfl, rfl, rfl, rfl, rfl, rfl, rfl, rfl, rfl⟩, by show (w * h).toNat - ((i : Int) + 1).toNat < (w * h).toNat - ((i : Int)).toNat; omega⟩
        · have hkb : (kind == 1) = false := by rw [beq_eq_false_iff_ne]; exact hk
          obtain ⟨hxb2, hgb⟩ := spots_dot HRT.out HNP.out HXB.out hIS
          have hL4 := hIS.len
          have HDT := Lib.hid (callsIn_wide (n := 9 - 1).2 (pDot_calls W4 A1 A2 L.length k1 k2 (spN L) (spX x W L) hz1 hx2 hk1 hk2 (by omega) hxb2 hgb (HOKH.out i L hlt hk (by rw [← EMD.out.1, ← EMD.out.2]; exact hIS))))
          have HPN : Hid (PxRow kind border t W H x w (cs ++ [.int .u32 ((dotOf (spN L) (spX x W L) L.length : Nat) : Int)])) := (show PxRow _ _ _ _ _ _ _ _ from HPX.out.next ⟨_, by rw [hlen, ← EMD.out.1, ← EMD.out.2]; exact hIS, by unfold pxOf; rw [if_neg hk]⟩)
          obtain ⟨dt, edt⟩ : ∃ dt, dt = dotOf (spN L) (spX x W L) L.length := ⟨_, rfl⟩
          rw [← edt] at HDT HPN
          clear hxb2 hgb hz1 hx2 hIS hN hD edt
          gi_wp2_with (first
            | ((refine ⟨trivial, ?_⟩); gi_at_call 73; (with_reducible refine HDT.out.mono ?_); rintro e1 w5 ⟨rfl, hb5⟩; have hP5 := Lib.hid ((hPL.out.below hb5).below ((Below.refl w5.heap.size w5).alloc (Nat.le_refl _) (.cells #[.int .u32 ((dt : Nat) : Int)] 65))); obtain ⟨v', V', hrun, p1, p2, p3⟩ := own_push_c oneU32 53 _ w0.heap.size v cs hP5.out.ow (by have := hP5.out.sz; omega) (by omega) ⟨w5.heap.size, 0, none⟩ 1 (.int .u32 ((dt : Nat) : Int)) (ucell (heap_alloc_new w5 _) 0) rfl; have HP2 := Lib.hid (hP5.out.push p1 p2 p3); have hg2 := (hPL.out.below hb5).ou; have d2 : w5.cell? ⟨g2, 2, none⟩ = some v := ucell hg2 2; have hb6 := p2.block g2 hP5.out.sz.2.2.1 (fun e => hP5.out.na.2.1 e.symm); have c2' : V'.cell? ⟨g2, 2, none⟩ = some v := ucell (hb6.trans hP5.out.ou) 2; have f2' : V'.frozen? ⟨g2, 2, none⟩ = false := ufree (hb6.trans hP5.out.ou) 2; obtain ⟨A3, n3, k3, ev3⟩ := p1.sl; subst ev3; clear hb5 p1 p2 p3 hg2 hb6 hP5 c2 c3 c4)
            | (gi_at_builtin; refine wpListIn_append_run' _ rfl _ _ 53 53 rfl _ _ rfl rfl _ V' hrun ?_))
          exact ⟨⟨i + 1, D :: Ds, _, _, ⟨by simp [hlen], by omega, HP2, HPN⟩, rfl, rfl, by first | rfl | (rw [hk]; rfl), rfl, rfl, rfl, rfl, rfl, rfl, rfl, rfl, rfl⟩, by show (w * h).toNat - ((i : Int) + 1).toNat < (w * h).toNat - ((i : Int)).toNat; omega⟩
      case ab =>
        apply Exists.intro
        apply And.intro
        · intro l s W1 K hK
          dsimp only [encS, sptC]
          gi_wp2
          exact hK
        · rintro l B pre s W1 W2 ⟨v1', v2', HI1⟩ ⟨L, hL, hpre⟩ hlen hbig hsz2 hsame hos htp hou ⟨v1, v2, HI⟩
          obtain ⟨hX, hY, hNs⟩ := spots_in HRT.out hL s (hpre.subset (by simp))
          obtain ⟨i1, i2, i3, i4, i5⟩ := idx_in HRT.out.sz HNP.out hX hY
          obtain ⟨ad, eA, hcells⟩ := HRW.out (by omega)
          subst eA
          obtain ⟨g5, eg5⟩ : ∃ g5, g5 = W1.heap.size := ⟨_, rfl⟩
          have hN := HN.out
          have l3 := hN.l3
          have l4 := hN.l4
          have hs1 : ∀ k, k < W1.heap.size → k ≠ w3.heap.size + 1 → W2.heap[k]? = W1.heap[k]? := fun k hk hne => (hsame k hne).trans (Below.heap_alloc W1 _ k hk)
          have e1 : v1 = v1' := by
            have := HI.c3
            rw [wcell_same (hs1 g3 (by have := HI1.sz; omega) (by omega)) HI1.c3] at this
            injection this with this
            exact this.symm
          have e2 : v2 = v2' := by
            have := HI.c4
            rw [wcell_same (hs1 (g3 + 1) (by have := HI1.sz; omega) (by omega)) HI1.c4] at this
            injection this with this
            exact this.symm
          subst e1
          subst e2
          have hbox : W2.heap[g5]? = some (.cells #[.int .i64 s.X, .int .i64 s.Y, .int .i64 s.N] 51) := by
            rw [eg5]
            exact (hsame _ (by omega)).trans (heap_alloc_new W1 _)
          have hpl := HI.pl.pb.k0
          have hn0 := hN.a.1
          have hadl := World.block_lt_of_cell? _ _ (hcells _ i5)
          have hadb : (ad.add (s.Y * W + s.X).toNat).block = ad.block := by unfold Addr.add; split <;> rfl
          have HRD : Hid (SpRd w0.heap.size g3 (g3 + 1) g5 v1 v2 s.X s.Y s.N W (.slice (some ad) np cp) (ad.add (s.Y * W + s.X).toNat) (.int .u32 ((x (s.Y * W + s.X).toNat : Nat) : Int)) W2) := (show SpRd _ _ _ _ _ _ _ _ _ _ _ _ _ _ from
            ⟨HI.c3, HI.c4, ucell hbox 0, ucell hbox 1, ucell hbox 2, ucell hpl 0, ucell hpl 2, (HI.pl.bl.cell (by rw [hadb]; rw [hadb] at hadl; exact hadl)).trans (hcells _ i5), HI.f3, HI.f4⟩)
          have HNE : Hid (∀ k, k = g3 ∨ k = g3 + 1 ∨ k = g5 ∨ k = w0.heap.size ∨ k = (ad.add (s.Y * W + s.X).toNat).block → v1.ownBlock ≠ some k ∧ v2.ownBlock ≠ some k) := (show ∀ k, _ → _ from fun k hk => by
            rw [hadb] at hk hadl
            exact ⟨fun e => by have := HI.r1.lt k e; have := HI1.r1.lt k e; omega, fun e => by have := HI.r2.lt k e; have := HI1.r2.lt k e; omega⟩)
          have HT := Lib.hid (TwoR.start HI.r1 HI.r2 HI.ne HI.sz)
          have HRT2 : Hid (∀ (x1 x2 : Value) (cs1 cs2 : List Value) (V : World), TwoR w3.heap.size W2 v1 v2 x1 cs1 x2 cs2 V → SpRd w0.heap.size g3 (g3 + 1) g5 v1 v2 s.X s.Y s.N W (.slice (some ad) np cp) (ad.add (s.Y * W + s.X).toNat) (.int .u32 ((x (s.Y * W + s.X).toNat : Nat) : Int)) V) := (show ∀ (x1 x2 : Value) (cs1 cs2 : List Value) (V : World), _ → _ from fun _ _ _ _ _ h => HRD.out.two HNE.out h)
          have HIH := Lib.hid HI
          have hl4 : pre.length ≤ 1000000000 := by omega
          gi_wp2
          rw [← eg5]
          clear hsame hs1 hbox hpl hcells hos htp hou HI HI1 hL hpre hsz2 hbig eg5
          refine wpIn_region_wide (SpRd w0.heap.size g3 (g3 + 1) g5 v1 v2 s.X s.Y s.N W (.slice (some ad) np cp) (ad.add (s.Y * W + s.X).toNat) (.int .u32 ((x (s.Y * W + s.X).toNat : Nat) : Int))) [20, 21] l (by kernel_rfl) (by kernel_rfl) ?_ ?_
          · rintro ⟨_, _, hQ⟩
            exact hQ
          · generalize W2.drew = V0 at HT ⊢
            have hS := HRT2.out _ _ _ _ _ HT.out
            refine wpAnyK_take [4, 19, 20, 21] (i := 0) (v := ?_) rfl (by kernel_rfl) (by kernel_rfl) (by kernel_rfl) (by kernel_rfl) (fun _ _ _ h => h) (Or.inl ⟨by rfl, ?_⟩) hS ?_
            rotate_left
            · intro W' hSw; obtain ⟨s3, s4, s50, s51, s52, s60, s62, sp, -, -⟩ := hSw; go_simp; try (with_reducible rfl)
            simp only [Act.put, List.setIfInBounds_toArray, List.set_cons_zero, List.set_cons_succ]
            refine wpAnyK_take [2, 3, 4, 19, 20, 21] (i := 1) (v := ?_) rfl (by kernel_rfl) (by kernel_rfl) (by kernel_rfl) (by kernel_rfl) (fun _ _ _ h => h) (Or.inl ⟨by rfl, ?_⟩) hS ?_
            rotate_left
            · intro W' hSw; obtain ⟨s3, s4, s50, s51, s52, s60, s62, sp, -, -⟩ := hSw; go_simp; try (with_reducible rfl)
            simp only [Act.put, List.setIfInBounds_toArray, List.set_cons_zero, List.set_cons_succ]
            refine wpAnyK_take [3, 4, 19, 20, 21] (i := 2) (v := ?_) rfl (by kernel_rfl) (by kernel_rfl) (by kernel_rfl) (by kernel_rfl) (fun _ _ _ h => h) (Or.inl ⟨by rfl, ?_⟩) hS ?_
            rotate_left
            · intro W' hSw; obtain ⟨s3, s4, s50, s51, s52, s60, s62, sp, -, -⟩ := hSw; go_simp; try (with_reducible rfl)
            simp only [Act.put, List.setIfInBounds_toArray, List.set_cons_zero, List.set_cons_succ]
            refine wpAnyK_take [19, 20, 21] (i := 5) (v := ?_) rfl (by kernel_rfl) (by kernel_rfl) (by kernel_rfl) (by kernel_rfl) (fun _ _ _ h => h) (Or.inl ⟨by rfl, ?_⟩) hS ?_
            rotate_left
            · intro W' hSw; obtain ⟨s3, s4, s50, s51, s52, s60, s62, sp, -, -⟩ := hSw; go_simp; try (with_reducible rfl)
            simp only [Act.put, List.setIfInBounds_toArray, List.set_cons_zero, List.set_cons_succ]
            refine wpAnyK_take [7, 16, 17, 18, 19, 20, 21] (i := 6) (v := ?_) rfl (by kernel_rfl) (by kernel_rfl) (by kernel_rfl) (by kernel_rfl) (fun _ _ _ h => h) (Or.inl ⟨by rfl, ?_⟩) hS ?_
            rotate_left
            · intro W' hSw; obtain ⟨s3, s4, s50, s51, s52, s60, s62, sp, -, -⟩ := hSw; go_simp; try (with_reducible rfl)
            simp only [Act.put, List.setIfInBounds_toArray, List.set_cons_zero, List.set_cons_succ]
            refine wpAnyK_take [16, 17, 18, 19, 20, 21] (i := 7) (v := ?_) rfl (by kernel_rfl) (by kernel_rfl) (by kernel_rfl) (by kernel_rfl) (fun _ _ _ h => h) (Or.inl ⟨by rfl, ?_⟩) hS ?_
            rotate_left
            · intro W' hSw; obtain ⟨s3, s4, s50, s51, s52, s60, s62, sp, -, -⟩ := hSw; go_simp; try (with_reducible rfl)
            simp only [Act.put, List.setIfInBounds_toArray, List.set_cons_zero, List.set_cons_succ]
            refine wpAnyK_take [9, 12, 15, 16, 17, 18, 19, 20, 21] (i := 8) (v := ?_) rfl (by kernel_rfl) (by kernel_rfl) (by kernel_rfl) (by kernel_rfl) (fun _ _ _ h => h) (Or.inl ⟨by rfl, ?_⟩) hS ?_
            rotate_left
            · intro W' hSw; obtain ⟨s3, s4, s50, s51, s52, s60, s62, sp, -, -⟩ := hSw; go_simp; try (with_reducible rfl)
            simp only [Act.put, List.setIfInBounds_toArray, List.set_cons_zero, List.set_cons_succ]
            refine wpAnyK_take [12, 15, 16, 17, 18, 19, 20, 21] (i := 9) (v := ?_) rfl (by kernel_rfl) (by kernel_rfl) (by kernel_rfl) (by kernel_rfl) (fun _ _ _ h => h) (Or.inl ⟨by rfl, ?_⟩) hS ?_
            rotate_left
            · intro W' hSw; obtain ⟨s3, s4, s50, s51, s52, s60, s62, sp, -, -⟩ := hSw; go_simp; try (with_reducible rfl)
            simp only [Act.put, List.setIfInBounds_toArray, List.set_cons_zero, List.set_cons_succ]
            refine wpAnyK_take [11, 12, 15, 16, 17, 18, 19, 20, 21] (i := 10) (v := ?_) rfl (by kernel_rfl) (by kernel_rfl) (by kernel_rfl) (by kernel_rfl) (fun _ _ _ h => h) (Or.inl ⟨by rfl, ?_⟩) hS ?_
            rotate_left
            · intro W' hSw; obtain ⟨s3, s4, s50, s51, s52, s60, s62, sp, -, -⟩ := hSw; go_simp; try (with_reducible rfl)
            simp only [Act.put, List.setIfInBounds_toArray, List.set_cons_zero, List.set_cons_succ]
            refine wpAnyK_take [12, 15, 16, 17, 18, 19, 20, 21] (i := 11) (v := ?_) rfl (by kernel_rfl) (by kernel_rfl) (by kernel_rfl) (by kernel_rfl) (fun _ _ _ h => h) (Or.inl ⟨by rfl, ?_⟩) hS ?_
            rotate_left
            · intro W' hSw; obtain ⟨s3, s4, s50, s51, s52, s60, s62, sp, -, -⟩ := hSw; go_simp; try (with_reducible rfl)
            simp only [Act.put, List.setIfInBounds_toArray, List.set_cons_zero, List.set_cons_succ]
            refine wpAnyK_take [15, 16, 17, 18, 19, 20, 21] (i := 12) (v := ?_) rfl (by kernel_rfl) (by kernel_rfl) (by kernel_rfl) (by kernel_rfl) (fun _ _ _ h => h) (Or.inl ⟨by rfl, ?_⟩) hS ?_
            rotate_left
            · intro W' hSw; obtain ⟨s3, s4, s50, s51, s52, s60, s62, sp, -, -⟩ := hSw; go_simp; try (with_reducible rfl)
            simp only [Act.put, List.setIfInBounds_toArray, List.set_cons_zero, List.set_cons_succ]
            refine wpAnyK_take [14, 15, 16, 17, 18, 19, 20, 21] (i := 13) (v := ?_) rfl (by kernel_rfl) (by kernel_rfl) (by kernel_rfl) (by kernel_rfl) (fun _ _ _ h => h) (Or.inl ⟨by rfl, ?_⟩) hS ?_
            rotate_left
            · intro W' hSw; obtain ⟨s3, s4, s50, s51, s52, s60, s62, sp, -, -⟩ := hSw; go_simp; try (with_reducible rfl)
            simp only [Act.put, List.setIfInBounds_toArray, List.set_cons_zero, List.set_cons_succ]
            refine wpAnyK_take [15, 16, 17, 18, 19, 20, 21] (i := 14) (v := ?_) rfl (by kernel_rfl) (by kernel_rfl) (by kernel_rfl) (by kernel_rfl) (fun _ _ _ h => h) (Or.inl ⟨by rfl, ?_⟩) hS ?_
            rotate_left
            · intro W' hSw; obtain ⟨s3, s4, s50, s51, s52, s60, s62, sp, -, -⟩ := hSw; go_simp; try (with_reducible rfl)
            simp only [Act.put, List.setIfInBounds_toArray, List.set_cons_zero, List.set_cons_succ]
            refine wpAnyK_take [16, 17, 18, 19, 20, 21] (i := 15) (v := ?_) rfl (by kernel_rfl) (by kernel_rfl) (by kernel_rfl) (by kernel_rfl) (fun _ _ _ h => h) (Or.inl ⟨by rfl, ?_⟩) hS ?_
            rotate_left
            · intro W' hSw; obtain ⟨s3, s4, s50, s51, s52, s60, s62, sp, -, -⟩ := hSw; go_simp; try (with_reducible rfl)
            simp only [Act.put, List.setIfInBounds_toArray, List.set_cons_zero, List.set_cons_succ]
            refine wpAnyK_take [17, 18, 19, 20, 21] (i := 16) (v := ?_) rfl (by kernel_rfl) (by kernel_rfl) (by kernel_rfl) (by kernel_rfl) (fun _ _ _ h => h) (Or.inl ⟨by rfl, ?_⟩) hS ?_
            rotate_left
            · intro W' hSw; obtain ⟨s3, s4, s50, s51, s52, s60, s62, sp, -, -⟩ := hSw; go_simp; try (with_reducible rfl)
            simp only [Act.put, List.setIfInBounds_toArray, List.set_cons_zero, List.set_cons_succ]
            refine wpAnyK_take [18, 19, 20, 21] (i := 17) (v := ?_) rfl (by kernel_rfl) (by kernel_rfl) (by kernel_rfl) (by kernel_rfl) (fun _ _ _ h => h) (Or.inl ⟨by rfl, ?_⟩) hS ?_
            rotate_left
            · intro W' hSw; obtain ⟨s3, s4, s50, s51, s52, s60, s62, sp, -, -⟩ := hSw; go_simp; try (with_reducible rfl)
            simp only [Act.put, List.setIfInBounds_toArray, List.set_cons_zero, List.set_cons_succ]
            refine wpAnyK_ready (rs := [3, 18]) (by kernel_rfl) (by simp) (ReadyK.cons rfl (fun K hK => ?_) (ReadyK.cons rfl (fun K hK => ?_) ReadyK.nil))
            · skip
              rw [if_pos (by rfl)]
              go_simp
              have T1 := Lib.hid (HT.out.alloc (.cells #[.int .i64 s.N] 3))
              have q1 := heap_alloc_new V0 (.cells #[.int .i64 s.N] 3)
              refine hK.out _ _ (fun _ => HRT2.out _ _ _ _ _ T1.out) ?_
              clear hK K
              refine wpAnyK_ready (rs := [4, 18]) (by kernel_rfl) (by simp) (ReadyK.cons rfl (fun K hK => ?_) (ReadyK.cons rfl (fun K hK => ?_) ReadyK.nil))
              · skip
                rw [if_pos (by rfl)]
                obtain ⟨x1, V1, hrun, T20, hk1⟩ := T1.out.push1 93 (by simpa using hl4) _ _ q1
                have T2 := Lib.hid T20
                clear T20
                obtain ⟨A1, n1, cp1, ex1⟩ := T2.out.sl1
                subst ex1
                refine Go.Lib.wp_append_run _ _ _ 93 93 rfl _ _ rfl rfl _ V1 hrun ?_
                simp only [Act.put, List.setIfInBounds_toArray, List.set_cons_zero, List.set_cons_succ]
                refine hK.out _ _ (fun _ => HRT2.out _ _ _ _ _ T2.out) ?_
                clear hK K hrun
                refine wpAnyK_ready (rs := [18]) (by kernel_rfl) (by simp) (ReadyK.cons rfl (fun K hK => ?_) ReadyK.nil)
                rw [if_pos (by rfl)]
                go_simp
                have T4 := Lib.hid (T2.out.alloc (.cells #[.int .u32 ((x (s.Y * W + s.X).toNat : Nat) : Int)] 65))
                have q2 := heap_alloc_new V1 (.cells #[.int .u32 ((x (s.Y * W + s.X).toNat : Nat) : Int)] 65)
                refine hK.out _ _ (fun _ => HRT2.out _ _ _ _ _ T4.out) ?_
                clear hK K
                refine wpAnyK_ready (rs := [19]) (by kernel_rfl) (by simp) (ReadyK.cons rfl (fun K hK => ?_) ReadyK.nil)
                rw [if_pos (by rfl)]
                obtain ⟨x2, V3, hrun, T30, hk3⟩ := T4.out.push2 53 (by simpa using hl4) _ _ q2
                have T3 := Lib.hid T30
                clear T30
                obtain ⟨A2, n2, cp2, ex2⟩ := T3.out.sl2
                subst ex2
                refine Go.Lib.wp_append_run _ _ _ 53 53 rfl _ _ rfl rfl _ V3 hrun ?_
                simp only [Act.put, List.setIfInBounds_toArray, List.set_cons_zero, List.set_cons_succ]
                refine hK.out _ _ (fun _ => HRT2.out _ _ _ _ _ T3.out) ?_
                clear hK K hrun
                have hS3 := HRT2.out _ _ _ _ _ T3.out
                have c3 := hS3.s3
                have f3 := hS3.f3
                have c4 := hS3.s4
                have f4 := hS3.f4
                clear hS3 hk3
                refine wpAnyK_ready (rs := [20]) (by kernel_rfl) (by simp) (ReadyK.cons rfl (fun K hK => ?_) ReadyK.nil)
                rw [if_pos (by rfl)]
                go_simp
                refine hK.out _ _ (fun h => absurd h (by decide)) ?_
                clear hK K
                refine wpAnyK_ready (rs := [21]) (by kernel_rfl) (by simp) (ReadyK.cons rfl (fun K hK => ?_) ReadyK.nil)
                rw [if_pos (by rfl)]
                go_simp
                refine hK.out _ _ (fun h => absurd h (by decide)) ?_
                clear hK K
                refine wpAnyK_done (by kernel_rfl) ?_ _
                exact plR_next HN.out s HIH.out T3.out (fun k => k = b ∨ k = b + 1 ∨ k = b + 2) (fun k hk => by omega)
              · skip
                rw [if_pos (by rfl)]
                go_simp
                have T2 := Lib.hid (T1.out.alloc (.cells #[.int .u32 ((x (s.Y * W + s.X).toNat : Nat) : Int)] 65))
                have q2 := heap_alloc_new (V0.alloc (.cells #[.int .i64 s.N] 3)) (.cells #[.int .u32 ((x (s.Y * W + s.X).toNat : Nat) : Int)] 65)
                rw [World.size_alloc] at q2
                have q1' := (Below.heap_alloc (V0.alloc (.cells #[.int .i64 s.N] 3)) (.cells #[.int .u32 ((x (s.Y * W + s.X).toNat : Nat) : Int)] 65) _ (Array.getElem?_eq_some_iff.1 q1).1).trans q1
                refine hK.out _ _ (fun _ => HRT2.out _ _ _ _ _ T2.out) ?_
                clear hK K
                refine wpAnyK_ready (rs := [4]) (by kernel_rfl) (by simp) (ReadyK.cons rfl (fun K hK => ?_) ReadyK.nil)
                have q3 : ∀ j, v1.ownBlock = some j → j < V0.heap.size := fun j hj => (HT.out.a.lt j hj).2
                have q4 := (Array.getElem?_eq_some_iff.1 q2).1
                rw [if_pos (by rfl)]
                obtain ⟨x1, V1, hrun, T40, hk1⟩ := T2.out.push1 93 (by simpa using hl4) _ _ q1'
                have T4 := Lib.hid T40
                clear T40
                obtain ⟨A1, n1, cp1, ex1⟩ := T4.out.sl1
                subst ex1
                refine Go.Lib.wp_append_run _ _ _ 93 93 rfl _ _ rfl rfl _ V1 hrun ?_
                simp only [Act.put, List.setIfInBounds_toArray, List.set_cons_zero, List.set_cons_succ]
                refine hK.out _ _ (fun _ => HRT2.out _ _ _ _ _ T4.out) ?_
                clear hK K hrun
                replace q2 := (hk1 _ q4 (fun e => by have := q3 _ e; omega)).trans q2
                refine wpAnyK_ready (rs := [19]) (by kernel_rfl) (by simp) (ReadyK.cons rfl (fun K hK => ?_) ReadyK.nil)
                rw [if_pos (by rfl)]
                obtain ⟨x2, V3, hrun, T30, hk3⟩ := T4.out.push2 53 (by simpa using hl4) _ _ q2
                have T3 := Lib.hid T30
                clear T30
                obtain ⟨A2, n2, cp2, ex2⟩ := T3.out.sl2
                subst ex2
                refine Go.Lib.wp_append_run _ _ _ 53 53 rfl _ _ rfl rfl _ V3 hrun ?_
                simp only [Act.put, List.setIfInBounds_toArray, List.set_cons_zero, List.set_cons_succ]
                refine hK.out _ _ (fun _ => HRT2.out _ _ _ _ _ T3.out) ?_
                clear hK K hrun
                have hS3 := HRT2.out _ _ _ _ _ T3.out
                have c3 := hS3.s3
                have f3 := hS3.f3
                have c4 := hS3.s4
                have f4 := hS3.f4
                clear hS3 hk3
                refine wpAnyK_ready (rs := [20]) (by kernel_rfl) (by simp) (ReadyK.cons rfl (fun K hK => ?_) ReadyK.nil)
                rw [if_pos (by rfl)]
                go_simp
                refine hK.out _ _ (fun h => absurd h (by decide)) ?_
                clear hK K
                refine wpAnyK_ready (rs := [21]) (by kernel_rfl) (by simp) (ReadyK.cons rfl (fun K hK => ?_) ReadyK.nil)
                rw [if_pos (by rfl)]
                go_simp
                refine hK.out _ _ (fun h => absurd h (by decide)) ?_
                clear hK K
                refine wpAnyK_done (by kernel_rfl) ?_ _
                exact plR_next HN.out s HIH.out T3.out (fun k => k = b ∨ k = b + 1 ∨ k = b + 2) (fun k hk => by omega)
            · skip
              rw [if_pos (by rfl)]
              go_simp
              have T1 := Lib.hid (HT.out.alloc (.cells #[.int .u32 ((x (s.Y * W + s.X).toNat : Nat) : Int)] 65))
              have q1 := heap_alloc_new V0 (.cells #[.int .u32 ((x (s.Y * W + s.X).toNat : Nat) : Int)] 65)
              refine hK.out _ _ (fun _ => HRT2.out _ _ _ _ _ T1.out) ?_
              clear hK K
              refine wpAnyK_ready (rs := [3]) (by kernel_rfl) (by simp) (ReadyK.cons rfl (fun K hK => ?_) ReadyK.nil)
              rw [if_pos (by rfl)]
              go_simp
              have T2 := Lib.hid (T1.out.alloc (.cells #[.int .i64 s.N] 3))
              have q2 := heap_alloc_new (V0.alloc (.cells #[.int .u32 ((x (s.Y * W + s.X).toNat : Nat) : Int)] 65)) (.cells #[.int .i64 s.N] 3)
              rw [World.size_alloc] at q2
              have q1' := (Below.heap_alloc (V0.alloc (.cells #[.int .u32 ((x (s.Y * W + s.X).toNat : Nat) : Int)] 65)) (.cells #[.int .i64 s.N] 3) _ (Array.getElem?_eq_some_iff.1 q1).1).trans q1
              refine hK.out _ _ (fun _ => HRT2.out _ _ _ _ _ T2.out) ?_
              clear hK K
              refine wpAnyK_ready (rs := [4]) (by kernel_rfl) (by simp) (ReadyK.cons rfl (fun K hK => ?_) ReadyK.nil)
              have q3 : ∀ j, v1.ownBlock = some j → j < V0.heap.size := fun j hj => (HT.out.a.lt j hj).2
              have q4 := (Array.getElem?_eq_some_iff.1 q1').1
              rw [if_pos (by rfl)]
              obtain ⟨x1, V1, hrun, T40, hk1⟩ := T2.out.push1 93 (by simpa using hl4) _ _ q2
              have T4 := Lib.hid T40
              clear T40
              obtain ⟨A1, n1, cp1, ex1⟩ := T4.out.sl1
              subst ex1
              refine Go.Lib.wp_append_run _ _ _ 93 93 rfl _ _ rfl rfl _ V1 hrun ?_
              simp only [Act.put, List.setIfInBounds_toArray, List.set_cons_zero, List.set_cons_succ]
              refine hK.out _ _ (fun _ => HRT2.out _ _ _ _ _ T4.out) ?_
              clear hK K hrun
              replace q1 := (hk1 _ q4 (fun e => by have := q3 _ e; omega)).trans q1'
              refine wpAnyK_ready (rs := [19]) (by kernel_rfl) (by simp) (ReadyK.cons rfl (fun K hK => ?_) ReadyK.nil)
              rw [if_pos (by rfl)]
              obtain ⟨x2, V3, hrun, T30, hk3⟩ := T4.out.push2 53 (by simpa using hl4) _ _ q1
              have T3 := Lib.hid T30
              clear T30
              obtain ⟨A2, n2, cp2, ex2⟩ := T3.out.sl2
              subst ex2
              refine Go.Lib.wp_append_run _ _ _ 53 53 rfl _ _ rfl rfl _ V3 hrun ?_
              simp only [Act.put, List.setIfInBounds_toArray, List.set_cons_zero, List.set_cons_succ]
              refine hK.out _ _ (fun _ => HRT2.out _ _ _ _ _ T3.out) ?_
              clear hK K hrun
              have hS3 := HRT2.out _ _ _ _ _ T3.out
              have c3 := hS3.s3
              have f3 := hS3.f3
              have c4 := hS3.s4
              have f4 := hS3.f4
              clear hS3 hk3
              refine wpAnyK_ready (rs := [20]) (by kernel_rfl) (by simp) (ReadyK.cons rfl (fun K hK => ?_) ReadyK.nil)
              rw [if_pos (by rfl)]
              go_simp
              refine hK.out _ _ (fun h => absurd h (by decide)) ?_
              clear hK K
              refine wpAnyK_ready (rs := [21]) (by kernel_rfl) (by simp) (ReadyK.cons rfl (fun K hK => ?_) ReadyK.nil)
              rw [if_pos (by rfl)]
              go_simp
              refine hK.out _ _ (fun h => absurd h (by decide)) ?_
              clear hK K
              refine wpAnyK_done (by kernel_rfl) ?_ _
              exact plR_next HN.out s HIH.out T3.out (fun k => k = b ∨ k = b + 1 ∨ k = b + 2) (fun k hk => by omega)
    · have e : (i : Int) = w * h := by omega
      have q2 : V.heap[w0.heap.size + 1 + 1]? = some (.cells (plC 0 0 none 0 0) 55) := HL.out.pb.k2
      have qo := HL.out.ou
      have d0 : V.cell? ⟨g2, 0, none⟩ = some (.int .i64 w) := ucell qo 0
      have d1 : V.cell? ⟨g2, 1, none⟩ = some (.int .i64 h) := ucell qo 1
      have d2 : V.cell? ⟨g2, 2, none⟩ = some v := ucell qo 2
      have e0 : V.cell? ⟨w0.heap.size + 1 + 1, 0, none⟩ = some (.int .i64 0) := ucell q2 0
      have f0 := ufree q2 0
      have q3 := blk_put q2 0 (.int .i64 w) rfl
      have q4 := blk_put q3 1 (.int .i64 h) rfl
      have u1 : (V.setCell ⟨w0.heap.size + 1 + 1, 0, none⟩ (.int .i64 w)).cell? ⟨w0.heap.size + 1 + 1, 1, none⟩ = some (.int .i64 0) := ucell q3 1
      have f1 := ufree q3 1
      have u2 : ((V.setCell ⟨w0.heap.size + 1 + 1, 0, none⟩ (.int .i64 w)).setCell ⟨w0.heap.size + 1 + 1, 1, none⟩ (.int .i64 h)).cell? ⟨w0.heap.size + 1 + 1, 2, none⟩ = some (.slice none 0 0) := ucell q4 2
      have f2 := ufree q4 2
      obtain ⟨A3, n3, k3, ev3⟩ := HL.out.ow.sl
      subst ev3
      clear q2 qo q3 q4
      gi_wp2
      obtain ⟨V3, eV3⟩ : ∃ V3, V3 = ((V.setCell ⟨w0.heap.size + 1 + 1, 0, none⟩ (.int .i64 w)).setCell ⟨w0.heap.size + 1 + 1, 1, none⟩ (.int .i64 h)).setCell ⟨w0.heap.size + 1 + 1, 2, none⟩ (.slice A3 n3 k3) := ⟨_, rfl⟩
      have q5 : V3.heap[w0.heap.size + 1 + 1]? = some (.cells #[.int .i64 w, .int .i64 h, .slice A3 n3 k3] 55) := by
        rw [eV3]
        exact blk_put (blk_put (blk_put HL.out.pb.k2 0 (.int .i64 w) rfl) 1 (.int .i64 h) rfl) 2 (.slice A3 n3 k3) rfl
      have st : ∀ k, k ≠ w0.heap.size + 1 + 1 → V3.heap[k]? = V.heap[k]? := fun k hk => by
        rw [eV3]
        exact (Below.heap_setCell _ _ _ _ hk).trans ((Below.heap_setCell _ _ _ _ hk).trans (Below.heap_setCell _ _ _ _ hk))
      have bl : Below w0.heap.size w0 V3 := by
        rw [eV3]
        exact ((HL.out.bl.setCell (by show _ ≤ w0.heap.size + 1 + 1; omega) _).setCell (by show _ ≤ w0.heap.size + 1 + 1; omega) _).setCell (by show _ ≤ w0.heap.size + 1 + 1; omega) _
      have ow : OwnC V3 w0.heap.size 65 (.slice A3 n3 k3) cs := HL.out.ow.same fun k hk => st k (by have := HL.out.na.2.2 k hk; omega)
      have ms : Marks w0.heap.size Ds V3 := HL.out.ms.same fun k hk => st k (fun ek => by
        have m2 := (HL.out.ms.mem k hk).2
        rw [ek, HL.out.pb.k2] at m2
        injection m2 with m2
        cases m2)
      rw [← eV3]
      refine leaves_marks (N := w0.heap.size) Ds V3 bl.size ms (fun W' hW' => ?_)
      have q6 := hW'.ce _ _ q5 rfl
      refine ⟨_, ret_plane rfl _ W' (w0.heap.size + 1 + 1) _ rfl q6 rfl, _, cs, rfl, ow.same (fun k hk => ?_), by omega, HPX.out, ?_⟩
      · obtain ⟨cu, hcu⟩ := ow.obj k hk
        exact (hW'.ce _ _ hcu rfl).trans hcu.symm
      · exact bl.trans hW'.be
end Go.Proofs.Ytdcpeeolfgohmaa
