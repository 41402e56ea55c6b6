/- halidelaw3.SumsAcc: the walk. -/
import Derived.Test.YtmeifciagepmpaaScA
import Derived.StillTailTactics
import Derived.BigQuiet
import Derived.Deep.CutBlock
namespace Go.Proofs.Ytmeifciagepmpaa
open Go.RowKit Go.Proofs.YtmeifciagepmpaaW.PrintWords
set_option linter.unusedSimpArgs false
set_option linter.unusedVariables false

set_option maxRecDepth 100000 in
theorem wpStill_slice3 {ops : Array Oper} {rest : List Oper} {o : Oper} {a : Act} {w : World} {Q : Act → Prop} (hgd : o.guard = none) (x h0 m0 : Operand) (ho : o.op = .slice 23 x none (some h0) (some m0))
    (A : Option Addr) (n c : Nat) (hx : a.eval x = .slice A n c) (hm : a.eval h0 = .int .i64 (n : Int)) (hm2 : a.eval m0 = .int .i64 (n : Int)) (hc : n ≤ c) (h : wpStill Try.prog ops w Q rest (a.put o.dst (.slice A n n))) : wpStill Try.prog ops w Q (o :: rest) a := by
  refine wpStill_step fun K hK => ?_
  rw [if_pos (by simp [Region.wanted, hgd])]
  unfold Oper.still execOp
  have e : (if n = 0 then A else A.map (·.add (0 * 1))) = A := by
    by_cases h : n = 0
    · rw [if_pos h]
    · rw [if_neg h, Nat.zero_mul]; cases A <;> simp [u_add0]
  have h2 : (0 : Int) ≤ (n : Int) ∧ (n : Int) ≤ (c : Int) := by omega
  have h3 : (0 : Int) ≤ (n : Int) ∧ (n : Int) ≤ (n : Int) := by omega
  simp only [ho, Option.map_some, Option.map_none, hx, hm, hm2, Instr.sliceAt, Instr.slice, Instr.sliceBounds, Instr.sliceBound, asIntOf, Sem.run_bind, run_underlying Try.underlying23, Sem.run_pure, Result.andThen_ok, if_pos h2, if_pos h3, Int.toNat_natCast, u_size, Nat.sub_zero, e, Oper.stillUpon_value]
  exact hK _ h

theorem loadVar_step {W : World} {ad : Addr} {i : Nat} {v0 v1 v2 v3 : Value} (h0 : W.cell? (ad.add (i * 4)) = some v0) (h1 : W.cell? (ad.add (i * 4 + 1)) = some v1) (h2 : W.cell? (ad.add (i * 4 + 2)) = some v2) (h3 : W.cell? (ad.add (i * 4 + 3)) = some v3) :
    (loadVar 49 (ad.add (i * 4))).run Try.prog W = .ok (.agg #[v0, v1, v2, v3]) W := by
  have hagg : (isAgg 49).run Try.prog W = .ok true W := by
    unfold isAgg
    rw [Sem.run_bind, run_underlying Try.underlying49 W]
    simp
  have hi : (Try.prog.info? 49).map (·.size) = some 4 := by kernel_rfl
  have hl : (loadCellsFrom (ad.add (i * 4)) 0 4 #[]).run Try.prog W = .ok #[v0, v1, v2, v3] W := by
    have := run_loadCells_list (P := Try.prog) W (ad.add (i * 4)) [v0, v1, v2, v3] (fun j v hv => by
      have hj : j < 4 := by
        rcases Nat.lt_or_ge j 4 with h1 | h1
        · exact h1
        · rw [List.getElem?_eq_none (by simpa using h1)] at hv; cases hv
      have hadd : (ad.add (i * 4)).add j = ad.add (i * 4 + j) := by
        by_cases hz : j = 0
        · subst hz; rw [u_add0, Nat.add_zero]
        · rw [sc_fld ad (i * 4) j (by omega)]
          generalize ad.add (i * 4) = ad2
          unfold Addr.add
          rw [if_neg hz]
      rw [hadd]
      rcases (show j = 0 ∨ j = 1 ∨ j = 2 ∨ j = 3 by omega) with rfl | rfl | rfl | rfl
      · simp only [List.getElem?_cons_zero, Option.some.injEq] at hv; rw [← hv]; exact h0
      · simp at hv; rw [← hv]; exact h1
      · simp at hv; rw [← hv]; exact h2
      · simp at hv; rw [← hv]; exact h3)
    simpa [loadCells] using this
  cases hq : Try.prog.info? 49 with
  | none => simp [hq] at hi
  | some i' =>
    have hs : i'.size = 4 := by simpa [hq] using hi
    simp [loadVar, Sem.run_bind, hagg, sizeOf, typeInfo, hq, hs, loadCells, hl]

theorem mk3 (W : World) : (Instr.makeSlice 47 (.int .i64 3) (.int .i64 3)).run Try.prog W = .ok (.slice (some ⟨W.heap.size, 0, none⟩) 3 3) (W.alloc (.cells #[.slice none 0 0, .slice none 0 0, .slice none 0 0] 23)) := by kernel_rfl
theorem new_told {w W : World} (h : Below w.heap.size w W) : Calls Try.prog 30 #[] W fun e w' => NewEnd W e w' := new_calls W

set_option maxHeartbeats 3200000 in
set_option maxRecDepth 100000 in
theorem lawAcc_calls (w : World) (P : Option Addr) (N C : Nat) (at' wh ot : Nat → Int) (B : Nat → Option Addr) (m cc : Nat → Nat) (y : Nat → Nat → Nat) (h : ScrIn w P N at' wh ot B m cc y) (hc : N ≤ C) :
    Calls Try.prog 8 #[.slice P N C] w fun e w' => LawTrue w e w' := by
  have H := Lib.hid h
  have hN := h.mx.1
  clear h
  unfold LawTrue
  by_cases hbig : 2000 < N + msum m N
  · go_enter Try.func8, Try.ntmps8
    go_wp2_with (first
      | (go_at_call 12; refine (known_calls _).mono ?_; rintro e1 w1 ⟨rfl, hbel⟩; have HB1 := Lib.hid hbel; clear hbel)
      | (go_at_call 29; refine (total_calls _ P N C at' wh ot B m cc y (H.out.below HB1.out) hc).mono ?_; rintro e2 w2 ⟨t, rfl, rfl, ht⟩; have hb : (2000 : Int) < (t : Int) := (by omega); clear ht))
    go_ret
    exact ⟨rfl, HB1.out⟩
  · have hmk := mk3
    go_enter Try.func8, Try.ntmps8
    go_wp2_with (first
      | (go_at_call 12; refine (known_calls _).mono ?_; rintro e1 w1 ⟨rfl, hbel⟩; have HB1 := Lib.hid hbel; clear hbel)
      | (go_at_call 29; refine (total_calls _ P N C at' wh ot B m cc y (H.out.below HB1.out) hc).mono ?_; rintro e2 w2 ⟨t, rfl, rfl, ht⟩; have hb : ¬ (2000 : Int) < (t : Int) := (by omega); clear ht)
      | (go_at_call 30; refine (new_told HB3.out).mono ?_; rintro e1 w4 ⟨g2, rfl, hg2, hA2, hbel⟩; have HG2 := Lib.hid hg2; have HA2 := Lib.hid hA2; have HB4 := Lib.hid hbel; clear hbel hg2 hA2)
      | (go_at_call 30; refine (new_told HB2.out).mono ?_; rintro e1 w3 ⟨g1, rfl, hg1, hA1, hbel⟩; have HG1 := Lib.hid hg1; have HA1 := Lib.hid hA1; have HB3 := Lib.hid hbel; clear hbel hg1 hA1)
      | (go_at_call 30; refine (new_told HB1.out).mono ?_; rintro e1 w2 ⟨g0, rfl, hg0, hA0, hbel⟩; have HG0 := Lib.hid hg0; have HA0 := Lib.hid hA0; have HB2 := Lib.hid hbel; clear hbel hg0 hA0))
    have HS0 := Lib.hid (tri_start HB1.out HG0.out HA0.out HB2.out HG1.out HA1.out HB3.out HG2.out HA2.out HB4.out w4.heap.size rfl)
    obtain ⟨ga, ega⟩ : ∃ g, g = w4.heap.size := ⟨_, rfl⟩
    rw [← ega] at HS0 ⊢
    clear ega HA0 HA1 HA2 HG0 HG1 HG2 HB2 HB3 HB4 HB1 hmk
    generalize (w4.alloc (.cells #[.pointer (some ⟨g0, 0, none⟩), .pointer (some ⟨g1, 0, none⟩), .pointer (some ⟨g2, 0, none⟩)] 44)).alloc (.cells #[.slice none 0 0, .slice none 0 0, .slice none 0 0] 23) = wa at HS0 ⊢
    go_loopg [5, 6, 7, 8, 9, 10, 11] N (fun kq v5 v6 v7 v8 v9 v10 v11 wr => ∃ i : Nat, v5 = .int .i64 (i : Int) ∧ i ≤ N ∧ N ≤ i + kq ∧ Aside (ScrS w ga (ga + 1) (msum m i) wr))
    case atStart => exact ⟨0, by first | rfl | go_num, by omega, by omega, HS0.out⟩
    case round =>
      clear HS0
      obtain ⟨i, rfl, hi, hik, HS⟩ := hrel
      by_cases hlt : i < N
      · have hltz : (i : Int) < (N : Int) := by omega
        have hi0 : (0 : Int) ≤ (i : Int) := by omega
        obtain ⟨g, A, n, c, x, hT, hn⟩ := HS.out
        have HW := Lib.hid (H.out.below hT.bel)
        obtain ⟨ad, rfl, hcell⟩ := HW.out.cell (by omega)
        obtain ⟨c1, c2, c3, c4⟩ := hcell i hlt
        obtain ⟨ia, eia⟩ : ∃ v, v = at' i := ⟨_, rfl⟩
        obtain ⟨iw, eiw⟩ : ∃ v, v = wh i := ⟨_, rfl⟩
        obtain ⟨io, eio⟩ : ∃ v, v = ot i := ⟨_, rfl⟩
        obtain ⟨Bi, eBi⟩ : ∃ v, v = B i := ⟨_, rfl⟩
        obtain ⟨mi, emi⟩ : ∃ v, v = m i := ⟨_, rfl⟩
        obtain ⟨ci, eci⟩ : ∃ v, v = cc i := ⟨_, rfl⟩
        obtain ⟨yi, eyi⟩ : ∃ v, v = y i := ⟨_, rfl⟩
        rw [← eia] at c1
        rw [← eiw] at c2
        rw [← eio] at c3
        rw [← eBi, ← emi, ← eci] at c4
        have hl := Lib.hid (loadVar_step c1 c2 c3 c4)
        have hrow := H.out.row i hlt
        have hcap := HW.out.cap i hlt
        have hylt := HW.out.lt i hlt
        have hnum := HW.out.num i hlt
        rw [← eBi, ← emi, ← eyi] at hrow
        rw [← emi, ← eci] at hcap
        rw [← emi, ← eyi] at hylt
        rw [← eia, ← eio] at hnum
        have hsum : msum m (i + 1) = msum m i + mi := by rw [msum, emi]
        have hall := msum_mono m (show i + 1 ≤ N by omega)
        have hMi : msum m i + mi ≤ 2000 := by omega
        have HR := Lib.hid hrow
        have HY := Lib.hid hylt
        have HSUM := Lib.hid hsum
        obtain ⟨M, eM⟩ : ∃ M, M = msum m i := ⟨_, rfl⟩
        rw [← eM] at HSUM hMi hn HS
        have hk := Lib.hid (show ((ia % 3).toNat : Int) = ia % 3 by omega)
        have hj := Lib.hid (show ((io % 3).toNat : Int) = io % 3 by omega)
        have hk3 : (ia % 3).toNat < 3 := by omega
        have hj3 : (io % 3).toNat < 3 := by omega
        obtain ⟨k, ek⟩ : ∃ k, k = (ia % 3).toNat := ⟨_, rfl⟩
        obtain ⟨j, ej⟩ : ∃ k, k = (io % 3).toNat := ⟨_, rfl⟩
        rw [← ek] at hk hk3
        rw [← ej] at hj hj3
        have HPA := Lib.hid fun W => place_calls W ia 3 hnum.1 (by decide) (by decide)
        have HPO := Lib.hid fun W => place_calls W io 3 hnum.2 (by decide) (by decide)
        rw [← hk.out] at HPA
        rw [← hj.out] at HPO
        obtain ⟨S, eS⟩ : ∃ S : Nat → Ac, S = fun k => acAll acNone (x k) (n k) := ⟨_, rfl⟩
        rw [← eS] at hT
        have ES : Hid (∀ k, S k = acAll acNone (x k) (n k)) := (show ∀ k, _ from fun k => by rw [eS])
        have HOK : Hid (∀ k, AcOk (S k)) := (show ∀ k, _ from fun k => by rw [eS]; exact acOk_none.all _ _)
        have HSN : Hid (∀ k, (S k).n = n k) := (show ∀ k, _ from fun k => by rw [eS]; show (acAll acNone (x k) (n k)).n = n k; rw [acAll_n]; exact Nat.zero_add _)
        clear eS
        have HT := Lib.hid hT
        have HN := Lib.hid hn
        clear eia eiw eio eBi emi eci eyi c1 c2 c3 c4 hrow hylt hnum hsum hall eM ek ej hk hj hcell HW hn hT HS
        go_upto_region 11 with (first
          | (refine wpList_load_part rfl 49 _ rfl (ad.add (i * 4)) rfl _ hl.out ?_)
          | (refine wpList_store_row rfl 49 _ _ rfl wr.heap.size #[.int .i64 ia, .int .i64 iw, .int .i64 io, .slice Bi mi ci] rfl rfl 49 _ (heap_alloc_new wr _) (by kernel_rfl) rfl (by kernel_rfl) ?_; rw [World.setRow_alloc_new]))
        have HB1 : Hid (Below wr.heap.size wr (wr.alloc (.cells #[.int .i64 ia, .int .i64 iw, .int .i64 io, .slice Bi mi ci] 49))) := (show Below _ _ _ from (Below.refl _ _).alloc (Nat.le_refl _) _)
        have HS1 : Hid (StpS w (wr.alloc (.cells #[.int .i64 ia, .int .i64 iw, .int .i64 io, .slice Bi mi ci] 49)) ga (ga + 1) g S A n c x wr.heap.size #[.int .i64 ia, .int .i64 iw, .int .i64 io, .slice Bi mi ci]) := (show StpS _ _ _ _ _ _ _ _ _ _ _ _ from ⟨HT.out.below HB1.out, heap_alloc_new wr _, HT.out.bel.size⟩)
        obtain ⟨gs, egs⟩ : ∃ gs, gs = wr.heap.size := ⟨_, rfl⟩
        rw [← egs] at HS1 ⊢
        clear HB1 HT
        generalize wr.alloc (.cells #[.int .i64 ia, .int .i64 iw, .int .i64 io, .slice Bi mi ci] 49) = W1 at HS1 ⊢
        clear egs hl
        have x0 : W1.cell? ⟨gs, 0, none⟩ = some (.int .i64 ia) := ucell HS1.out.sb 0
        have x2 : W1.cell? ⟨gs, 2, none⟩ = some (.int .i64 io) := ucell HS1.out.sb 2
        go_quiet ((first
          | (go_at_call 31; with_reducible exact Calls.quiet_of_same ((HPA.out _).mono fun _ _ h => ⟨h.1, h.2.symm⟩))
          | (go_at_call 31; with_reducible exact Calls.quiet_of_same ((HPO.out _).mono fun _ _ h => ⟨h.1, h.2.symm⟩))))
        have HS2 := Lib.hid (HS1.out.below (pw_below_drewN (Below.refl W1.heap.size W1) nq))
        clear HS1 x0 x2 HPA HPO
        generalize W1.drewN nq = W2 at HS2 ⊢
        have x1 : W2.cell? ⟨gs, 1, none⟩ = some (.int .i64 iw) := ucell HS2.out.sb 1
        go_upto_block 2 with fail
        go_cut [9, 10] from 38 to 157 (fun v9 v10 wc => Aside (ScrS w ga (ga + 1) (M + mi) wc))
        case first =>
          have hnk := HN.out k hk3
          have hnj := HN.out j hj3
          by_cases h0 : iw = 0
          · subst h0
            as_aux_lemma =>
              have x3 : W2.cell? ⟨gs, 3, none⟩ = some (.slice Bi mi ci) := ucell HS2.out.sb 3
              go_upto_region 18 with (first
                | (go_at_call 13; refine (lent_calls _ Bi mi ci yi (HR.out.below HS2.out.tri.bel) hcap (by omega)).mono ?_; rintro e1 W3 ⟨q, rfl, hq, hqb, hbel⟩; have HI3 := Lib.hid (HS2.out.lent hbel hq hqb); have y1 := (HI3.out.stp.tri.cellA hk3).1; clear hq hqb hbel)
                | (go_at_call 32; refine (acAdd_calls _ (g k) (S k) (some ⟨q, 0, none⟩) mi (mi + 2) yi (HI3.out.stp.tri.acc k hk3) (HOK.out k) (by rw [HSN.out k]; omega) (lent_rowOf HI3.out.qb) (fun _ ad e => by injection e with e; rw [← e]; exact HI3.out.ne hk3) (by omega) HY.out).mono ?_; rintro e1 W4 ⟨rfl, hA⟩; have HI4 := Lib.hid (HI3.out.setAcc hk3 hA); have y2 : W4.cell? ⟨gs, 3, none⟩ = some (.slice Bi mi ci) := ucell HI4.out.stp.sb 3; clear hA)
                | (go_at_call 18; refine (stays_calls _ q Bi mi ci yi HI4.out.qb (HR.out.below HI4.out.stp.tri.bel) (by omega)).mono ?_; rintro e1 W5 ⟨rfl, hd⟩; have HI5 := Lib.hid (HI4.out.below hd.below); clear hd))
              have HI6 := Lib.hid (HI5.out.below (Below.refl _ W5).drew)
              obtain ⟨A', c', W6, hrun, z1, z2, hI⟩ := HI6.out.append hk3 (HR.out.below HI6.out.stp.tri.bel) HY.out (cc := ci) (by omega)
              have HRUN := Lib.hid hrun
              have HI7 := Lib.hid hI
              obtain ⟨v1, v2⟩ := HI5.out.stp.tri.cellF hk3
              have v3 : W5.cell? ⟨gs, 3, none⟩ = some (.slice Bi mi ci) := ucell HI5.out.stp.sb 3
              have hknn := (HI5.out.stp.tri.cap k hk3).1
              obtain ⟨Ak, eAk⟩ : ∃ v, v = A k := ⟨_, rfl⟩
              obtain ⟨nk, enk⟩ : ∃ v, v = n k := ⟨_, rfl⟩
              obtain ⟨ck, eck⟩ : ∃ v, v = c k := ⟨_, rfl⟩
              rw [← eAk, ← enk, ← eck] at z1 v1
              rw [← eAk, ← enk] at HRUN
              rw [← enk, ← eck] at hknn
              have E1 : Hid (A k = Ak ∧ n k = nk ∧ c k = ck) := (show _ ∧ _ ∧ _ from ⟨eAk.symm, enk.symm, eck.symm⟩)
              have hki : (k : Int) < 3 := by omega
              have hk0 : (0 : Int) ≤ (k : Int) := by omega
              clear eAk enk eck hrun hI y1 y2 x3 x1 v2
              refine wp_region_any (by kernel_rfl) ?_
              change wpAny _ _ _ _ _ _ _ W5.drew
              refine wpAny_take (i := 0) (v := .slice (some ⟨ga + 1, 0, none⟩) 3 3) rfl (by kernel_rfl) (by kernel_rfl) (by kernel_rfl) (fun _ _ _ h => h) (Or.inl ⟨by rfl, fun w => by go_simp⟩) ?_
              refine wpAny_take (i := 1) (v := .int .i64 (k : Int)) rfl (by kernel_rfl) (by kernel_rfl) (by kernel_rfl) (fun _ _ _ h => h) (Or.inl ⟨by rfl, fun w => by go_simp⟩) ?_
              change wpAny _ _ _ _ _ (firstListed 22 2) _ _
              refine wpAny_tail2 2 19 (by kernel_rfl) ?_
              simp only [List.take_succ_cons, List.take_zero, List.drop_succ_cons, List.drop_zero]
              iterate 14 still_step
              refine wpStill_slice3 rfl _ _ _ rfl Ak nk ck rfl rfl rfl hknn ?_
              iterate 2 still_step
              refine wpStill_nil ?_
              change wpList _ _ _ _ _ W5.drew
              clear HI6 HI5 HI4 HI3 HS2 v1 v3
              go_wp2_with (at_builtin; refine wpList_append_run rfl _ _ 23 rfl _ _ rfl rfl _ W6 HRUN.out ?_)
              have HI8 : Hid (InS w (W6.setCell ⟨ga + 1, k, none⟩ (.slice A' (nk + mi) c')) ga (ga + 1) g (updF S k (acAll (S k) yi mi)) (updF A k A') (updF n k (n k + mi)) (updF c k c') (updF x k (catN (x k) (n k) yi)) gs #[.int .i64 ia, .int .i64 0, .int .i64 io, .slice Bi mi ci] q (mi + 2) (lentF yi mi)) := (show InS _ _ _ _ _ _ _ _ _ _ _ _ _ _ _ by rw [← E1.out.2.1]; exact HI7.out)
              generalize W6.setCell ⟨ga + 1, k, none⟩ (.slice A' (nk + mi) c') = W7 at HI8 ⊢
              clear HI7 HRUN z1 z2 hknn
              go_loopg [10] mi (fun kq v10 wr => ∃ (e : Nat) (f : Nat → Nat), v10 = .int .i64 (e : Int) ∧ e ≤ mi ∧ mi ≤ e + kq ∧ Aside (InS w wr ga (ga + 1) g (updF S k (acAll (S k) yi mi)) (updF A k A') (updF n k (n k + mi)) (updF c k c') (updF x k (catN (x k) (n k) yi)) gs #[.int .i64 ia, .int .i64 0, .int .i64 io, .slice Bi mi ci] q (mi + 2) f))
              case atStart => exact ⟨0, _, by first | rfl | go_num, by omega, by omega, HI8.out⟩
              case round =>
                obtain ⟨e, f, rfl, he, hek, HZ⟩ := hrel
                clear HI8
                by_cases hel : e < mi
                · have helz : (e : Int) < (mi : Int) := by omega
                  have he0 : (0 : Int) ≤ (e : Int) := by omega
                  have z1 : wr.cell? ⟨q, e, none⟩ = some (.int .u32 ((f e : Nat) : Int)) := (ucell HZ.out.qb e).trans (arrU_get _ _ _ (by omega))
                  have z2 : wr.frozen? ⟨q, e, none⟩ = false := ufree HZ.out.qb e
                  have HZ2 := Lib.hid (HZ.out.put e 2139095040)
                  go_wp2
                  go_roundg (mi - (e + 1))
                  case measure => omega
                  case rel => exact ⟨e + 1, _, by go_num, by omega, by omega, HZ2.out⟩
                · have helz : ¬ (e : Int) < (mi : Int) := by omega
                  have HZ2 := Lib.hid (HZ.out.stp.tri.done ES.out HN.out (show M ≤ M + mi by omega) (by have := HN.out k hk3; omega))
                  go_wp2
                  go_meet
                  case rel => exact HZ2.out
          · have b0 : (iw == 0) = false := by rw [beq_eq_false_iff_ne]; exact h0
            by_cases h1 : iw = 1
            · subst h1
              have HC : Hid (n k + n j ≤ 2000 → n k + n j ≤ 2000) := (show _ → _ from id)
              obtain ⟨v1, v2⟩ := HS2.out.tri.cellF hk3
              have v3 := (HS2.out.tri.cellF hj3).1
              obtain ⟨nk, enk⟩ : ∃ v, v = n k := ⟨_, rfl⟩
              obtain ⟨nj, enj⟩ : ∃ v, v = n j := ⟨_, rfl⟩
              have EN : Hid (nk = n k ∧ nj = n j) := (show _ ∧ _ from ⟨enk, enj⟩)
              rw [← enk] at v1 hnk
              rw [← enj] at v3 hnj
              clear enk enj HC v2
              have W0 : IntKind.i64.wrap ((nk : Int) + (nj : Int)) = ((nk + nj : Nat) : Int) := by rw [IntWalk.i64_in _ (by omega)]; omega
              have hki : (k : Int) < 3 := by omega
              have hk0 : (0 : Int) ≤ (k : Int) := by omega
              have hji : (j : Int) < 3 := by omega
              have hj0 : (0 : Int) ≤ (j : Int) := by omega
              by_cases hgt : 2000 < nk + nj
              · as_aux_lemma =>
                have hgz : (2000 : Int) < ((nk + nj : Nat) : Int) := by omega
                clear x1
                go_upto_region 24 with fail
                go_quiet (fail)
                have HBE : Hid (Below w.heap.size w (W2.drewN nq)) := (show Below _ _ _ from pw_below_drewN HS2.out.tri.bel nq)
                clear HS2 v1 v3
                generalize W2.drewN nq = W3 at HBE ⊢
                go_wp2
                go_ret
                exact ⟨rfl, HBE.out⟩
              · have hgz : ¬ (2000 : Int) < ((nk + nj : Nat) : Int) := by omega
                as_aux_lemma =>
                  clear x1
                  go_upto_region 24 with fail
                  go_quiet (fail)
                  have HS3 := Lib.hid (HS2.out.below (pw_below_drewN (Below.refl W2.heap.size W2) nq))
                  clear HS2 v1 v3
                  generalize W2.drewN nq = W3 at HS3 ⊢
                  have y1 := (HS3.out.tri.cellA hk3).1
                  have y2 := (HS3.out.tri.cellA hj3).1
                  go_upto_region 26 with fail
                  have HS4 := Lib.hid (HS3.out.below (Below.refl _ W3).drew)
                  go_still_tail 8, (by kernel_rfl)
                  change wpList _ _ _ _ _ W3.drew
                  clear y1 y2 HS3
                  generalize W3.drew = W4 at HS4 ⊢
                  go_upto_region 27 with (go_at_call 33; refine (acMerge_calls _ (g k) (g j) (S k) (S j) (HS4.out.tri.acc k hk3) (HS4.out.tri.acc j hj3) (HOK.out k) (HOK.out j) (by rw [HSN.out k, HSN.out j, ← EN.out.1, ← EN.out.2]; omega)).mono ?_; rintro e1 W5 ⟨rfl, hA⟩; have HS5 := Lib.hid (HS4.out.setAcc hk3 hA); clear hA)
                  have HF : Hid (acPlus (S k) (S j) = acAll (S k) (x j) (n j)) := (show _ = _ by rw [acAll_from (S k), ← ES.out j])
                  rw [HF.out] at HS5
                  clear HS4
                  have HS6 := Lib.hid (HS5.out.below (Below.refl _ W5).drew)
                  obtain ⟨A', c', W6, hrun, -, -, z1, z2, hI⟩ := HS6.out.append hk3 (HS6.out.tri.row j hj3) (HS6.out.tri.cap j hj3).2.2 (cc := c j) (by rw [← EN.out.1, ← EN.out.2]; omega)
                  have HRUN := Lib.hid hrun
                  have HS7 := Lib.hid hI
                  obtain ⟨v1, v2⟩ := HS5.out.tri.cellF hk3
                  obtain ⟨v3, v4⟩ := HS5.out.tri.cellF hj3
                  have hknn := (HS5.out.tri.cap k hk3).1
                  obtain ⟨Ak, eAk⟩ : ∃ v, v = A k := ⟨_, rfl⟩
                  obtain ⟨ck, eck⟩ : ∃ v, v = c k := ⟨_, rfl⟩
                  obtain ⟨Aj, eAj⟩ : ∃ v, v = A j := ⟨_, rfl⟩
                  obtain ⟨cj, ecj⟩ : ∃ v, v = c j := ⟨_, rfl⟩
                  rw [← eAk, ← EN.out.1, ← eck] at z1 v1
                  rw [← eAj, ← EN.out.2, ← ecj] at v3
                  rw [← eAk, ← EN.out.1, ← eAj, ← EN.out.2, ← ecj] at HRUN
                  rw [← EN.out.1, ← eck] at hknn
                  clear eAk eck eAj ecj hrun hI v2 v4 W0
                  refine wp_region_any (by kernel_rfl) ?_
                  change wpAny _ _ _ _ _ _ _ W5.drew
                  refine wpAny_take (i := 0) (v := .slice (some ⟨ga + 1, 0, none⟩) 3 3) rfl (by kernel_rfl) (by kernel_rfl) (by kernel_rfl) (fun _ _ _ h => h) (Or.inl ⟨by rfl, fun w => by go_simp⟩) ?_
                  refine wpAny_take (i := 1) (v := .int .i64 (k : Int)) rfl (by kernel_rfl) (by kernel_rfl) (by kernel_rfl) (fun _ _ _ h => h) (Or.inl ⟨by rfl, fun w => by go_simp⟩) ?_
                  change wpAny _ _ _ _ _ (firstListed 24 2) _ _
                  refine wpAny_tail2 2 21 (by kernel_rfl) ?_
                  simp only [List.take_succ_cons, List.take_zero, List.drop_succ_cons, List.drop_zero]
                  iterate 14 still_step
                  refine wpStill_slice3 rfl _ _ _ rfl Ak nk ck rfl rfl rfl hknn ?_
                  iterate 4 still_step
                  refine wpStill_nil ?_
                  change wpList _ _ _ _ _ W5.drew
                  clear HS6 HS5 v1 v3 HF
                  have HS8 : Hid (StpS w (W6.setCell ⟨ga + 1, k, none⟩ (.slice A' (nk + nj) c')) ga (ga + 1) g (updF S k (acAll (S k) (x j) (n j))) (updF A k A') (updF n k (n k + n j)) (updF c k c') (updF x k (catN (x k) (n k) (x j))) gs #[.int .i64 ia, .int .i64 1, .int .i64 io, .slice Bi mi ci]) := (show StpS _ _ _ _ _ _ _ _ _ _ _ _ by rw [EN.out.1, EN.out.2]; exact HS7.out)
                  clear HS7
                  go_wp2_with (at_builtin; refine wpList_append_run rfl _ _ 23 rfl _ _ rfl rfl _ W6 HRUN.out ?_)
                  generalize W6.setCell ⟨ga + 1, k, none⟩ (.slice A' (nk + nj) c') = W7 at HS8 ⊢
                  have HZ2 := Lib.hid (HS8.out.tri.done ES.out HN.out (show M ≤ M + mi by omega) (by rw [← EN.out.1, ← EN.out.2]; omega))
                  go_meet
                  case rel => exact HZ2.out
            · have b1 : (iw == 1) = false := by rw [beq_eq_false_iff_ne]; exact h1
              have hki : (k : Int) < 3 := by omega
              have hk0 : (0 : Int) ≤ (k : Int) := by omega
              have hji : (j : Int) < 3 := by omega
              have hj0 : (0 : Int) ≤ (j : Int) := by omega
              by_cases h2 : iw = 2
              · subst h2
                as_aux_lemma =>
                  have y1 := (HS2.out.tri.cellA hk3).1
                  go_wp2_with (go_at_call 34; refine (acCopy_calls _ (g k) (S k) (HS2.out.tri.acc k hk3)).mono ?_; rintro e1 W3 ⟨g', rfl, hg', hA, hbel⟩; have HS3 := Lib.hid (HS2.out.below hbel); have HG := Lib.hid hg'; have HA := Lib.hid hA; obtain ⟨v1, v2⟩ := HS3.out.tri.cellA hj3; obtain ⟨v3, v4⟩ := HS3.out.tri.cellF hk3; obtain ⟨v5, v6⟩ := HS3.out.tri.cellF hj3; clear hg' hA hbel)
                  have HS4 := Lib.hid (HS3.out.setPtr hj3 HA.out (Nat.le_trans HS2.out.tri.bel.size HG.out) (fun i hi e => by have h := (HS2.out.tri.acc i hi).lt; rw [e] at h; exact absurd HG.out (Nat.not_le.2 h)))
                  obtain ⟨q1, q2, q3⟩ := HS4.out.tri.cap k hk3
                  have HS5 := Lib.hid (HS4.out.setRow hj3 (HS4.out.tri.row k hk3) q1 q2 q3 (HS4.out.tri.blk k hk3))
                  have HZ2 : Hid (ScrS w ga (ga + 1) (M + mi) (((W3.setCell ⟨ga, j, none⟩ (.pointer (some ⟨g', 0, none⟩))).setCell ⟨ga + 1, j, none⟩ (.slice (A k) (n k) (c k))))) := (show ScrS _ _ _ _ _ from HS5.out.tri.scrS (fun i hi => by
                    by_cases e : i = j
                    · subst e; rw [updF_same, updF_same, updF_same, ES.out k]
                    · rw [updF_other _ _ e, updF_other _ _ e, updF_other _ _ e, ES.out i]) (fun i hi => by
                    by_cases e : i = j
                    · subst e; rw [updF_same]; omega
                    · rw [updF_other _ _ e]; have := HN.out i hi; omega))
                  go_meet
                  case rel => exact HZ2.out
              · have b2 : (iw == 2) = false := by rw [beq_eq_false_iff_ne]; exact h2
                by_cases h3 : iw = 3
                · subst h3
                  as_aux_lemma =>
                    go_wp2_with (go_at_call 30; refine (new_calls _).mono ?_; rintro e1 W3 ⟨g', rfl, hg', hA, hbel⟩; have HS3 := Lib.hid (HS2.out.below hbel); have HG := Lib.hid hg'; have HA := Lib.hid hA; obtain ⟨v1, v2⟩ := HS3.out.tri.cellA hk3; obtain ⟨v3, v4⟩ := HS3.out.tri.cellF hk3; clear hg' hA hbel)
                    have HS4 := Lib.hid (HS3.out.setPtr hk3 HA.out (Nat.le_trans HS2.out.tri.bel.size HG.out) (fun i hi e => by have h := (HS2.out.tri.acc i hi).lt; rw [e] at h; exact absurd HG.out (Nat.not_le.2 h)))
                    have HS5 := Lib.hid (HS4.out.setRow hk3 (A' := none) (n' := 0) (c' := 0) (x' := fun _ => 0) (RowU.nil _ _ _) (Nat.le_refl _) (fun _ => rfl) (fun i hi => absurd hi (Nat.not_lt_zero _)) (fun ad e => by cases e))
                    have HZ2 : Hid (ScrS w ga (ga + 1) (M + mi) (((W3.setCell ⟨ga, k, none⟩ (.pointer (some ⟨g', 0, none⟩))).setCell ⟨ga + 1, k, none⟩ (.slice none 0 0)))) := (show ScrS _ _ _ _ _ from HS5.out.tri.scrS (fun i hi => by
                      by_cases e : i = k
                      · subst e; rw [updF_same, updF_same, updF_same]; rfl
                      · rw [updF_other _ _ e, updF_other _ _ e, updF_other _ _ e, ES.out i]) (fun i hi => by
                      by_cases e : i = k
                      · subst e; rw [updF_same]; exact Nat.zero_le _
                      · rw [updF_other _ _ e]; have := HN.out i hi; omega))
                    go_meet
                    case rel => exact HZ2.out
                · have b3 : (iw == 3) = false := by rw [beq_eq_false_iff_ne]; exact h3
                  have HZ2 : Hid (ScrS w ga (ga + 1) (M + mi) W2) := (show ScrS _ _ _ _ _ from HS2.out.tri.scrS (fun i hi => ES.out i) (fun i hi => by have := HN.out i hi; omega))
                  go_wp2
                  go_meet
                  case rel => exact HZ2.out
        case rest =>
          rw [← HSUM.out] at hcut
          have hM4 : msum m (i + 1) ≤ 2000 := by rw [HSUM.out]; exact hMi
          have HM4 := Lib.hid hM4
          clear hM4 hMi HS2 HSUM HN ES HOK HSN HR HY x1
          go_wp2
          go_loopg [11] 3 (fun kq v11 wr => ∃ e : Nat, v11 = .int .i64 (e : Int) ∧ e ≤ 3 ∧ 3 ≤ e + kq ∧ Aside (ScrS w ga (ga + 1) (msum m (i + 1)) wr))
          case atStart => exact ⟨0, by first | rfl | go_num, by omega, by omega, hcut⟩
          case round =>
            obtain ⟨e, rfl, he, hek, HZ⟩ := hrel
            clear hcut
            by_cases hel : e < 3
            · have helz : (e : Int) < 3 := by omega
              have he0 : (0 : Int) ≤ (e : Int) := by omega
              obtain ⟨g, A, n, c, x, hT, hn⟩ := HZ.out
              have HT := Lib.hid hT.drew
              obtain ⟨v1, -⟩ := hT.cellA hel
              obtain ⟨v2, -⟩ := hT.cellF hel
              have HC : Hid (Calls Try.prog 35 #[.pointer (some ⟨g e, 0, none⟩), .slice (A e) (n e) (c e)] wr.drew fun e' w' => Gives wr.drew (.bool true) e' w') := (show Calls _ _ _ _ _ from holds_calls _ (g e) (A e) (n e) (c e) (x e) (HT.out.acc e hel) (HT.out.row e hel) (HT.out.cap e hel).1 (by have := hn e hel; have := HM4.out; omega) (HT.out.cap e hel).2.2)
              have HZ1 := Lib.hid (HZ.out.below (Below.refl _ wr).drew)
              clear hT hn HT
              go_upto_region 37 with fail
              go_still_tail 8, (by kernel_rfl)
              change wpList _ _ _ _ _ wr.drew
              clear v1 v2 HZ
              generalize wr.drew = W4 at HC HZ1 ⊢
              go_wp2_with (go_at_call 35; refine HC.out.mono ?_; rintro e1 W5 ⟨rfl, hbel⟩; have HZ5 := Lib.hid (HZ1.out.below hbel); clear hbel)
              go_roundg (3 - (e + 1))
              case measure => omega
              case rel => exact ⟨e + 1, by go_num, by omega, by omega, HZ5.out⟩
            · have helz : ¬ (e : Int) < 3 := by omega
              go_wp2
              go_roundg (N - (i + 1))
              case measure => omega
              case rel => exact ⟨i + 1, by go_num, by omega, by omega, HZ.out⟩
      · have hltz : ¬ (i : Int) < (N : Int) := by omega
        have HBE : Hid (Below w.heap.size w wr) := (show Below _ _ _ by obtain ⟨g, A, n, c, x, hT, -⟩ := HS.out; exact hT.bel)
        go_wp2
        go_ret
        exact ⟨rfl, HBE.out⟩
end Go.Proofs.Ytmeifciagepmpaa
