/- Acc.Copy, Acc.Merge. -/
import Derived.Test.YtmeifciagepmpaaAcG
import Derived.RegionTactic
import Derived.StillTailTactics
namespace Go.Proofs.Ytmeifciagepmpaa
open Go.RowKit Go.Proofs.YtmeifciagepmpaaW.PrintWords
set_option linter.unusedSimpArgs false
set_option linter.unusedVariables false

theorem load_limbs {W : World} {g : Nat} {f c : Nat → Nat} (h : W.heap[g]? = some (.cells (accC f c) 89 (0, 0))) : (loadCellsFrom ⟨g, 0, none⟩ 0 14 #[]).run Try.prog W = .ok (arrU 14 f) W := by
  have hl : (arrU 14 f).toList.length = 14 := by simp [arrU]
  have := run_loadCells_list (P := Try.prog) W ⟨g, 0, none⟩ (arrU 14 f).toList (fun j v hv => by
    have hadd : (⟨g, 0, none⟩ : Addr).add j = ⟨g, j, none⟩ := by unfold Addr.add; split <;> simp_all
    have hj : j < 14 := by
      rcases Nat.lt_or_ge j 14 with h1 | h1
      · exact h1
      · rw [List.getElem?_eq_none (by omega)] at hv; cases hv
    rw [hadd, ucell h, accC_get _ _ _ hj]
    rw [Array.getElem?_toList, arrU_get _ _ _ hj] at hv
    exact hv)
  simpa [loadCells, hl] using this

theorem loadVar_limbs {W : World} {g : Nat} {f c : Nat → Nat} (h : W.heap[g]? = some (.cells (accC f c) 89 (0, 0))) : (loadVar 87 ⟨g, 0, none⟩).run Try.prog W = .ok (.agg (arrU 14 f)) W := by
  have hagg : (isAgg 87).run Try.prog W = .ok true W := by
    unfold isAgg
    rw [Sem.run_bind, run_underlying Try.underlying87 W]
    simp
  have hi : (Try.prog.info? 87).map (·.size) = some 14 := by kernel_rfl
  cases hq : Try.prog.info? 87 with
  | none => simp [hq] at hi
  | some i =>
    have hs : i.size = 14 := by simpa [hq] using hi
    have hl := load_limbs h
    simp [loadVar, Sem.run_bind, hagg, sizeOf, typeInfo, hq, hs, loadCells, hl]
theorem wpStill_load {P : Program} {ops : Array Oper} {w : World} {Q : Act → Prop} {a : Act} {o : Oper} {rest : List Oper} (hgd : o.guard = none) (ty : TypeId) (x : Operand) (ho : o.op = .load ty x) (ad : Addr) (hx : a.eval x = .pointer (some ad)) (v : Value)
    (hl : (loadVar ty ad).run P w = .ok v w) (h : wpStill P ops w Q rest (a.put o.dst v)) : wpStill P ops w Q (o :: rest) a := by
  refine wpStill_step fun K hK => ?_
  rw [if_pos (by simp [Region.wanted, hgd])]
  unfold Oper.still execOp
  simp only [ho, hx, Instr.loadAt, Instr.sureAddr, Sem.run_bind, Sem.run_pure, Result.andThen_ok, hl, Oper.stillUpon_value]
  exact hK _ h
theorem wpList_load_part {P : Program} {ops : Array Oper} {rest : List Oper} {o : Oper} {a : Act} {w : World} {Q : Exit → Act → World → Prop} (hgd : o.guard = none) (ty : TypeId) (x : Operand) (ho : o.op = .load ty x)
    (ad : Addr) (hx : a.eval x = .pointer (some ad)) (v : Value) (hl : (loadVar ty ad).run P w = .ok v w) (h : wpList P ops Q rest (a.put o.dst v) w) : wpList P ops Q (o :: rest) a w :=
  wpList_plain hgd fun _ hK => by
    unfold Oper.wp execOp
    simp only [ho, hx, Instr.loadAt, Instr.sureAddr, Sem.run_bind, Sem.run_pure, Result.andThen_ok, hl]
    exact hK _ _ h

set_option maxHeartbeats 1600000 in
set_option maxRecDepth 100000 in
theorem acCopy_calls (w : World) (g : Nat) (S : Ac) (hS : AcAt w g S) :
    Calls Try.prog 34 #[.pointer (some ⟨g, 0, none⟩)] w fun e w' => CopyEnd w S e w' := by
  obtain ⟨f, hbl, hL⟩ := hS
  have HBL := Lib.hid hbl
  have HL := Lib.hid hL
  clear hbl hL
  have HS : Hid (w.heap.size ≤ w.heap.size ∧ AcAt (w.alloc (.cells (accC f (acC S)) 89)) w.heap.size S ∧ Below w.heap.size w (w.alloc (.cells (accC f (acC S)) 89))) := (show _ ∧ _ ∧ _ from ⟨Nat.le_refl _, ⟨f, heap_alloc_new w _, HL.out⟩, (Below.refl _ _).alloc (Nat.le_refl _) _⟩)
  obtain ⟨cs, ecs⟩ : ∃ cs, cs = accC f (acC S) := ⟨_, rfl⟩
  have h1 : Hid ((Try.prog.info? 89).map (·.size) = some cs.size) := (show _ = _ by rw [ecs, accC_size]; exact acc_info)
  have h2 : Hid (cs.all (·.oneCell') = true) := (show _ = _ by rw [ecs]; exact accC_one _ _)
  have h3 : Hid (19 = cs.size) := (show _ = _ by rw [ecs, accC_size])
  rw [← ecs] at HBL HS
  clear ecs
  unfold CopyEnd
  go_enter Try.func34, Try.ntmps34
  go_wp2_with (first
    | (refine wpList_load_row rfl 89 _ rfl g rfl 89 cs (0, 0) _ HBL.out Try.underlying89 rfl h1.out ?_)
    | (refine wpList_store_row rfl 89 _ _ rfl w.heap.size cs rfl rfl 89 _ (heap_alloc_new w _) h1.out h3.out h2.out ?_; rw [World.setRow_alloc_new]))
  go_ret
  exact ⟨_, rfl, HS.out.1, HS.out.2.1, HS.out.2.2⟩

/-- An Acc, and beside it the copy of another one. -/
structure Acc2 (w : World) (g : Nat) (f c : Nat → Nat) (h : Nat) (f2 c2 : Nat → Nat) (W : World) : Prop where
  a : AccW w g f c W
  ne : h ≠ g
  b : W.heap[h]? = some (.cells (accC f2 c2) 89 (0, 0))
theorem Acc2.drew {w W : World} {g h : Nat} {f c f2 c2 : Nat → Nat} (H : Acc2 w g f c h f2 c2 W) : Acc2 w g f c h f2 c2 W.drew := ⟨H.a.drewN 1, H.ne, H.b⟩
theorem Acc2.set2 {w W : World} {g h : Nat} {f c f2 c2 : Nat → Nat} (H : Acc2 w g f c h f2 c2 W) (j v : Nat) (hj : j < 5) : Acc2 w g f (updN c j v) h f2 c2 (W.setCell ⟨g, 14 + j, none⟩ (.int .i64 (v : Int))) :=
  ⟨H.a.set2 j v hj, H.ne, by rw [Below.heap_setCell _ _ _ _ H.ne]; exact H.b⟩
theorem Acc2.cells {w W : World} {g h : Nat} {f c f2 c2 : Nat → Nat} (H : Acc2 w g f c h f2 c2 W) (j : Nat) (hj : j < 5) : W.cell? ⟨g, 14 + j, none⟩ = some (.int .i64 ((c j : Nat) : Int)) ∧ W.frozen? ⟨g, 14 + j, none⟩ = false ∧ W.cell? ⟨h, 14 + j, none⟩ = some (.int .i64 ((c2 j : Nat) : Int)) ∧ (h == g) = false ∧ (g == h) = false :=
  ⟨(H.a.cell2 j hj).1, (H.a.cell2 j hj).2, (ucell H.b _).trans (accC_get2 _ _ _ hj), beq_eq_false_iff_ne.2 H.ne, beq_eq_false_iff_ne.2 (Ne.symm H.ne)⟩

theorem plus_told {w : World} {g h : Nat} {f f2 c c2 : Nat → Nat} {y z : Int} (hL : LimbsOf f y) (hL2 : LimbsOf f2 z) (W : World) (hA : Acc2 w g f c h f2 c2 W) :
    Calls Try.prog 67 #[.pointer (some ⟨g, 0, none⟩), .agg (arrU 14 f2)] W fun e w' => e = .returned (.tuple #[]) ∧ ∃ f', Acc2 w g f' c h f2 c2 w' ∧ LimbsOf f' (y + z) := by
  have hS : AccW W g f c W := ⟨⟨rfl, rfl, rfl, Nat.le_refl _, fun _ _ _ => rfl⟩, hA.a.bl⟩
  refine (lplus_calls W W g f c f2 hS hL.lt hL2.lt).mono fun e w' ⟨h1, f', cy, h2, h3, h4⟩ => ⟨h1, f', ⟨⟨grown_trans hA.a.gr h2.gr, h2.bl⟩, hA.ne, ?_⟩, hL.plus h3 hL2.eq h4⟩
  have hl : h < W.heap.size := (Array.getElem?_eq_some_iff.1 hA.b).1
  rw [h2.gr.block h hl (by intro e; injection e with e; exact hA.ne e)]
  exact hA.b
theorem acC_plus (S T : Ac) : (updN (updN (updN (updN (updN (acC S) 0 (S.n + T.n)) 1 (S.nans + T.nans)) 2 (S.up + T.up)) 3 (S.dn + T.dn)) 4 (S.no + T.no)) = acC (acPlus S T) := by
  funext k
  match k with
  | 0 | 1 | 2 | 3 | 4 => rfl
  | k + 5 => rfl

set_option maxHeartbeats 1600000 in
set_option maxRecDepth 100000 in
theorem acMerge_calls (w : World) (g g2 : Nat) (S T : Ac) (hS : AcAt w g S) (hT : AcAt w g2 T) (hok : AcOk S) (hok2 : AcOk T) (hN : S.n + T.n ≤ 1000000000000) :
    Calls Try.prog 33 #[.pointer (some ⟨g, 0, none⟩), .pointer (some ⟨g2, 0, none⟩)] w fun e w' => e = .returned (.tuple #[]) ∧ AccOf w g (acPlus S T) w' := by
  have HSS := Lib.hid hS
  obtain ⟨f, hbl, hL⟩ := hS
  obtain ⟨f2, hbl2, hL2⟩ := hT
  have HBL := Lib.hid hbl
  have HL := Lib.hid hL
  have HBL2 := Lib.hid hbl2
  have HL2 := Lib.hid hL2
  clear hbl hL hbl2 hL2
  have HS : Hid (Acc2 w g f (acC S) w.heap.size f2 (acC T) (w.alloc (.cells (accC f2 (acC T)) 89))) := (show Acc2 _ _ _ _ _ _ _ _ from
    ⟨⟨grown_below _ ((Below.refl _ _).alloc (Nat.le_refl _) _), (Below.heap_alloc _ _ _ HSS.out.lt).trans HBL.out⟩, (by have := HSS.out.lt; omega), heap_alloc_new w _⟩)
  obtain ⟨cs, ecs⟩ : ∃ cs, cs = accC f2 (acC T) := ⟨_, rfl⟩
  have h1 : Hid ((Try.prog.info? 89).map (·.size) = some cs.size) := (show _ = _ by rw [ecs, accC_size]; exact acc_info)
  have h2 : Hid (cs.all (·.oneCell') = true) := (show _ = _ by rw [ecs]; exact accC_one _ _)
  have h3 : Hid (19 = cs.size) := (show _ = _ by rw [ecs, accC_size])
  rw [← ecs] at HBL2 HS
  clear ecs
  go_enter Try.func33, Try.ntmps33
  go_wp2_with (first
    | (refine wpList_load_row rfl 89 _ rfl g2 rfl 89 cs (0, 0) _ HBL2.out Try.underlying89 rfl h1.out ?_)
    | (refine wpList_store_row rfl 89 _ _ rfl w.heap.size cs rfl rfl 89 _ (heap_alloc_new w _) h1.out h3.out h2.out ?_; rw [World.setRow_alloc_new]))
  generalize w.alloc (.cells cs 89) = W1 at HS ⊢
  obtain ⟨h, eh⟩ : ∃ h, h = w.heap.size := ⟨_, rfl⟩
  rw [← eh] at HS ⊢
  clear eh h1 h2 h3 HBL2
  have hl := Lib.hid (loadVar_limbs HS.out.drew.b)
  have HPL : Hid (∀ W, Acc2 w g f (acC S) h f2 (acC T) W → Calls Try.prog 67 #[.pointer (some ⟨g, 0, none⟩), .agg (arrU 14 f2)] W fun e w' => e = .returned (.tuple #[]) ∧ ∃ f', Acc2 w g f' (acC S) h f2 (acC T) w' ∧ LimbsOf f' (S.z + T.z)) := plus_told HL.out HL2.out
  go_still_tail 5, (by kernel_rfl)
  refine wpStill_load rfl 87 _ rfl ⟨h, 0, none⟩ rfl _ hl.out ?_
  refine wpStill_nil ?_
  change wpList _ _ _ _ _ W1.drew
  clear hl
  go_wp2_with (go_at_call 67; refine (HPL.out _ HS.out.drew).mono ?_; rintro e1 w1 ⟨rfl, f', hA, hL⟩; have HA1 := Lib.hid hA; have HL1 := Lib.hid hL; clear hA hL)
  clear HPL HS HL HL2 HBL HSS
  have k0 : Hid (S.n + T.n ≤ 1000000000000) := (show _ ≤ _ from hN)
  have k1 : Hid (S.nans + T.nans ≤ 1000000000000) := (show _ ≤ _ from Nat.le_trans (Nat.add_le_add hok.nans hok2.nans) hN)
  have k2 : Hid (S.up + T.up ≤ 1000000000000) := (show _ ≤ _ from Nat.le_trans (Nat.add_le_add hok.up hok2.up) hN)
  have k3 : Hid (S.dn + T.dn ≤ 1000000000000) := (show _ ≤ _ from Nat.le_trans (Nat.add_le_add hok.dn hok2.dn) hN)
  have k4 : Hid (S.no + T.no ≤ 1000000000000) := (show _ ≤ _ from Nat.le_trans (Nat.add_le_add hok.no hok2.no) hN)
  clear hok hok2 hN
  obtain ⟨p, ep⟩ : ∃ p, p = S.n := ⟨_, rfl⟩
  obtain ⟨q, eq⟩ : ∃ p, p = T.n := ⟨_, rfl⟩
  have hpq : p + q ≤ 1000000000000 := by rw [ep, eq]; exact k0.out
  have X0 : Hid (Acc2 w g f' (updN (acC S) 0 (S.n + T.n)) h f2 (acC T) ((w1.setCell ⟨g, 14, none⟩ (.int .i64 ((p : Int) + (q : Int)))).drew)) := (show Acc2 _ _ _ _ _ _ _ _ by
    have := (HA1.out.set2 0 (S.n + T.n) (by decide)).drew
    rw [← ep, ← eq] at this ⊢
    exact this)
  have ca : w1.cell? ⟨g, 14, none⟩ = some (.int .i64 (p : Int)) := by rw [ep]; exact (HA1.out.cells 0 (by decide)).1
  have fa : w1.frozen? ⟨g, 14, none⟩ = false := (HA1.out.cells 0 (by decide)).2.1
  have cb : w1.cell? ⟨h, 14, none⟩ = some (.int .i64 (q : Int)) := by rw [eq]; exact (HA1.out.cells 0 (by decide)).2.2.1
  clear ep eq HA1 k0
  go_still_tail 9, (by kernel_rfl)
  change wpList _ _ _ _ _ w1.drew
  go_wp2
  generalize (w1.setCell ⟨g, 14, none⟩ (.int .i64 ((p : Int) + (q : Int)))).drew = w2 at X0 ⊢
  have HA2 := X0
  clear X0 ca fa cb hpq
  obtain ⟨p, ep⟩ : ∃ p, p = S.nans := ⟨_, rfl⟩
  obtain ⟨q, eq⟩ : ∃ p, p = T.nans := ⟨_, rfl⟩
  have hpq : p + q ≤ 1000000000000 := by rw [ep, eq]; exact k1.out
  have X1 : Hid (Acc2 w g f' (updN (updN (acC S) 0 (S.n + T.n)) 1 (S.nans + T.nans)) h f2 (acC T) ((w2.setCell ⟨g, 15, none⟩ (.int .i64 ((p : Int) + (q : Int)))).drew)) := (show Acc2 _ _ _ _ _ _ _ _ by
    have := (HA2.out.set2 1 (S.nans + T.nans) (by decide)).drew
    rw [← ep, ← eq] at this ⊢
    exact this)
  have ca : w2.cell? ⟨g, 15, none⟩ = some (.int .i64 (p : Int)) := by rw [ep]; exact (HA2.out.cells 1 (by decide)).1
  have fa : w2.frozen? ⟨g, 15, none⟩ = false := (HA2.out.cells 1 (by decide)).2.1
  have cb : w2.cell? ⟨h, 15, none⟩ = some (.int .i64 (q : Int)) := by rw [eq]; exact (HA2.out.cells 1 (by decide)).2.2.1
  clear ep eq HA2 k1
  go_still_tail 9, (by kernel_rfl)
  change wpList _ _ _ _ _ w2.drew
  go_wp2
  generalize (w2.setCell ⟨g, 15, none⟩ (.int .i64 ((p : Int) + (q : Int)))).drew = w3 at X1 ⊢
  have HA3 := X1
  clear X1 ca fa cb hpq
  obtain ⟨p, ep⟩ : ∃ p, p = S.up := ⟨_, rfl⟩
  obtain ⟨q, eq⟩ : ∃ p, p = T.up := ⟨_, rfl⟩
  have hpq : p + q ≤ 1000000000000 := by rw [ep, eq]; exact k2.out
  have X2 : Hid (Acc2 w g f' (updN (updN (updN (acC S) 0 (S.n + T.n)) 1 (S.nans + T.nans)) 2 (S.up + T.up)) h f2 (acC T) ((w3.setCell ⟨g, 16, none⟩ (.int .i64 ((p : Int) + (q : Int)))).drew)) := (show Acc2 _ _ _ _ _ _ _ _ by
    have := (HA3.out.set2 2 (S.up + T.up) (by decide)).drew
    rw [← ep, ← eq] at this ⊢
    exact this)
  have ca : w3.cell? ⟨g, 16, none⟩ = some (.int .i64 (p : Int)) := by rw [ep]; exact (HA3.out.cells 2 (by decide)).1
  have fa : w3.frozen? ⟨g, 16, none⟩ = false := (HA3.out.cells 2 (by decide)).2.1
  have cb : w3.cell? ⟨h, 16, none⟩ = some (.int .i64 (q : Int)) := by rw [eq]; exact (HA3.out.cells 2 (by decide)).2.2.1
  clear ep eq HA3 k2
  go_still_tail 9, (by kernel_rfl)
  change wpList _ _ _ _ _ w3.drew
  go_wp2
  generalize (w3.setCell ⟨g, 16, none⟩ (.int .i64 ((p : Int) + (q : Int)))).drew = w4 at X2 ⊢
  have HA4 := X2
  clear X2 ca fa cb hpq
  obtain ⟨p, ep⟩ : ∃ p, p = S.dn := ⟨_, rfl⟩
  obtain ⟨q, eq⟩ : ∃ p, p = T.dn := ⟨_, rfl⟩
  have hpq : p + q ≤ 1000000000000 := by rw [ep, eq]; exact k3.out
  have X3 : Hid (Acc2 w g f' (updN (updN (updN (updN (acC S) 0 (S.n + T.n)) 1 (S.nans + T.nans)) 2 (S.up + T.up)) 3 (S.dn + T.dn)) h f2 (acC T) ((w4.setCell ⟨g, 17, none⟩ (.int .i64 ((p : Int) + (q : Int)))).drew)) := (show Acc2 _ _ _ _ _ _ _ _ by
    have := (HA4.out.set2 3 (S.dn + T.dn) (by decide)).drew
    rw [← ep, ← eq] at this ⊢
    exact this)
  have ca : w4.cell? ⟨g, 17, none⟩ = some (.int .i64 (p : Int)) := by rw [ep]; exact (HA4.out.cells 3 (by decide)).1
  have fa : w4.frozen? ⟨g, 17, none⟩ = false := (HA4.out.cells 3 (by decide)).2.1
  have cb : w4.cell? ⟨h, 17, none⟩ = some (.int .i64 (q : Int)) := by rw [eq]; exact (HA4.out.cells 3 (by decide)).2.2.1
  clear ep eq HA4 k3
  go_still_tail 9, (by kernel_rfl)
  change wpList _ _ _ _ _ w4.drew
  go_wp2
  generalize (w4.setCell ⟨g, 17, none⟩ (.int .i64 ((p : Int) + (q : Int)))).drew = w5 at X3 ⊢
  have HA5 := X3
  clear X3 ca fa cb hpq
  obtain ⟨p, ep⟩ : ∃ p, p = S.no := ⟨_, rfl⟩
  obtain ⟨q, eq⟩ : ∃ p, p = T.no := ⟨_, rfl⟩
  have hpq : p + q ≤ 1000000000000 := by rw [ep, eq]; exact k4.out
  have X4 : Hid (Acc2 w g f' (updN (updN (updN (updN (updN (acC S) 0 (S.n + T.n)) 1 (S.nans + T.nans)) 2 (S.up + T.up)) 3 (S.dn + T.dn)) 4 (S.no + T.no)) h f2 (acC T) ((w5.setCell ⟨g, 18, none⟩ (.int .i64 ((p : Int) + (q : Int)))).drew)) := (show Acc2 _ _ _ _ _ _ _ _ by
    have := (HA5.out.set2 4 (S.no + T.no) (by decide)).drew
    rw [← ep, ← eq] at this ⊢
    exact this)
  have ca : w5.cell? ⟨g, 18, none⟩ = some (.int .i64 (p : Int)) := by rw [ep]; exact (HA5.out.cells 4 (by decide)).1
  have fa : w5.frozen? ⟨g, 18, none⟩ = false := (HA5.out.cells 4 (by decide)).2.1
  have cb : w5.cell? ⟨h, 18, none⟩ = some (.int .i64 (q : Int)) := by rw [eq]; exact (HA5.out.cells 4 (by decide)).2.2.1
  clear ep eq HA5 k4
  go_still_tail 9, (by kernel_rfl)
  change wpList _ _ _ _ _ w5.drew
  go_wp2
  generalize (w5.setCell ⟨g, 18, none⟩ (.int .i64 ((p : Int) + (q : Int)))).drew = w6 at X4 ⊢
  have HA6 := X4
  clear X4 ca fa cb hpq
  go_end0
  refine ⟨rfl, f', ?_, HL1.out⟩
  have := HA6.out.a
  rw [acC_plus] at this
  exact this
end Go.Proofs.Ytmeifciagepmpaa
