/- halidelaw28.WarpThen: the walk. -/
import Derived.Test.YtdcpeeolfgohmaaWmM
import Derived.Test.YtdcpeeolfgohmaaWmP
namespace Go.Proofs.Ytdcpeeolfgohmaa
open Go.RowKit Go.Proofs.YtdcpeeolfgohmaaW.PrintWords
set_option linter.unusedSimpArgs false
set_option linter.unusedVariables false
attribute [local go_sem] Oper.semAt_some
attribute [local go_sem high] eqA_Warp

theorem BoxW.c0 {W : World} {g : Nat} {t : Wp} (h : BoxW W g t) : W.cell? ⟨g, 0, none⟩ = some (.int .i64 t.A) := h.cells.1
theorem BoxW.c1 {W : World} {g : Nat} {t : Wp} (h : BoxW W g t) : W.cell? ⟨g, 1, none⟩ = some (.int .i64 t.B) := h.cells.2.1
theorem BoxW.c2 {W : World} {g : Nat} {t : Wp} (h : BoxW W g t) : W.cell? ⟨g, 2, none⟩ = some (.int .i64 t.C) := h.cells.2.2.1
theorem BoxW.c3 {W : World} {g : Nat} {t : Wp} (h : BoxW W g t) : W.cell? ⟨g, 3, none⟩ = some (.int .i64 t.D) := h.cells.2.2.2.1
theorem BoxW.c4 {W : World} {g : Nat} {t : Wp} (h : BoxW W g t) : W.cell? ⟨g, 4, none⟩ = some (.int .i64 t.E) := h.cells.2.2.2.2.1
theorem BoxW.c5 {W : World} {g : Nat} {t : Wp} (h : BoxW W g t) : W.cell? ⟨g, 5, none⟩ = some (.int .i64 t.F) := h.cells.2.2.2.2.2.1
theorem BoxW.c6 {W : World} {g : Nat} {t : Wp} (h : BoxW W g t) : W.cell? ⟨g, 6, none⟩ = some (.int .i64 t.Q) := h.cells.2.2.2.2.2.2
/-- Behind the first part: the third map's box. -/
structure TnT (w : World) (t : Wp) (W : World) : Prop where
  be : Below w.heap.size w W
  bt : BoxW W (w.heap.size + 1 + 1) t
theorem TnT.below {w : World} {t : Wp} {W V : World} (h : TnT w t W) (hb : Below W.heap.size W V) : TnT w t V := ⟨ujoin h.be hb, h.bt.below hb⟩
/-- The boxes of all three, and of two results. -/
structure TnW (w : World) (b7 b9 : Nat) (r s t a b : Wp) (W : World) : Prop where
  tt : TnT w t W
  br : BoxW W w.heap.size r
  bs : BoxW W (w.heap.size + 1) s
  ba : BoxW W b7 a
  bb : BoxW W b9 b
theorem TnW.below {w : World} {b7 b9 : Nat} {r s t a b : Wp} {W V : World} (h : TnW w b7 b9 r s t a b W) (hb : Below W.heap.size W V) : TnW w b7 b9 r s t a b V := ⟨h.tt.below hb, h.br.below hb, h.bs.below hb, h.ba.below hb, h.bb.below hb⟩
theorem wal (W : World) (o : Obj) : Below W.heap.size W (W.alloc o) := (Below.refl _ _).alloc (Nat.le_refl _) o

set_option maxHeartbeats 6400000 in
set_option maxRecDepth 100000 in
theorem lawThen_calls (r s t : Wp) (w : World) : Calls Try.prog 5 #[wpV r, wpV s, wpV t] w fun e w' => WGives w (.bool true) e w' := by
  have HKN := Lib.hid fun W => known28_calls W
  obtain ⟨aT, eT, h1⟩ : ∃ a e, thenW r s = (a, e) := ⟨_, _, rfl⟩
  obtain ⟨bT, fT, h2⟩ : ∃ a e, thenW s t = (a, e) := ⟨_, _, rfl⟩
  obtain ⟨cT, gT, h3⟩ : ∃ a e, thenW aT t = (a, e) := ⟨_, _, rfl⟩
  obtain ⟨dT, kT, h4⟩ : ∃ a e, thenW r bT = (a, e) := ⟨_, _, rfl⟩
  have C1 : Hid (∀ W, Calls Try.prog 21 #[.agg #[.int .i64 r.A, .int .i64 r.B, .int .i64 r.C, .int .i64 r.D, .int .i64 r.E, .int .i64 r.F, .int .i64 r.Q], .agg #[.int .i64 s.A, .int .i64 s.B, .int .i64 s.C, .int .i64 s.D, .int .i64 s.E, .int .i64 s.F, .int .i64 s.Q]] W fun e w' => e = .returned (.tuple #[.agg #[.int .i64 aT.A, .int .i64 aT.B, .int .i64 aT.C, .int .i64 aT.D, .int .i64 aT.E, .int .i64 aT.F, .int .i64 aT.Q], .int .i64 eT]) ∧ Below W.heap.size W w') := (show ∀ W, _ from fun W => (then_calls W r s).mono fun e w' h => ⟨by rw [h.1]; rw [wtV_of h1], h.2⟩)
  have C2 : Hid (∀ W, Calls Try.prog 21 #[.agg #[.int .i64 s.A, .int .i64 s.B, .int .i64 s.C, .int .i64 s.D, .int .i64 s.E, .int .i64 s.F, .int .i64 s.Q], .agg #[.int .i64 t.A, .int .i64 t.B, .int .i64 t.C, .int .i64 t.D, .int .i64 t.E, .int .i64 t.F, .int .i64 t.Q]] W fun e w' => e = .returned (.tuple #[.agg #[.int .i64 bT.A, .int .i64 bT.B, .int .i64 bT.C, .int .i64 bT.D, .int .i64 bT.E, .int .i64 bT.F, .int .i64 bT.Q], .int .i64 fT]) ∧ Below W.heap.size W w') := (show ∀ W, _ from fun W => (then_calls W s t).mono fun e w' h => ⟨by rw [h.1]; rw [wtV_of h2], h.2⟩)
  have C3 : Hid (∀ W, Calls Try.prog 21 #[.agg #[.int .i64 aT.A, .int .i64 aT.B, .int .i64 aT.C, .int .i64 aT.D, .int .i64 aT.E, .int .i64 aT.F, .int .i64 aT.Q], .agg #[.int .i64 t.A, .int .i64 t.B, .int .i64 t.C, .int .i64 t.D, .int .i64 t.E, .int .i64 t.F, .int .i64 t.Q]] W fun e w' => e = .returned (.tuple #[.agg #[.int .i64 cT.A, .int .i64 cT.B, .int .i64 cT.C, .int .i64 cT.D, .int .i64 cT.E, .int .i64 cT.F, .int .i64 cT.Q], .int .i64 gT]) ∧ Below W.heap.size W w') := (show ∀ W, _ from fun W => (then_calls W aT t).mono fun e w' h => ⟨by rw [h.1]; rw [wtV_of h3], h.2⟩)
  have C4 : Hid (∀ W, Calls Try.prog 21 #[.agg #[.int .i64 r.A, .int .i64 r.B, .int .i64 r.C, .int .i64 r.D, .int .i64 r.E, .int .i64 r.F, .int .i64 r.Q], .agg #[.int .i64 bT.A, .int .i64 bT.B, .int .i64 bT.C, .int .i64 bT.D, .int .i64 bT.E, .int .i64 bT.F, .int .i64 bT.Q]] W fun e w' => e = .returned (.tuple #[.agg #[.int .i64 dT.A, .int .i64 dT.B, .int .i64 dT.C, .int .i64 dT.D, .int .i64 dT.E, .int .i64 dT.F, .int .i64 dT.Q], .int .i64 kT]) ∧ Below W.heap.size W w') := (show ∀ W, _ from fun W => (then_calls W r bT).mono fun e w' h => ⟨by rw [h.1]; rw [wtV_of h4], h.2⟩)
  have HAS : Hid (eT = 0 → fT = 0 → gT = 0 → kT = 0 → cT = dT) := (show _ → _ from fun e1 e2 e3 e4 => by
    have := then_assoc (r := r) (s := s) (t := t) (by rw [h1]; exact e1) (by rw [h2]; exact e2) (by rw [h1]; show (thenW aT t).2 = 0; rw [h3]; exact e3) (by rw [h2]; show (thenW r bT).2 = 0; rw [h4]; exact e4)
    rw [h1, h2] at this
    have t2 : (thenW aT t).1 = (thenW r bT).1 := this
    rw [h3, h4] at t2
    exact t2)
  clear h1 h2 h3 h4
  unfold wpV wpC WGives
  unfold WGives at HKN
  have HX := Lib.hid (three_blocks w (wpC r) (wpC s) (wpC t))
  have HXB : Hid (Below w.heap.size w (((w.alloc (.cells (wpC r) 32)).alloc (.cells (wpC s) 32)).alloc (.cells (wpC t) 32))) := (show Below _ _ _ from ujoin (ujoin (wal w _) (wal _ _)) (wal _ _))
  go_enter Try.func5, Try.ntmps5
  go_upto_region 5 with (first
    | (go_at_call 16; refine (HKN.out _).mono ?_; rintro e1 w1 ⟨rfl, hb⟩; have HB1 := Lib.hid (ujoin HXB.out hb); have hx0 : BoxW w1 w.heap.size r := (hb.block _ (by rw [World.size_alloc, World.size_alloc, World.size_alloc]; omega)).trans HX.out.1; have hx1 : BoxW w1 (w.heap.size + 1) s := (hb.block _ (by rw [World.size_alloc, World.size_alloc, World.size_alloc]; omega)).trans HX.out.2.1; have hx2 : BoxW w1 (w.heap.size + 1 + 1) t := (hb.block _ (by rw [World.size_alloc, World.size_alloc, World.size_alloc]; omega)).trans HX.out.2.2.1; have HX0 := Lib.hid hx0; have HX1 := Lib.hid hx1; have HX2 := Lib.hid hx2; have r0 := (HX0.out).c0; have r1 := (HX0.out).c1; have r2 := (HX0.out).c2; have r3 := (HX0.out).c3; have r4 := (HX0.out).c4; have r5 := (HX0.out).c5; have r6 := (HX0.out).c6; have s0 := (HX1.out).c0; have s1 := (HX1.out).c1; have s2 := (HX1.out).c2; have s3 := (HX1.out).c3; have s4 := (HX1.out).c4; have s5 := (HX1.out).c5; have s6 := (HX1.out).c6; clear hb hx0 hx1 hx2)
    | (go_at_call 21; (with_reducible refine (C1.out _).mono ?_); rintro e1 w2 ⟨rfl, hb⟩; have HB2 := Lib.hid (ujoin HB1.out hb); have HY0 := Lib.hid (HX0.out.below hb); have HY1 := Lib.hid (HX1.out.below hb); have HY2 := Lib.hid (HX2.out.below hb); clear r0 r1 r2 r3 r4 r5 r6 s0 s1 s2 s3 s4 s5 s6; have s0 := fun o => (BoxW.alloc (HY1.out) o).c0; have s1 := fun o => (BoxW.alloc (HY1.out) o).c1; have s2 := fun o => (BoxW.alloc (HY1.out) o).c2; have s3 := fun o => (BoxW.alloc (HY1.out) o).c3; have s4 := fun o => (BoxW.alloc (HY1.out) o).c4; have s5 := fun o => (BoxW.alloc (HY1.out) o).c5; have s6 := fun o => (BoxW.alloc (HY1.out) o).c6; have t0 := fun o => (BoxW.alloc (HY2.out) o).c0; have t1 := fun o => (BoxW.alloc (HY2.out) o).c1; have t2 := fun o => (BoxW.alloc (HY2.out) o).c2; have t3 := fun o => (BoxW.alloc (HY2.out) o).c3; have t4 := fun o => (BoxW.alloc (HY2.out) o).c4; have t5 := fun o => (BoxW.alloc (HY2.out) o).c5; have t6 := fun o => (BoxW.alloc (HY2.out) o).c6; clear hb)
    | (go_at_call 21; (with_reducible refine (C2.out _).mono ?_); rintro e1 w3 ⟨rfl, hb⟩; have HM : Hid (TnW w w2.heap.size w3.heap.size r s t aT bT (w3.alloc (.cells #[.int .i64 bT.A, .int .i64 bT.B, .int .i64 bT.C, .int .i64 bT.D, .int .i64 bT.E, .int .i64 bT.F, .int .i64 bT.Q] 32))) := (show TnW _ _ _ _ _ _ _ _ _ from (have hb2 := ujoin (wal w2 (.cells #[.int .i64 aT.A, .int .i64 aT.B, .int .i64 aT.C, .int .i64 aT.D, .int .i64 aT.E, .int .i64 aT.F, .int .i64 aT.Q] 32)) hb; have hc := wal w3 (.cells #[.int .i64 bT.A, .int .i64 bT.B, .int .i64 bT.C, .int .i64 bT.D, .int .i64 bT.E, .int .i64 bT.F, .int .i64 bT.Q] 32); ⟨⟨ujoin (ujoin HB2.out hb2) hc, (HY2.out.below hb2).below hc⟩, (HY0.out.below hb2).below hc, (HY1.out.below hb2).below hc, ((BoxW.new w2 aT).below hb).below hc, BoxW.new w3 bT⟩)); clear hb))
  generalize w2.heap.size = b7 at HM ⊢
  generalize w3.heap.size = b9 at HM ⊢
  generalize w3.alloc (.cells #[.int .i64 bT.A, .int .i64 bT.B, .int .i64 bT.C, .int .i64 bT.D, .int .i64 bT.E, .int .i64 bT.F, .int .i64 bT.Q] 32) = W4 at HM ⊢
  clear C1 C2 HKN HX HXB HX0 HX1 HX2 HB1 HB2 HY0 HY1 HY2
  clear s0 s1 s2 s3 s4 s5 s6 t0 t1 t2 t3 t4 t5 t6
  go_cut [43] (fun v43 wc => ∃ g : Bool, v43 = .bool g ∧ Hid (g = true ↔ (eT = 0 ∧ fT = 0)) ∧ W4 = wc)
  case first =>
    by_cases he : eT = 0
    · have he1 : (eT == 0) = true := by rw [he]; rfl
      by_cases hf : fT = 0
      · have hf1 : (fT == 0) = true := by rw [hf]; rfl
        have HG : Hid (eT = 0 ∧ fT = 0) := (show _ ∧ _ from ⟨he, hf⟩)
        clear he hf
        go_wp2
        go_meet
        case rel => exact ⟨true, rfl, (show _ ↔ _ from ⟨fun _ => HG.out, fun _ => rfl⟩), rfl⟩
      · have hf1 : (fT == 0) = false := by rw [beq_eq_false_iff_ne]; exact hf
        have HG : Hid (false = true ↔ (eT = 0 ∧ fT = 0)) := (show _ ↔ _ from ⟨(fun h => by cases h), fun h => absurd h.2 hf⟩)
        clear he hf
        go_wp2
        go_meet
        case rel => exact ⟨false, rfl, HG, rfl⟩
    · have he1 : (eT == 0) = false := by rw [beq_eq_false_iff_ne]; exact he
      have HG : Hid (false = true ↔ (eT = 0 ∧ fT = 0)) := (show _ ↔ _ from ⟨(fun h => by cases h), fun h => absurd h.1 he⟩)
      clear he
      go_wp2
      go_meet
      case rel => exact ⟨false, rfl, HG, rfl⟩
  case rest =>
    obtain ⟨g, rfl, HG, rfl⟩ := hcut
    go_upto_if 43 with (fail)
    go_cut [8] (fun v8 wc => (∃ z, v8 = .int .i64 z) ∧ ∃ W, W = wc ∧ Hid (TnT w t W))
    case first =>
      cases g with
      | false =>
        go_wp2
        go_meet
        case rel => exact ⟨⟨_, rfl⟩, _, rfl, HM.out.tt⟩
      | true =>
        obtain ⟨he, hf⟩ := HG.out.1 rfl
        subst he
        subst hf
        clear HG
        have a0 := (HM.out.ba).c0
        have a1 := (HM.out.ba).c1
        have a2 := (HM.out.ba).c2
        have a3 := (HM.out.ba).c3
        have a4 := (HM.out.ba).c4
        have a5 := (HM.out.ba).c5
        have a6 := (HM.out.ba).c6
        have t0 := (HM.out.tt.bt).c0
        have t1 := (HM.out.tt.bt).c1
        have t2 := (HM.out.tt.bt).c2
        have t3 := (HM.out.tt.bt).c3
        have t4 := (HM.out.tt.bt).c4
        have t5 := (HM.out.tt.bt).c5
        have t6 := (HM.out.tt.bt).c6
        by_cases hg : gT = 0
        · subst hg
          by_cases hh : kT = 0
          · subst hh
            have hcd := HAS.out rfl rfl rfl rfl
            subst hcd
            clear HAS
            go_wp2_with (first
              | (go_at_call 21; (with_reducible refine (C3.out _).mono ?_); rintro e1 w5 ⟨rfl, hb⟩; have HM5 := Lib.hid (HM.out.below hb); clear a0 a1 a2 a3 a4 a5 a6 t0 t1 t2 t3 t4 t5 t6; have r0 := fun o => (BoxW.alloc (HM5.out.br) o).c0; have r1 := fun o => (BoxW.alloc (HM5.out.br) o).c1; have r2 := fun o => (BoxW.alloc (HM5.out.br) o).c2; have r3 := fun o => (BoxW.alloc (HM5.out.br) o).c3; have r4 := fun o => (BoxW.alloc (HM5.out.br) o).c4; have r5 := fun o => (BoxW.alloc (HM5.out.br) o).c5; have r6 := fun o => (BoxW.alloc (HM5.out.br) o).c6; have b0 := fun o => (BoxW.alloc (HM5.out.bb) o).c0; have b1 := fun o => (BoxW.alloc (HM5.out.bb) o).c1; have b2 := fun o => (BoxW.alloc (HM5.out.bb) o).c2; have b3 := fun o => (BoxW.alloc (HM5.out.bb) o).c3; have b4 := fun o => (BoxW.alloc (HM5.out.bb) o).c4; have b5 := fun o => (BoxW.alloc (HM5.out.bb) o).c5; have b6 := fun o => (BoxW.alloc (HM5.out.bb) o).c6; clear hb)
              | (go_at_call 21; (with_reducible refine (C4.out _).mono ?_); rintro e1 w6 ⟨rfl, hb⟩; have HM6 := Lib.hid ((HM5.out.below (wal _ (.cells #[.int .i64 cT.A, .int .i64 cT.B, .int .i64 cT.C, .int .i64 cT.D, .int .i64 cT.E, .int .i64 cT.F, .int .i64 cT.Q] 32))).below hb); have HC6 := Lib.hid ((BoxW.new w5 cT).below hb); clear r0 r1 r2 r3 r4 r5 r6 b0 b1 b2 b3 b4 b5 b6; have c0 := fun o => (BoxW.alloc (HC6.out) o).c0; have c1 := fun o => (BoxW.alloc (HC6.out) o).c1; have c2 := fun o => (BoxW.alloc (HC6.out) o).c2; have c3 := fun o => (BoxW.alloc (HC6.out) o).c3; have c4 := fun o => (BoxW.alloc (HC6.out) o).c4; have c5 := fun o => (BoxW.alloc (HC6.out) o).c5; have c6 := fun o => (BoxW.alloc (HC6.out) o).c6; clear hb))
            go_meet
            case rel => exact ⟨⟨_, rfl⟩, _, rfl, (HM6.out.below (wal _ _)).tt⟩
          · have hb4 : (kT == 0) = false := by rw [beq_eq_false_iff_ne]; exact hh
            clear HAS hh
            go_wp2_with (first
              | (go_at_call 21; (with_reducible refine (C3.out _).mono ?_); rintro e1 w5 ⟨rfl, hb⟩; have HM5 := Lib.hid (HM.out.below hb); clear a0 a1 a2 a3 a4 a5 a6 t0 t1 t2 t3 t4 t5 t6; have r0 := fun o => (BoxW.alloc (HM5.out.br) o).c0; have r1 := fun o => (BoxW.alloc (HM5.out.br) o).c1; have r2 := fun o => (BoxW.alloc (HM5.out.br) o).c2; have r3 := fun o => (BoxW.alloc (HM5.out.br) o).c3; have r4 := fun o => (BoxW.alloc (HM5.out.br) o).c4; have r5 := fun o => (BoxW.alloc (HM5.out.br) o).c5; have r6 := fun o => (BoxW.alloc (HM5.out.br) o).c6; have b0 := fun o => (BoxW.alloc (HM5.out.bb) o).c0; have b1 := fun o => (BoxW.alloc (HM5.out.bb) o).c1; have b2 := fun o => (BoxW.alloc (HM5.out.bb) o).c2; have b3 := fun o => (BoxW.alloc (HM5.out.bb) o).c3; have b4 := fun o => (BoxW.alloc (HM5.out.bb) o).c4; have b5 := fun o => (BoxW.alloc (HM5.out.bb) o).c5; have b6 := fun o => (BoxW.alloc (HM5.out.bb) o).c6; clear hb)
              | (go_at_call 21; (with_reducible refine (C4.out _).mono ?_); rintro e1 w6 ⟨rfl, hb⟩; have HM6 := Lib.hid ((HM5.out.below (wal _ (.cells #[.int .i64 cT.A, .int .i64 cT.B, .int .i64 cT.C, .int .i64 cT.D, .int .i64 cT.E, .int .i64 cT.F, .int .i64 cT.Q] 32))).below hb); have HC6 := Lib.hid ((BoxW.new w5 cT).below hb); clear r0 r1 r2 r3 r4 r5 r6 b0 b1 b2 b3 b4 b5 b6; have c0 := fun o => (BoxW.alloc (HC6.out) o).c0; have c1 := fun o => (BoxW.alloc (HC6.out) o).c1; have c2 := fun o => (BoxW.alloc (HC6.out) o).c2; have c3 := fun o => (BoxW.alloc (HC6.out) o).c3; have c4 := fun o => (BoxW.alloc (HC6.out) o).c4; have c5 := fun o => (BoxW.alloc (HC6.out) o).c5; have c6 := fun o => (BoxW.alloc (HC6.out) o).c6; clear hb))
            go_meet
            case rel => exact ⟨⟨_, rfl⟩, _, rfl, (HM6.out.below (wal _ _)).tt⟩
        · have hb3 : (gT == 0) = false := by rw [beq_eq_false_iff_ne]; exact hg
          clear HAS hg
          go_wp2_with (first
            | (go_at_call 21; (with_reducible refine (C3.out _).mono ?_); rintro e1 w5 ⟨rfl, hb⟩; have HM5 := Lib.hid (HM.out.below hb); clear a0 a1 a2 a3 a4 a5 a6 t0 t1 t2 t3 t4 t5 t6; have r0 := fun o => (BoxW.alloc (HM5.out.br) o).c0; have r1 := fun o => (BoxW.alloc (HM5.out.br) o).c1; have r2 := fun o => (BoxW.alloc (HM5.out.br) o).c2; have r3 := fun o => (BoxW.alloc (HM5.out.br) o).c3; have r4 := fun o => (BoxW.alloc (HM5.out.br) o).c4; have r5 := fun o => (BoxW.alloc (HM5.out.br) o).c5; have r6 := fun o => (BoxW.alloc (HM5.out.br) o).c6; have b0 := fun o => (BoxW.alloc (HM5.out.bb) o).c0; have b1 := fun o => (BoxW.alloc (HM5.out.bb) o).c1; have b2 := fun o => (BoxW.alloc (HM5.out.bb) o).c2; have b3 := fun o => (BoxW.alloc (HM5.out.bb) o).c3; have b4 := fun o => (BoxW.alloc (HM5.out.bb) o).c4; have b5 := fun o => (BoxW.alloc (HM5.out.bb) o).c5; have b6 := fun o => (BoxW.alloc (HM5.out.bb) o).c6; clear hb)
            | (go_at_call 21; (with_reducible refine (C4.out _).mono ?_); rintro e1 w6 ⟨rfl, hb⟩; have HM6 := Lib.hid ((HM5.out.below (wal _ (.cells #[.int .i64 cT.A, .int .i64 cT.B, .int .i64 cT.C, .int .i64 cT.D, .int .i64 cT.E, .int .i64 cT.F, .int .i64 cT.Q] 32))).below hb); have HC6 := Lib.hid ((BoxW.new w5 cT).below hb); clear r0 r1 r2 r3 r4 r5 r6 b0 b1 b2 b3 b4 b5 b6; have c0 := fun o => (BoxW.alloc (HC6.out) o).c0; have c1 := fun o => (BoxW.alloc (HC6.out) o).c1; have c2 := fun o => (BoxW.alloc (HC6.out) o).c2; have c3 := fun o => (BoxW.alloc (HC6.out) o).c3; have c4 := fun o => (BoxW.alloc (HC6.out) o).c4; have c5 := fun o => (BoxW.alloc (HC6.out) o).c5; have c6 := fun o => (BoxW.alloc (HC6.out) o).c6; clear hb))
          go_meet
          case rel => exact ⟨⟨_, rfl⟩, _, rfl, (HM6.out.below (wal _ _)).tt⟩
    case rest =>
      obtain ⟨⟨z8, rfl⟩, W8, rfl, HT8⟩ := hcut
      clear HM HAS C3 C4 HG
      have t0 := (HT8.out.bt).c0
      have t1 := (HT8.out.bt).c1
      have t2 := (HT8.out.bt).c2
      have t3 := (HT8.out.bt).c3
      have t4 := (HT8.out.bt).c4
      have t5 := (HT8.out.bt).c5
      have t6 := (HT8.out.bt).c6
      by_cases hok : wpOk t = true
      · skip
        obtain ⟨uT, fB, h5⟩ : ∃ a e, backW t = (a, e) := ⟨_, _, rfl⟩
        obtain ⟨nT, h6⟩ : ∃ a, normW t = (a, 0) := ⟨lowW t, if_pos hok⟩
        have CN : Hid (∀ W, Calls Try.prog 17 #[.agg #[.int .i64 t.A, .int .i64 t.B, .int .i64 t.C, .int .i64 t.D, .int .i64 t.E, .int .i64 t.F, .int .i64 t.Q]] W fun e w' => e = .returned (.tuple #[.agg #[.int .i64 nT.A, .int .i64 nT.B, .int .i64 nT.C, .int .i64 nT.D, .int .i64 nT.E, .int .i64 nT.F, .int .i64 nT.Q], .int .i64 0]) ∧ Below W.heap.size W w') := (show ∀ W, _ from fun W => (normal_calls W t).mono fun e w' h => ⟨by rw [h.1, wtV_of h6], h.2⟩)
        have CB : Hid (∀ W, Calls Try.prog 23 #[.agg #[.int .i64 t.A, .int .i64 t.B, .int .i64 t.C, .int .i64 t.D, .int .i64 t.E, .int .i64 t.F, .int .i64 t.Q]] W fun e w' => e = .returned (.tuple #[.agg #[.int .i64 uT.A, .int .i64 uT.B, .int .i64 uT.C, .int .i64 uT.D, .int .i64 uT.E, .int .i64 uT.F, .int .i64 uT.Q], .int .i64 fB]) ∧ Below W.heap.size W w') := (show ∀ W, _ from fun W => (back_calls W t).mono fun e w' h => ⟨by rw [h.1, wtV_of h5], h.2⟩)
        by_cases hfb : fB = 0
        · skip
          subst hfb
          obtain ⟨vT, gB, h7⟩ : ∃ a e, backW uT = (a, e) := ⟨_, _, rfl⟩
          have hBB : Hid (gB = 0 → vT = nT) := (show _ → _ from fun e => by
            have := (back_back (t := t) (by rw [h5]) (by rw [h5]; show (backW uT).2 = 0; rw [h7]; exact e)).1
            rw [h5, h6] at this
            have t2 : (backW uT).1 = nT := this
            rw [h7] at t2
            exact t2)
          have hNo := then_none (t := t) (by rw [h5])
          rw [h5] at hNo
          have h8 : thenW t uT = (wpOne, 0) := hNo.1
          have h9 : thenW uT t = (wpOne, 0) := hNo.2
          have CV : Hid (∀ W, Calls Try.prog 23 #[.agg #[.int .i64 uT.A, .int .i64 uT.B, .int .i64 uT.C, .int .i64 uT.D, .int .i64 uT.E, .int .i64 uT.F, .int .i64 uT.Q]] W fun e w' => e = .returned (.tuple #[.agg #[.int .i64 vT.A, .int .i64 vT.B, .int .i64 vT.C, .int .i64 vT.D, .int .i64 vT.E, .int .i64 vT.F, .int .i64 vT.Q], .int .i64 gB]) ∧ Below W.heap.size W w') := (show ∀ W, _ from fun W => (back_calls W uT).mono fun e w' h => ⟨by rw [h.1, wtV_of h7], h.2⟩)
          have CX : Hid (∀ W, Calls Try.prog 21 #[.agg #[.int .i64 t.A, .int .i64 t.B, .int .i64 t.C, .int .i64 t.D, .int .i64 t.E, .int .i64 t.F, .int .i64 t.Q], .agg #[.int .i64 uT.A, .int .i64 uT.B, .int .i64 uT.C, .int .i64 uT.D, .int .i64 uT.E, .int .i64 uT.F, .int .i64 uT.Q]] W fun e w' => e = .returned (.tuple #[.agg #[.int .i64 1, .int .i64 0, .int .i64 0, .int .i64 0, .int .i64 1, .int .i64 0, .int .i64 1], .int .i64 0]) ∧ Below W.heap.size W w') := (show ∀ W, _ from fun W => (then_calls W t uT).mono fun e w' h => ⟨by rw [h.1, wtV_of h8]; rfl, h.2⟩)
          have CY : Hid (∀ W, Calls Try.prog 21 #[.agg #[.int .i64 uT.A, .int .i64 uT.B, .int .i64 uT.C, .int .i64 uT.D, .int .i64 uT.E, .int .i64 uT.F, .int .i64 uT.Q], .agg #[.int .i64 t.A, .int .i64 t.B, .int .i64 t.C, .int .i64 t.D, .int .i64 t.E, .int .i64 t.F, .int .i64 t.Q]] W fun e w' => e = .returned (.tuple #[.agg #[.int .i64 1, .int .i64 0, .int .i64 0, .int .i64 0, .int .i64 1, .int .i64 0, .int .i64 1], .int .i64 0]) ∧ Below W.heap.size W w') := (show ∀ W, _ from fun W => (then_calls W uT t).mono fun e w' h => ⟨by rw [h.1, wtV_of h9]; rfl, h.2⟩)
          clear h5 h6 h7 h8 h9 hNo
          go_upto_region 14 with (first
            | (go_at_call 17; (with_reducible refine (CN.out _).mono ?_); rintro e1 w9 ⟨rfl, hb⟩; have HT9 := Lib.hid (HT8.out.below hb); clear t0 t1 t2 t3 t4 t5 t6; have t0 := fun o => (BoxW.alloc (HT9.out.bt) o).c0; have t1 := fun o => (BoxW.alloc (HT9.out.bt) o).c1; have t2 := fun o => (BoxW.alloc (HT9.out.bt) o).c2; have t3 := fun o => (BoxW.alloc (HT9.out.bt) o).c3; have t4 := fun o => (BoxW.alloc (HT9.out.bt) o).c4; have t5 := fun o => (BoxW.alloc (HT9.out.bt) o).c5; have t6 := fun o => (BoxW.alloc (HT9.out.bt) o).c6; clear hb)
            | (go_at_call 23; (with_reducible refine (CB.out _).mono ?_); rintro e1 w10 ⟨rfl, hb⟩; have HN10 := Lib.hid ((BoxW.new w9 nT).below hb); have HT10 := Lib.hid ((HT9.out.below (wal w9 (.cells #[.int .i64 nT.A, .int .i64 nT.B, .int .i64 nT.C, .int .i64 nT.D, .int .i64 nT.E, .int .i64 nT.F, .int .i64 nT.Q] 32))).below hb); clear hb))
          clear CN CB t0 t1 t2 t3 t4 t5 t6
          have HU : Hid (BoxW (w10.alloc (.cells #[.int .i64 uT.A, .int .i64 uT.B, .int .i64 uT.C, .int .i64 uT.D, .int .i64 uT.E, .int .i64 uT.F, .int .i64 uT.Q] 32)) w10.heap.size uT) := (show BoxW _ _ _ from BoxW.new w10 uT)
          have HN : Hid (BoxW (w10.alloc (.cells #[.int .i64 uT.A, .int .i64 uT.B, .int .i64 uT.C, .int .i64 uT.D, .int .i64 uT.E, .int .i64 uT.F, .int .i64 uT.Q] 32)) w9.heap.size nT) := (show BoxW _ _ _ from HN10.out.alloc _)
          have HT := Lib.hid (HT10.out.below (wal w10 (.cells #[.int .i64 uT.A, .int .i64 uT.B, .int .i64 uT.C, .int .i64 uT.D, .int .i64 uT.E, .int .i64 uT.F, .int .i64 uT.Q] 32)))
          generalize w10.heap.size = b16 at HU ⊢
          generalize w9.heap.size = b15 at HN ⊢
          generalize w10.alloc (.cells #[.int .i64 uT.A, .int .i64 uT.B, .int .i64 uT.C, .int .i64 uT.D, .int .i64 uT.E, .int .i64 uT.F, .int .i64 uT.Q] 32) = W10 at HU HN HT ⊢
          clear HN10 HT10 HT9 HT8
          have u0 := (HU.out).c0
          have u1 := (HU.out).c1
          have u2 := (HU.out).c2
          have u3 := (HU.out).c3
          have u4 := (HU.out).c4
          have u5 := (HU.out).c5
          have u6 := (HU.out).c6
          go_upto_region 16 with (go_at_call 23; (with_reducible refine (CV.out _).mono ?_); rintro e1 w11 ⟨rfl, hb⟩; have HU11 := Lib.hid (HU.out.below hb); have HN11 := Lib.hid (HN.out.below hb); have HT11 := Lib.hid (HT.out.below hb); clear u0 u1 u2 u3 u4 u5 u6; clear hb)
          have HVb : Hid (BoxW ((w11.alloc (.cells #[.int .i64 vT.A, .int .i64 vT.B, .int .i64 vT.C, .int .i64 vT.D, .int .i64 vT.E, .int .i64 vT.F, .int .i64 vT.Q] 32)).alloc (.cells #[.int .i64 1, .int .i64 0, .int .i64 0, .int .i64 0, .int .i64 1, .int .i64 0, .int .i64 1] 32)) w11.heap.size vT) := (show BoxW _ _ _ from (BoxW.new w11 vT).alloc _)
          have HOb : Hid (BoxW ((w11.alloc (.cells #[.int .i64 vT.A, .int .i64 vT.B, .int .i64 vT.C, .int .i64 vT.D, .int .i64 vT.E, .int .i64 vT.F, .int .i64 vT.Q] 32)).alloc (.cells #[.int .i64 1, .int .i64 0, .int .i64 0, .int .i64 0, .int .i64 1, .int .i64 0, .int .i64 1] 32)) (w11.heap.size + 1) wpOne) := (show BoxW _ _ _ from by have := BoxW.new (w11.alloc (.cells #[.int .i64 vT.A, .int .i64 vT.B, .int .i64 vT.C, .int .i64 vT.D, .int .i64 vT.E, .int .i64 vT.F, .int .i64 vT.Q] 32)) wpOne; rw [World.size_alloc] at this; exact this)
          have hAA := ujoin (wal w11 (.cells #[.int .i64 vT.A, .int .i64 vT.B, .int .i64 vT.C, .int .i64 vT.D, .int .i64 vT.E, .int .i64 vT.F, .int .i64 vT.Q] 32)) (wal _ (.cells #[.int .i64 1, .int .i64 0, .int .i64 0, .int .i64 0, .int .i64 1, .int .i64 0, .int .i64 1] 32))
          have HU12 := Lib.hid (HU11.out.below hAA)
          have HN12 := Lib.hid (HN11.out.below hAA)
          have HT12 := Lib.hid (HT11.out.below hAA)
          clear hAA HU11 HN11 HT11 HU HN HT CV
          generalize w11.heap.size = b17 at HVb HOb ⊢
          generalize (w11.alloc (.cells #[.int .i64 vT.A, .int .i64 vT.B, .int .i64 vT.C, .int .i64 vT.D, .int .i64 vT.E, .int .i64 vT.F, .int .i64 vT.Q] 32)).alloc (.cells #[.int .i64 1, .int .i64 0, .int .i64 0, .int .i64 0, .int .i64 1, .int .i64 0, .int .i64 1] 32) = W12 at HVb HOb HU12 HN12 HT12 ⊢
          have t0 := (HT12.out.bt).c0
          have t1 := (HT12.out.bt).c1
          have t2 := (HT12.out.bt).c2
          have t3 := (HT12.out.bt).c3
          have t4 := (HT12.out.bt).c4
          have t5 := (HT12.out.bt).c5
          have t6 := (HT12.out.bt).c6
          have u0 := (HU12.out).c0
          have u1 := (HU12.out).c1
          have u2 := (HU12.out).c2
          have u3 := (HU12.out).c3
          have u4 := (HU12.out).c4
          have u5 := (HU12.out).c5
          have u6 := (HU12.out).c6
          go_upto_region 18 with (first
            | (go_at_call 21; (with_reducible refine (CX.out _).mono ?_); rintro e1 w13 ⟨rfl, hb⟩; have HV13 := Lib.hid (HVb.out.below hb); have HO13 := Lib.hid (HOb.out.below hb); have HU13 := Lib.hid (HU12.out.below hb); have HN13 := Lib.hid (HN12.out.below hb); have HT13 := Lib.hid (HT12.out.below hb); clear t0 t1 t2 t3 t4 t5 t6 u0 u1 u2 u3 u4 u5 u6; have t0 := fun o => (BoxW.alloc (HT13.out.bt) o).c0; have t1 := fun o => (BoxW.alloc (HT13.out.bt) o).c1; have t2 := fun o => (BoxW.alloc (HT13.out.bt) o).c2; have t3 := fun o => (BoxW.alloc (HT13.out.bt) o).c3; have t4 := fun o => (BoxW.alloc (HT13.out.bt) o).c4; have t5 := fun o => (BoxW.alloc (HT13.out.bt) o).c5; have t6 := fun o => (BoxW.alloc (HT13.out.bt) o).c6; have u0 := fun o => (BoxW.alloc (HU13.out) o).c0; have u1 := fun o => (BoxW.alloc (HU13.out) o).c1; have u2 := fun o => (BoxW.alloc (HU13.out) o).c2; have u3 := fun o => (BoxW.alloc (HU13.out) o).c3; have u4 := fun o => (BoxW.alloc (HU13.out) o).c4; have u5 := fun o => (BoxW.alloc (HU13.out) o).c5; have u6 := fun o => (BoxW.alloc (HU13.out) o).c6; clear hb)
            | (go_at_call 21; (with_reducible refine (CY.out _).mono ?_); rintro e1 w14 ⟨rfl, hb0⟩; have hb := wbelow_of_alloc hb0; have HV14 := Lib.hid (HV13.out.below hb); have HO14 := Lib.hid (HO13.out.below hb); have HN14 := Lib.hid (HN13.out.below hb); have HT14 := Lib.hid (HT13.out.below hb); have HX14 := Lib.hid ((BoxW.new w13 wpOne).below hb0); clear t0 t1 t2 t3 t4 t5 t6 u0 u1 u2 u3 u4 u5 u6; clear hb hb0))
          have v0 := fun o => (BoxW.alloc (HV14.out) o).c0
          have v1 := fun o => (BoxW.alloc (HV14.out) o).c1
          have v2 := fun o => (BoxW.alloc (HV14.out) o).c2
          have v3 := fun o => (BoxW.alloc (HV14.out) o).c3
          have v4 := fun o => (BoxW.alloc (HV14.out) o).c4
          have v5 := fun o => (BoxW.alloc (HV14.out) o).c5
          have v6 := fun o => (BoxW.alloc (HV14.out) o).c6
          have n0 := fun o => (BoxW.alloc (HN14.out) o).c0
          have n1 := fun o => (BoxW.alloc (HN14.out) o).c1
          have n2 := fun o => (BoxW.alloc (HN14.out) o).c2
          have n3 := fun o => (BoxW.alloc (HN14.out) o).c3
          have n4 := fun o => (BoxW.alloc (HN14.out) o).c4
          have n5 := fun o => (BoxW.alloc (HN14.out) o).c5
          have n6 := fun o => (BoxW.alloc (HN14.out) o).c6
          have o0 := fun o => (BoxW.alloc (HO14.out) o).c0
          have o1 := fun o => (BoxW.alloc (HO14.out) o).c1
          have o2 := fun o => (BoxW.alloc (HO14.out) o).c2
          have o3 := fun o => (BoxW.alloc (HO14.out) o).c3
          have o4 := fun o => (BoxW.alloc (HO14.out) o).c4
          have o5 := fun o => (BoxW.alloc (HO14.out) o).c5
          have o6 := fun o => (BoxW.alloc (HO14.out) o).c6
          have x0 := fun o => (BoxW.alloc (HX14.out) o).c0
          have x1 := fun o => (BoxW.alloc (HX14.out) o).c1
          have x2 := fun o => (BoxW.alloc (HX14.out) o).c2
          have x3 := fun o => (BoxW.alloc (HX14.out) o).c3
          have x4 := fun o => (BoxW.alloc (HX14.out) o).c4
          have x5 := fun o => (BoxW.alloc (HX14.out) o).c5
          have x6 := fun o => (BoxW.alloc (HX14.out) o).c6
          dsimp only [wpOne] at o0 o1 o2 o3 o4 o5 o6 x0 x1 x2 x3 x4 x5 x6
          by_cases hgb : gB = 0
          · have hvn := hBB.out hgb
            subst hvn
            subst hgb
            clear hBB
            go_wp2
            go_ret
            exact ⟨rfl, (HT14.out.below (wal _ _)).be⟩
          · have hb5 : (gB != 0) = true := by rw [bne_iff_ne]; exact hgb
            clear hBB hgb
            go_wp2
            go_ret
            exact ⟨rfl, (HT14.out.below (wal _ _)).be⟩
        · have hb6 : (fB != 0) = true := by rw [bne_iff_ne]; exact hfb
          clear h5 h6 hfb
          go_wp2_with (first
            | (go_at_call 17; (with_reducible refine (CN.out _).mono ?_); rintro e1 w9 ⟨rfl, hb⟩; have HT9 := Lib.hid (HT8.out.below hb); clear t0 t1 t2 t3 t4 t5 t6; have t0 := fun o => (BoxW.alloc (HT9.out.bt) o).c0; have t1 := fun o => (BoxW.alloc (HT9.out.bt) o).c1; have t2 := fun o => (BoxW.alloc (HT9.out.bt) o).c2; have t3 := fun o => (BoxW.alloc (HT9.out.bt) o).c3; have t4 := fun o => (BoxW.alloc (HT9.out.bt) o).c4; have t5 := fun o => (BoxW.alloc (HT9.out.bt) o).c5; have t6 := fun o => (BoxW.alloc (HT9.out.bt) o).c6; clear hb)
            | (go_at_call 23; (with_reducible refine (CB.out _).mono ?_); rintro e1 w10 ⟨rfl, hb⟩; have HN10 := Lib.hid ((BoxW.new w9 nT).below hb); have HT10 := Lib.hid ((HT9.out.below (wal w9 (.cells #[.int .i64 nT.A, .int .i64 nT.B, .int .i64 nT.C, .int .i64 nT.D, .int .i64 nT.E, .int .i64 nT.F, .int .i64 nT.Q] 32))).below hb); clear hb))
          go_ret
          exact ⟨rfl, (HT10.out.below (wal _ _)).be⟩
      · skip
        have hok2 : wpOk t = false := by cases h : wpOk t <;> simp_all
        have h5 : backW t = (wpZ, 280) := if_neg hok
        have h6 : normW t = (wpZ, 280) := if_neg hok
        have CN : Hid (∀ W, Calls Try.prog 17 #[.agg #[.int .i64 t.A, .int .i64 t.B, .int .i64 t.C, .int .i64 t.D, .int .i64 t.E, .int .i64 t.F, .int .i64 t.Q]] W fun e w' => e = .returned (.tuple #[.agg #[.int .i64 0, .int .i64 0, .int .i64 0, .int .i64 0, .int .i64 0, .int .i64 0, .int .i64 0], .int .i64 280]) ∧ Below W.heap.size W w') := (show ∀ W, _ from fun W => (normal_calls W t).mono fun e w' h => ⟨by rw [h.1, h6]; rfl, h.2⟩)
        have CB : Hid (∀ W, Calls Try.prog 23 #[.agg #[.int .i64 t.A, .int .i64 t.B, .int .i64 t.C, .int .i64 t.D, .int .i64 t.E, .int .i64 t.F, .int .i64 t.Q]] W fun e w' => e = .returned (.tuple #[.agg #[.int .i64 0, .int .i64 0, .int .i64 0, .int .i64 0, .int .i64 0, .int .i64 0, .int .i64 0], .int .i64 280]) ∧ Below W.heap.size W w') := (show ∀ W, _ from fun W => (back_calls W t).mono fun e w' h => ⟨by rw [h.1, h5]; rfl, h.2⟩)
        clear h5 h6 hok hok2
        go_wp2_with (first
          | (go_at_call 17; (with_reducible refine (CN.out _).mono ?_); rintro e1 w9 ⟨rfl, hb⟩; have HT9 := Lib.hid (HT8.out.below hb); clear t0 t1 t2 t3 t4 t5 t6; have t0 := fun o => (BoxW.alloc (HT9.out.bt) o).c0; have t1 := fun o => (BoxW.alloc (HT9.out.bt) o).c1; have t2 := fun o => (BoxW.alloc (HT9.out.bt) o).c2; have t3 := fun o => (BoxW.alloc (HT9.out.bt) o).c3; have t4 := fun o => (BoxW.alloc (HT9.out.bt) o).c4; have t5 := fun o => (BoxW.alloc (HT9.out.bt) o).c5; have t6 := fun o => (BoxW.alloc (HT9.out.bt) o).c6; clear hb)
          | (go_at_call 23; (with_reducible refine (CB.out _).mono ?_); rintro e1 w10 ⟨rfl, hb⟩; have HT10 := Lib.hid (HT9.out.below (wbelow_of_alloc hb)); clear hb))
        go_ret
        exact ⟨rfl, (HT10.out.below (wal _ _)).be⟩
end Go.Proofs.Ytdcpeeolfgohmaa
