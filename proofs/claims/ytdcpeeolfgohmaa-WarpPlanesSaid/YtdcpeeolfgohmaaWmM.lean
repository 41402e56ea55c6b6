/- halidelaw28.WarpMaps: the walk. -/
import Derived.Test.YtdcpeeolfgohmaaWmKL
import Derived.Test.YtdcpeeolfgohmaaWmRS
namespace Go.Proofs.Ytdcpeeolfgohmaa
open Go.RowKit Go.Proofs.YtdcpeeolfgohmaaW.PrintWords
set_option linter.unusedSimpArgs false
set_option linter.unusedVariables false
attribute [local go_sem] Oper.semAt_some
attribute [local go_sem high] eqA_Warp

/-- A store of seven numbers into a box. -/
theorem st7 {W : World} {g : Nat} {t : TypeId} {x0 x1 x2 x3 x4 x5 x6 : Value} (h : W.heap[g]? = some (.cells #[x0, x1, x2, x3, x4, x5, x6] t (0, 0))) (y0 y1 y2 y3 y4 y5 y6 : Int) :
    W.cell? ⟨g, 0, none⟩ = some x0 ∧ W.frozen? ⟨g, 0, none⟩ = false ∧ (W.setCell ⟨g, 0, none⟩ (.int .i64 y0)).cell? ⟨g, 1, none⟩ = some x1 ∧ (W.setCell ⟨g, 0, none⟩ (.int .i64 y0)).frozen? ⟨g, 1, none⟩ = false ∧ ((W.setCell ⟨g, 0, none⟩ (.int .i64 y0)).setCell ⟨g, 1, none⟩ (.int .i64 y1)).cell? ⟨g, 2, none⟩ = some x2 ∧ ((W.setCell ⟨g, 0, none⟩ (.int .i64 y0)).setCell ⟨g, 1, none⟩ (.int .i64 y1)).frozen? ⟨g, 2, none⟩ = false ∧ (((W.setCell ⟨g, 0, none⟩ (.int .i64 y0)).setCell ⟨g, 1, none⟩ (.int .i64 y1)).setCell ⟨g, 2, none⟩ (.int .i64 y2)).cell? ⟨g, 3, none⟩ = some x3 ∧ (((W.setCell ⟨g, 0, none⟩ (.int .i64 y0)).setCell ⟨g, 1, none⟩ (.int .i64 y1)).setCell ⟨g, 2, none⟩ (.int .i64 y2)).frozen? ⟨g, 3, none⟩ = false ∧ ((((W.setCell ⟨g, 0, none⟩ (.int .i64 y0)).setCell ⟨g, 1, none⟩ (.int .i64 y1)).setCell ⟨g, 2, none⟩ (.int .i64 y2)).setCell ⟨g, 3, none⟩ (.int .i64 y3)).cell? ⟨g, 4, none⟩ = some x4 ∧ ((((W.setCell ⟨g, 0, none⟩ (.int .i64 y0)).setCell ⟨g, 1, none⟩ (.int .i64 y1)).setCell ⟨g, 2, none⟩ (.int .i64 y2)).setCell ⟨g, 3, none⟩ (.int .i64 y3)).frozen? ⟨g, 4, none⟩ = false ∧ (((((W.setCell ⟨g, 0, none⟩ (.int .i64 y0)).setCell ⟨g, 1, none⟩ (.int .i64 y1)).setCell ⟨g, 2, none⟩ (.int .i64 y2)).setCell ⟨g, 3, none⟩ (.int .i64 y3)).setCell ⟨g, 4, none⟩ (.int .i64 y4)).cell? ⟨g, 5, none⟩ = some x5 ∧ (((((W.setCell ⟨g, 0, none⟩ (.int .i64 y0)).setCell ⟨g, 1, none⟩ (.int .i64 y1)).setCell ⟨g, 2, none⟩ (.int .i64 y2)).setCell ⟨g, 3, none⟩ (.int .i64 y3)).setCell ⟨g, 4, none⟩ (.int .i64 y4)).frozen? ⟨g, 5, none⟩ = false ∧ ((((((W.setCell ⟨g, 0, none⟩ (.int .i64 y0)).setCell ⟨g, 1, none⟩ (.int .i64 y1)).setCell ⟨g, 2, none⟩ (.int .i64 y2)).setCell ⟨g, 3, none⟩ (.int .i64 y3)).setCell ⟨g, 4, none⟩ (.int .i64 y4)).setCell ⟨g, 5, none⟩ (.int .i64 y5)).cell? ⟨g, 6, none⟩ = some x6 ∧ ((((((W.setCell ⟨g, 0, none⟩ (.int .i64 y0)).setCell ⟨g, 1, none⟩ (.int .i64 y1)).setCell ⟨g, 2, none⟩ (.int .i64 y2)).setCell ⟨g, 3, none⟩ (.int .i64 y3)).setCell ⟨g, 4, none⟩ (.int .i64 y4)).setCell ⟨g, 5, none⟩ (.int .i64 y5)).frozen? ⟨g, 6, none⟩ = false ∧ (((((((W.setCell ⟨g, 0, none⟩ (.int .i64 y0)).setCell ⟨g, 1, none⟩ (.int .i64 y1)).setCell ⟨g, 2, none⟩ (.int .i64 y2)).setCell ⟨g, 3, none⟩ (.int .i64 y3)).setCell ⟨g, 4, none⟩ (.int .i64 y4)).setCell ⟨g, 5, none⟩ (.int .i64 y5)).setCell ⟨g, 6, none⟩ (.int .i64 y6)).heap[g]? = some (.cells #[.int .i64 y0, .int .i64 y1, .int .i64 y2, .int .i64 y3, .int .i64 y4, .int .i64 y5, .int .i64 y6] t (0, 0)) := by
  have q0 : (W.setCell ⟨g, 0, none⟩ (.int .i64 y0)).heap[g]? = some (.cells #[.int .i64 y0, x1, x2, x3, x4, x5, x6] t (0, 0)) := blk_put h 0 (.int .i64 y0) rfl
  have q1 : ((W.setCell ⟨g, 0, none⟩ (.int .i64 y0)).setCell ⟨g, 1, none⟩ (.int .i64 y1)).heap[g]? = some (.cells #[.int .i64 y0, .int .i64 y1, x2, x3, x4, x5, x6] t (0, 0)) := blk_put q0 1 (.int .i64 y1) rfl
  have q2 : (((W.setCell ⟨g, 0, none⟩ (.int .i64 y0)).setCell ⟨g, 1, none⟩ (.int .i64 y1)).setCell ⟨g, 2, none⟩ (.int .i64 y2)).heap[g]? = some (.cells #[.int .i64 y0, .int .i64 y1, .int .i64 y2, x3, x4, x5, x6] t (0, 0)) := blk_put q1 2 (.int .i64 y2) rfl
  have q3 : ((((W.setCell ⟨g, 0, none⟩ (.int .i64 y0)).setCell ⟨g, 1, none⟩ (.int .i64 y1)).setCell ⟨g, 2, none⟩ (.int .i64 y2)).setCell ⟨g, 3, none⟩ (.int .i64 y3)).heap[g]? = some (.cells #[.int .i64 y0, .int .i64 y1, .int .i64 y2, .int .i64 y3, x4, x5, x6] t (0, 0)) := blk_put q2 3 (.int .i64 y3) rfl
  have q4 : (((((W.setCell ⟨g, 0, none⟩ (.int .i64 y0)).setCell ⟨g, 1, none⟩ (.int .i64 y1)).setCell ⟨g, 2, none⟩ (.int .i64 y2)).setCell ⟨g, 3, none⟩ (.int .i64 y3)).setCell ⟨g, 4, none⟩ (.int .i64 y4)).heap[g]? = some (.cells #[.int .i64 y0, .int .i64 y1, .int .i64 y2, .int .i64 y3, .int .i64 y4, x5, x6] t (0, 0)) := blk_put q3 4 (.int .i64 y4) rfl
  have q5 : ((((((W.setCell ⟨g, 0, none⟩ (.int .i64 y0)).setCell ⟨g, 1, none⟩ (.int .i64 y1)).setCell ⟨g, 2, none⟩ (.int .i64 y2)).setCell ⟨g, 3, none⟩ (.int .i64 y3)).setCell ⟨g, 4, none⟩ (.int .i64 y4)).setCell ⟨g, 5, none⟩ (.int .i64 y5)).heap[g]? = some (.cells #[.int .i64 y0, .int .i64 y1, .int .i64 y2, .int .i64 y3, .int .i64 y4, .int .i64 y5, x6] t (0, 0)) := blk_put q4 5 (.int .i64 y5) rfl
  have q6 : (((((((W.setCell ⟨g, 0, none⟩ (.int .i64 y0)).setCell ⟨g, 1, none⟩ (.int .i64 y1)).setCell ⟨g, 2, none⟩ (.int .i64 y2)).setCell ⟨g, 3, none⟩ (.int .i64 y3)).setCell ⟨g, 4, none⟩ (.int .i64 y4)).setCell ⟨g, 5, none⟩ (.int .i64 y5)).setCell ⟨g, 6, none⟩ (.int .i64 y6)).heap[g]? = some (.cells #[.int .i64 y0, .int .i64 y1, .int .i64 y2, .int .i64 y3, .int .i64 y4, .int .i64 y5, .int .i64 y6] t (0, 0)) := blk_put q5 6 (.int .i64 y6) rfl
  exact ⟨ucell h 0, ufree h 0, ucell q0 1, ufree q0 1, ucell q1 2, ufree q1 2, ucell q2 3, ufree q2 3, ucell q3 4, ufree q3 4, ucell q4 5, ufree q4 5, ucell q5 6, ufree q5 6, q6⟩
theorem st7_far {W : World} {g : Nat} (y0 y1 y2 y3 y4 y5 y6 : Int) {k : Nat} (hk : k ≠ g) : (((((((W.setCell ⟨g, 0, none⟩ (.int .i64 y0)).setCell ⟨g, 1, none⟩ (.int .i64 y1)).setCell ⟨g, 2, none⟩ (.int .i64 y2)).setCell ⟨g, 3, none⟩ (.int .i64 y3)).setCell ⟨g, 4, none⟩ (.int .i64 y4)).setCell ⟨g, 5, none⟩ (.int .i64 y5)).setCell ⟨g, 6, none⟩ (.int .i64 y6)).heap[k]? = W.heap[k]? := by
  exact ((Below.heap_setCell _ ⟨g, 6, none⟩ _ _ hk).trans ((Below.heap_setCell _ ⟨g, 5, none⟩ _ _ hk).trans ((Below.heap_setCell _ ⟨g, 4, none⟩ _ _ hk).trans ((Below.heap_setCell _ ⟨g, 3, none⟩ _ _ hk).trans ((Below.heap_setCell _ ⟨g, 2, none⟩ _ _ hk).trans ((Below.heap_setCell _ ⟨g, 1, none⟩ _ _ hk).trans (Below.heap_setCell _ ⟨g, 0, none⟩ _ _ hk)))))))
theorem st7_below {w W : World} {g : Nat} (y0 y1 y2 y3 y4 y5 y6 : Int) (hb : Below w.heap.size w W) (hg : w.heap.size ≤ g) : Below w.heap.size w (((((((W.setCell ⟨g, 0, none⟩ (.int .i64 y0)).setCell ⟨g, 1, none⟩ (.int .i64 y1)).setCell ⟨g, 2, none⟩ (.int .i64 y2)).setCell ⟨g, 3, none⟩ (.int .i64 y3)).setCell ⟨g, 4, none⟩ (.int .i64 y4)).setCell ⟨g, 5, none⟩ (.int .i64 y5)).setCell ⟨g, 6, none⟩ (.int .i64 y6)) :=
  (((((((hb.setCell (p := ⟨g, 0, none⟩) hg _).setCell (p := ⟨g, 1, none⟩) hg _).setCell (p := ⟨g, 2, none⟩) hg _).setCell (p := ⟨g, 3, none⟩) hg _).setCell (p := ⟨g, 4, none⟩) hg _).setCell (p := ⟨g, 5, none⟩) hg _).setCell (p := ⟨g, 6, none⟩) hg _)
/-- A box that holds a warp. -/
def BoxW (W : World) (g : Nat) (t : Wp) : Prop := W.heap[g]? = some (.cells (wpC t) 32 (0, 0))
theorem BoxW.cells {W : World} {g : Nat} {t : Wp} (h : BoxW W g t) : W.cell? ⟨g, 0, none⟩ = some (.int .i64 t.A) ∧ W.cell? ⟨g, 1, none⟩ = some (.int .i64 t.B) ∧ W.cell? ⟨g, 2, none⟩ = some (.int .i64 t.C) ∧ W.cell? ⟨g, 3, none⟩ = some (.int .i64 t.D) ∧ W.cell? ⟨g, 4, none⟩ = some (.int .i64 t.E) ∧ W.cell? ⟨g, 5, none⟩ = some (.int .i64 t.F) ∧ W.cell? ⟨g, 6, none⟩ = some (.int .i64 t.Q) := wpC_cells h
theorem BoxW.below {W V : World} {g : Nat} {t : Wp} (h : BoxW W g t) (hb : Below W.heap.size W V) : BoxW V g t := (hb.block _ (heap_lt' h)).trans h
theorem BoxW.alloc {W : World} {g : Nat} {t : Wp} (h : BoxW W g t) (o : Obj) : BoxW (W.alloc o) g t := h.below ((Below.refl _ _).alloc (Nat.le_refl _) o)
theorem BoxW.new (W : World) (t : Wp) : BoxW (W.alloc (.cells #[.int .i64 t.A, .int .i64 t.B, .int .i64 t.C, .int .i64 t.D, .int .i64 t.E, .int .i64 t.F, .int .i64 t.Q] 32)) W.heap.size t := heap_alloc_new W _
/-- The law's boxes. -/
structure MpW (w : World) (b5 b7 : Nat) (s t a b : Wp) (W : World) : Prop where
  be : Below w.heap.size w W
  x0 : BoxW W w.heap.size s
  x1 : BoxW W (w.heap.size + 1) t
  x5 : BoxW W b5 a
  x7 : BoxW W b7 b
  h5 : w.heap.size + 1 < b5
  h7 : b5 < b7
theorem MpW.below {w : World} {b5 b7 : Nat} {s t a b : Wp} {W V : World} (h : MpW w b5 b7 s t a b W) (hb : Below W.heap.size W V) : MpW w b5 b7 s t a b V := ⟨ujoin h.be hb, h.x0.below hb, h.x1.below hb, h.x5.below hb, h.x7.below hb, h.h5, h.h7⟩
theorem MpW.put5 {w : World} {b5 b7 : Nat} {s t a b : Wp} {W : World} (h : MpW w b5 b7 s t a b W) (c : Wp) : MpW w b5 b7 s t c b (((((((W.setCell ⟨b5, 0, none⟩ (.int .i64 c.A)).setCell ⟨b5, 1, none⟩ (.int .i64 c.B)).setCell ⟨b5, 2, none⟩ (.int .i64 c.C)).setCell ⟨b5, 3, none⟩ (.int .i64 c.D)).setCell ⟨b5, 4, none⟩ (.int .i64 c.E)).setCell ⟨b5, 5, none⟩ (.int .i64 c.F)).setCell ⟨b5, 6, none⟩ (.int .i64 c.Q)) := by
  have h5 := h.h5
  have h7 := h.h7
  exact ⟨st7_below _ _ _ _ _ _ _ h.be (by omega), (st7_far _ _ _ _ _ _ _ (by omega)).trans h.x0, (st7_far _ _ _ _ _ _ _ (by omega)).trans h.x1, (st7 h.x5 c.A c.B c.C c.D c.E c.F c.Q).2.2.2.2.2.2.2.2.2.2.2.2.2.2, (st7_far _ _ _ _ _ _ _ (by omega)).trans h.x7, h.h5, h.h7⟩
theorem MpW.put7 {w : World} {b5 b7 : Nat} {s t a b : Wp} {W : World} (h : MpW w b5 b7 s t a b W) (c : Wp) : MpW w b5 b7 s t a c (((((((W.setCell ⟨b7, 0, none⟩ (.int .i64 c.A)).setCell ⟨b7, 1, none⟩ (.int .i64 c.B)).setCell ⟨b7, 2, none⟩ (.int .i64 c.C)).setCell ⟨b7, 3, none⟩ (.int .i64 c.D)).setCell ⟨b7, 4, none⟩ (.int .i64 c.E)).setCell ⟨b7, 5, none⟩ (.int .i64 c.F)).setCell ⟨b7, 6, none⟩ (.int .i64 c.Q)) := by
  have h5 := h.h5
  have h7 := h.h7
  exact ⟨st7_below _ _ _ _ _ _ _ h.be (by omega), (st7_far _ _ _ _ _ _ _ (by omega)).trans h.x0, (st7_far _ _ _ _ _ _ _ (by omega)).trans h.x1, (st7_far _ _ _ _ _ _ _ (by omega)).trans h.x5, (st7 h.x7 c.A c.B c.C c.D c.E c.F c.Q).2.2.2.2.2.2.2.2.2.2.2.2.2.2, h.h5, h.h7⟩
theorem wtV_of {x : Wp × Int} {a : Wp} {e : Int} (h : x = (a, e)) : wtV x = .tuple #[.agg #[.int .i64 a.A, .int .i64 a.B, .int .i64 a.C, .int .i64 a.D, .int .i64 a.E, .int .i64 a.F, .int .i64 a.Q], .int .i64 e] := by rw [h]; rfl
set_option maxHeartbeats 6400000 in
set_option maxRecDepth 100000 in
theorem lawMaps_calls (s t : Wp) (w : World) : Calls Try.prog 4 #[wpV s, wpV t] w fun e w' => WGives w (.bool true) e w' := by
  have HKN := Lib.hid fun W => known28_calls W
  obtain ⟨na, ne, en⟩ : ∃ na ne, normW t = (na, ne) := ⟨_, _, rfl⟩
  obtain ⟨ta, te, et⟩ : ∃ ta te, thenW s t = (ta, te) := ⟨_, _, rfl⟩
  obtain ⟨ba, be, eb⟩ : ∃ ba be, backW t = (ba, be) := ⟨_, _, rfl⟩
  obtain ⟨ce, ec⟩ : ∃ ce, wpErr t = ce := ⟨_, rfl⟩
  have HN : Hid (∀ W, Calls Try.prog 17 #[.agg #[.int .i64 t.A, .int .i64 t.B, .int .i64 t.C, .int .i64 t.D, .int .i64 t.E, .int .i64 t.F, .int .i64 t.Q]] W fun e w' => e = .returned (.tuple #[.agg #[.int .i64 na.A, .int .i64 na.B, .int .i64 na.C, .int .i64 na.D, .int .i64 na.E, .int .i64 na.F, .int .i64 na.Q], .int .i64 ne]) ∧ Below W.heap.size W w') := (show ∀ W, _ from fun W => (normal_calls W t).mono fun e w' h => ⟨by rw [h.1]; rw [wtV_of en], h.2⟩)
  have HRN : Hid (∀ W, Calls Try.prog 18 #[.agg #[.int .i64 t.A, .int .i64 t.B, .int .i64 t.C, .int .i64 t.D, .int .i64 t.E, .int .i64 t.F, .int .i64 t.Q]] W fun e w' => e = .returned (.tuple #[.agg #[.int .i64 na.A, .int .i64 na.B, .int .i64 na.C, .int .i64 na.D, .int .i64 na.E, .int .i64 na.F, .int .i64 na.Q], .int .i64 ne]) ∧ Below W.heap.size W w') := (show ∀ W, _ from fun W => (rnormal_calls W t).mono fun e w' h => ⟨by rw [h.1]; rw [wtV_of en], h.2⟩)
  have HC : Hid (∀ W, Calls Try.prog 19 #[.agg #[.int .i64 t.A, .int .i64 t.B, .int .i64 t.C, .int .i64 t.D, .int .i64 t.E, .int .i64 t.F, .int .i64 t.Q]] W fun e w' => e = .returned (.int .i64 ce) ∧ Below W.heap.size W w') := (show ∀ W, _ from fun W => (check_calls W t).mono fun e w' h => ⟨by rw [h.1]; rw [ec], h.2⟩)
  have HRC : Hid (∀ W, Calls Try.prog 20 #[.agg #[.int .i64 t.A, .int .i64 t.B, .int .i64 t.C, .int .i64 t.D, .int .i64 t.E, .int .i64 t.F, .int .i64 t.Q]] W fun e w' => e = .returned (.int .i64 ce) ∧ Below W.heap.size W w') := (show ∀ W, _ from fun W => (rCheck_calls W t).mono fun e w' h => ⟨by rw [h.1]; rw [ec], h.2⟩)
  have HT : Hid (∀ W, Calls Try.prog 21 #[.agg #[.int .i64 s.A, .int .i64 s.B, .int .i64 s.C, .int .i64 s.D, .int .i64 s.E, .int .i64 s.F, .int .i64 s.Q], .agg #[.int .i64 t.A, .int .i64 t.B, .int .i64 t.C, .int .i64 t.D, .int .i64 t.E, .int .i64 t.F, .int .i64 t.Q]] W fun e w' => e = .returned (.tuple #[.agg #[.int .i64 ta.A, .int .i64 ta.B, .int .i64 ta.C, .int .i64 ta.D, .int .i64 ta.E, .int .i64 ta.F, .int .i64 ta.Q], .int .i64 te]) ∧ Below W.heap.size W w') := (show ∀ W, _ from fun W => (then_calls W s t).mono fun e w' h => ⟨by rw [h.1]; rw [wtV_of et], h.2⟩)
  have HRT : Hid (∀ W, Calls Try.prog 22 #[.agg #[.int .i64 s.A, .int .i64 s.B, .int .i64 s.C, .int .i64 s.D, .int .i64 s.E, .int .i64 s.F, .int .i64 s.Q], .agg #[.int .i64 t.A, .int .i64 t.B, .int .i64 t.C, .int .i64 t.D, .int .i64 t.E, .int .i64 t.F, .int .i64 t.Q]] W fun e w' => e = .returned (.tuple #[.agg #[.int .i64 ta.A, .int .i64 ta.B, .int .i64 ta.C, .int .i64 ta.D, .int .i64 ta.E, .int .i64 ta.F, .int .i64 ta.Q], .int .i64 te]) ∧ Below W.heap.size W w') := (show ∀ W, _ from fun W => (rthen_calls W s t).mono fun e w' h => ⟨by rw [h.1]; rw [wtV_of et], h.2⟩)
  have HB : Hid (∀ W, Calls Try.prog 23 #[.agg #[.int .i64 t.A, .int .i64 t.B, .int .i64 t.C, .int .i64 t.D, .int .i64 t.E, .int .i64 t.F, .int .i64 t.Q]] W fun e w' => e = .returned (.tuple #[.agg #[.int .i64 ba.A, .int .i64 ba.B, .int .i64 ba.C, .int .i64 ba.D, .int .i64 ba.E, .int .i64 ba.F, .int .i64 ba.Q], .int .i64 be]) ∧ Below W.heap.size W w') := (show ∀ W, _ from fun W => (back_calls W t).mono fun e w' h => ⟨by rw [h.1]; rw [wtV_of eb], h.2⟩)
  have HRB : Hid (∀ W, Calls Try.prog 24 #[.agg #[.int .i64 t.A, .int .i64 t.B, .int .i64 t.C, .int .i64 t.D, .int .i64 t.E, .int .i64 t.F, .int .i64 t.Q]] W fun e w' => e = .returned (.tuple #[.agg #[.int .i64 ba.A, .int .i64 ba.B, .int .i64 ba.C, .int .i64 ba.D, .int .i64 ba.E, .int .i64 ba.F, .int .i64 ba.Q], .int .i64 be]) ∧ Below W.heap.size W w') := (show ∀ W, _ from fun W => (rback_calls W t).mono fun e w' h => ⟨by rw [h.1]; rw [wtV_of eb], h.2⟩)
  clear en et eb ec
  unfold wpV wpC WGives
  unfold WGives at HKN
  have HX := Lib.hid (two_blocks w (wpC s) (wpC t))
  have HXB := Lib.hid (below_two w (.cells (wpC s) 32) (.cells (wpC t) 32))
  go_enter Try.func4, Try.ntmps4
  go_upto_region 5 with (first
    | (go_at_call 16; refine (HKN.out _).mono ?_; rintro e1 w1 ⟨rfl, hb⟩; have HB1 := Lib.hid (ujoin HXB.out hb); have hx0 : BoxW w1 w.heap.size s := (hb.block _ (by rw [World.size_alloc, World.size_alloc]; omega)).trans HX.out.1; have hx1 : BoxW w1 (w.heap.size + 1) t := (hb.block _ (by rw [World.size_alloc, World.size_alloc]; omega)).trans HX.out.2; obtain ⟨s0, s1, s2, s3, s4, s5, s6⟩ := hx0.cells; obtain ⟨t0, t1, t2, t3, t4, t5, t6⟩ := hx1.cells; have HX0 := Lib.hid hx0; have HX1 := Lib.hid hx1; clear hb hx0 hx1)
    | (go_at_call 17; refine (HN.out _).mono ?_; rintro e1 w2 ⟨rfl, hb⟩; have HB2 := Lib.hid (ujoin HB1.out hb); have HY0 := Lib.hid (HX0.out.below hb); have HY1 := Lib.hid (HX1.out.below hb); have hy1 := fun o => HY1.out.alloc o; clear t0 t1 t2 t3 t4 t5 t6; have u0 := fun o => (hy1 o).cells.1 ; have u1 := fun o => (hy1 o).cells.2.1 ; have u2 := fun o => (hy1 o).cells.2.2.1 ; have u3 := fun o => (hy1 o).cells.2.2.2.1 ; have u4 := fun o => (hy1 o).cells.2.2.2.2.1 ; have u5 := fun o => (hy1 o).cells.2.2.2.2.2.1 ; have u6 := fun o => (hy1 o).cells.2.2.2.2.2.2; clear hb hy1)
    | (go_at_call 18; refine (HRN.out _).mono ?_; rintro e1 w3 ⟨rfl, hb⟩; have HM : Hid (MpW w w2.heap.size w3.heap.size s t na na (w3.alloc (.cells #[.int .i64 na.A, .int .i64 na.B, .int .i64 na.C, .int .i64 na.D, .int .i64 na.E, .int .i64 na.F, .int .i64 na.Q] 32))) := (show MpW _ _ _ _ _ _ _ _ from (have ha := (Below.refl w2.heap.size w2).alloc (Nat.le_refl _) (.cells #[.int .i64 na.A, .int .i64 na.B, .int .i64 na.C, .int .i64 na.D, .int .i64 na.E, .int .i64 na.F, .int .i64 na.Q] 32); have hb2 := ujoin ha hb; have hc := (Below.refl w3.heap.size w3).alloc (Nat.le_refl _) (.cells #[.int .i64 na.A, .int .i64 na.B, .int .i64 na.C, .int .i64 na.D, .int .i64 na.E, .int .i64 na.F, .int .i64 na.Q] 32); ⟨ujoin (ujoin HB2.out hb2) hc, (HY0.out.below hb2).below hc, (HY1.out.below hb2).below hc, ((BoxW.new w2 na).below hb).below hc, BoxW.new w3 na, heap_lt' HY1.out, by have := hb.size; simp at this; omega⟩)); clear hb))
  have hz5 := heap_lt' HY1.out
  generalize w2.heap.size = b5 at HM ⊢
  generalize w3.heap.size = b7 at HM ⊢
  generalize w3.alloc (.cells #[.int .i64 na.A, .int .i64 na.B, .int .i64 na.C, .int .i64 na.D, .int .i64 na.E, .int .i64 na.F, .int .i64 na.Q] 32) = W4 at HM ⊢
  clear HN HRN HKN HX HXB HX0 HX1 HB1 HB2 HY0 HY1 hz5
  go_cut [35] (fun v35 wc => v35 = .bool false ∧ ∃ W, W = wc ∧ Hid (MpW w b5 b7 s t na na W))
  case first =>
    obtain ⟨p0, p1, p2, p3, p4, p5, p6⟩ := HM.out.x5.cells
    obtain ⟨q0, q1, q2, q3, q4, q5, q6⟩ := HM.out.x7.cells
    obtain ⟨t0, t1, t2, t3, t4, t5, t6⟩ := HM.out.x1.cells
    go_region_with (first
      | (go_at_call 19; refine (HC.out _).mono ?_; rintro e1 w5 ⟨rfl, hb⟩; have HM5 := Lib.hid (HM.out.below (below_drew hb)); obtain ⟨r0, r1, r2, r3, r4, r5, r6⟩ := HM5.out.x1.cells; clear hb)
      | (go_at_call 20; refine (HRC.out _).mono ?_; rintro e1 w6 ⟨rfl, hb⟩; have HM6 := Lib.hid (HM5.out.below hb); clear hb))
    all_goals (go_wp2; go_meet; case rel => exact ⟨rfl, _, rfl, HM6.out⟩)
  case rest =>
    obtain ⟨rfl, W6, rfl, HM6⟩ := hcut
    clear HM HC HRC
    obtain ⟨s0, s1, s2, s3, s4, s5, s6⟩ := HM6.out.x0.cells
    obtain ⟨t0, t1, t2, t3, t4, t5, t6⟩ := HM6.out.x1.cells
    go_upto_region 8 with (go_at_call 21; refine (HT.out _).mono ?_; rintro e1 w7 ⟨rfl, hb⟩; have HM7 := Lib.hid (HM6.out.below hb); obtain ⟨kc0, kf0, kc1, kf1, kc2, kf2, kc3, kf3, kc4, kf4, kc5, kf5, kc6, kf6, -⟩ := st7 HM7.out.x5 ta.A ta.B ta.C ta.D ta.E ta.F ta.Q; clear hb)
    have HM8 := Lib.hid (HM7.out.put5 ta)
    generalize (((((((w7.setCell ⟨b5, 0, none⟩ (.int .i64 ta.A)).setCell ⟨b5, 1, none⟩ (.int .i64 ta.B)).setCell ⟨b5, 2, none⟩ (.int .i64 ta.C)).setCell ⟨b5, 3, none⟩ (.int .i64 ta.D)).setCell ⟨b5, 4, none⟩ (.int .i64 ta.E)).setCell ⟨b5, 5, none⟩ (.int .i64 ta.F)).setCell ⟨b5, 6, none⟩ (.int .i64 ta.Q)) = W8 at HM8 ⊢
    clear HM6 HM7 HT s0 s1 s2 s3 s4 s5 s6 t0 t1 t2 t3 t4 t5 t6 kc0 kf0 kc1 kf1 kc2 kf2 kc3 kf3 kc4 kf4 kc5 kf5 kc6 kf6
    obtain ⟨s0, s1, s2, s3, s4, s5, s6⟩ := HM8.out.x0.cells
    obtain ⟨t0, t1, t2, t3, t4, t5, t6⟩ := HM8.out.x1.cells
    go_upto_region 9 with (go_at_call 22; refine (HRT.out _).mono ?_; rintro e1 w9 ⟨rfl, hb⟩; have HM9 := Lib.hid (HM8.out.below hb); obtain ⟨kc0, kf0, kc1, kf1, kc2, kf2, kc3, kf3, kc4, kf4, kc5, kf5, kc6, kf6, -⟩ := st7 HM9.out.x7 ta.A ta.B ta.C ta.D ta.E ta.F ta.Q; clear hb)
    have HM10 := Lib.hid (HM9.out.put7 ta)
    generalize (((((((w9.setCell ⟨b7, 0, none⟩ (.int .i64 ta.A)).setCell ⟨b7, 1, none⟩ (.int .i64 ta.B)).setCell ⟨b7, 2, none⟩ (.int .i64 ta.C)).setCell ⟨b7, 3, none⟩ (.int .i64 ta.D)).setCell ⟨b7, 4, none⟩ (.int .i64 ta.E)).setCell ⟨b7, 5, none⟩ (.int .i64 ta.F)).setCell ⟨b7, 6, none⟩ (.int .i64 ta.Q)) = W10 at HM10 ⊢
    clear HM8 HM9 HRT s0 s1 s2 s3 s4 s5 s6 t0 t1 t2 t3 t4 t5 t6 kc0 kf0 kc1 kf1 kc2 kf2 kc3 kf3 kc4 kf4 kc5 kf5 kc6 kf6
    obtain ⟨p0, p1, p2, p3, p4, p5, p6⟩ := HM10.out.x5.cells
    obtain ⟨q0, q1, q2, q3, q4, q5, q6⟩ := HM10.out.x7.cells
    obtain ⟨t0, t1, t2, t3, t4, t5, t6⟩ := HM10.out.x1.cells
    go_upto_region 12 with (go_at_call 23; refine (HB.out _).mono ?_; rintro e1 w11 ⟨rfl, hb⟩; have HM11 := Lib.hid (HM10.out.below hb); obtain ⟨kc0, kf0, kc1, kf1, kc2, kf2, kc3, kf3, kc4, kf4, kc5, kf5, kc6, kf6, -⟩ := st7 HM11.out.x5 ba.A ba.B ba.C ba.D ba.E ba.F ba.Q; clear hb)
    have HM12 := Lib.hid (HM11.out.put5 ba)
    generalize (((((((w11.setCell ⟨b5, 0, none⟩ (.int .i64 ba.A)).setCell ⟨b5, 1, none⟩ (.int .i64 ba.B)).setCell ⟨b5, 2, none⟩ (.int .i64 ba.C)).setCell ⟨b5, 3, none⟩ (.int .i64 ba.D)).setCell ⟨b5, 4, none⟩ (.int .i64 ba.E)).setCell ⟨b5, 5, none⟩ (.int .i64 ba.F)).setCell ⟨b5, 6, none⟩ (.int .i64 ba.Q)) = W12 at HM12 ⊢
    clear HM10 HM11 HB p0 p1 p2 p3 p4 p5 p6 q0 q1 q2 q3 q4 q5 q6 t0 t1 t2 t3 t4 t5 t6 kc0 kf0 kc1 kf1 kc2 kf2 kc3 kf3 kc4 kf4 kc5 kf5 kc6 kf6
    obtain ⟨t0, t1, t2, t3, t4, t5, t6⟩ := HM12.out.x1.cells
    go_upto_region 13 with (go_at_call 24; refine (HRB.out _).mono ?_; rintro e1 w13 ⟨rfl, hb⟩; have HM13 := Lib.hid (HM12.out.below hb); obtain ⟨kc0, kf0, kc1, kf1, kc2, kf2, kc3, kf3, kc4, kf4, kc5, kf5, kc6, kf6, -⟩ := st7 HM13.out.x7 ba.A ba.B ba.C ba.D ba.E ba.F ba.Q; clear hb)
    have HM14 := Lib.hid (HM13.out.put7 ba)
    generalize (((((((w13.setCell ⟨b7, 0, none⟩ (.int .i64 ba.A)).setCell ⟨b7, 1, none⟩ (.int .i64 ba.B)).setCell ⟨b7, 2, none⟩ (.int .i64 ba.C)).setCell ⟨b7, 3, none⟩ (.int .i64 ba.D)).setCell ⟨b7, 4, none⟩ (.int .i64 ba.E)).setCell ⟨b7, 5, none⟩ (.int .i64 ba.F)).setCell ⟨b7, 6, none⟩ (.int .i64 ba.Q)) = W14 at HM14 ⊢
    clear HM12 HM13 HRB t0 t1 t2 t3 t4 t5 t6 kc0 kf0 kc1 kf1 kc2 kf2 kc3 kf3 kc4 kf4 kc5 kf5 kc6 kf6
    obtain ⟨p0, p1, p2, p3, p4, p5, p6⟩ := HM14.out.x5.cells
    obtain ⟨q0, q1, q2, q3, q4, q5, q6⟩ := HM14.out.x7.cells
    go_wp2
    go_ret
    exact ⟨rfl, HM14.out.be⟩
end Go.Proofs.Ytdcpeeolfgohmaa
