/- plane.Turn by one quarter, plane.Flip across: walked whole. -/
import Derived.Test.YtdcpeeolfgohmaaMkC
import Derived.Laws.EntriesVeiled
namespace Go.Proofs.Ytdcpeeolfgohmaa
open Go.RowKit Go.Proofs.YtdcpeeolfgohmaaW.PrintWords
set_option linter.unusedSimpArgs false
set_option linter.unusedVariables false
attribute [local go_sem] Oper.semAt_some

/-- What Turn's and Flip's inner functions make: a maker over a box of the plane's function, and the plane's. -/
def MkrEnd (w : World) (pp b : Nat) (w1 h1 : Int) (g : FuncId) (e : Ending) (w' : World) : Prop := ∃ pa, e = .returned (.agg #[.int .i64 w1, .int .i64 h1, .func (.func g) #[] #[.pointer (some ⟨pa, 0, none⟩), .pointer (some ⟨pp, 0, none⟩)]]) ∧ w.heap.size ≤ pa ∧ w'.cell? ⟨pa, 0, none⟩ = some (ofF b) ∧ Below w.heap.size w w'
set_option maxHeartbeats 1600000 in
set_option maxRecDepth 100000 in
theorem turn1_calls (w : World) (b pq pp : Nat) (W H : Int) (A : Option Addr) (n c : Nat) (hq : w.cell? ⟨pq, 0, none⟩ = some (.int .i64 1)) (hp : w.heap[pp]? = some (.cells (plC W H A n c) 55 (0, 0))) :
    Calls Try.prog 76 #[ofF b, .pointer (some ⟨pq, 0, none⟩), .pointer (some ⟨pp, 0, none⟩)] w fun e w' => MkrEnd w pp b H W 77 e w' := by
  obtain ⟨p0, p1, p2⟩ := pl_cells hp
  have kp : ∀ (W : World) (o : Obj) (a : Addr) (x : Value), W.cell? a = some x → (W.alloc o).cell? a = some x := fun W o a x hx => (((Below.refl W.heap.size W).alloc (Nat.le_refl _) o).cell (World.block_lt_of_cell? _ _ hx)).trans hx
  obtain ⟨o1, eo1⟩ : ∃ o1, o1 = Obj.cells #[ofF b] 130 := ⟨_, rfl⟩
  obtain ⟨o2, eo2⟩ : ∃ o2, o2 = Obj.cells #[.int .i64 0, .int .i64 0, Value.nilFunc] 132 := ⟨_, rfl⟩
  have z1 := heap_alloc_new w o1
  have z2 := heap_alloc_new (w.alloc o1) o2
  rw [World.size_alloc] at z2
  have z3 : (w.alloc o1).cell? ⟨w.heap.size, 0, none⟩ = some (ofF b) := by rw [eo1] at z1; rw [eo1]; exact ucell z1 0
  have z4 : ((w.alloc o1).alloc o2).heap[w.heap.size + 1]? = some (.cells #[.int .i64 0, .int .i64 0, Value.nilFunc] 132 (0, 0)) := by rw [z2, eo2]
  have hq2 := kp _ o2 _ _ (kp _ o1 _ _ hq)
  have p02 := kp _ o2 _ _ (kp _ o1 _ _ p0)
  have p12 := kp _ o2 _ _ (kp _ o1 _ _ p1)
  have HB := Lib.hid (ujoin ((Below.refl w.heap.size w).alloc (Nat.le_refl _) o1) ((Below.refl (w.alloc o1).heap.size (w.alloc o1)).alloc (Nat.le_refl _) o2))
  have HC := Lib.hid (kp _ o2 _ _ z3)
  have HZ := Lib.hid z4
  obtain ⟨d1, d2, d3, d4, d5, d6⟩ := st3 HZ.out (.int .i64 H) (.int .i64 W)
  clear hp kp z1 z2 z3 z4 hq p0 p1 p2
  subst eo1 eo2
  unfold MkrEnd
  unfold ofF at *
  go_enter Try.func76, Try.ntmps76
  go_upto_region 1 with (fail)
  generalize (w.alloc (.cells #[.func (.func 146) #[] #[.pointer (some ⟨b, 0, none⟩)]] 130)).alloc (.cells #[.int .i64 0, .int .i64 0, Value.nilFunc] 132) = W2 at hq2 p02 p12 HB HC HZ d1 d2 d3 d4 d5 d6 ⊢
  have H3 := Lib.hid (st3_end (x := .int .i64 H) (y := .int .i64 W) (z := (.func (.func 77) #[] #[.pointer (some ⟨w.heap.size, 0, none⟩), .pointer (some ⟨pp, 0, none⟩)])) HZ.out)
  have HE : Hid ((((W2.setCell ⟨w.heap.size + 1, 0, none⟩ (.int .i64 H)).setCell ⟨w.heap.size + 1, 1, none⟩ (.int .i64 W)).setCell ⟨w.heap.size + 1, 2, none⟩ (.func (.func 77) #[] #[.pointer (some ⟨w.heap.size, 0, none⟩), .pointer (some ⟨pp, 0, none⟩)])).cell? ⟨w.heap.size, 0, none⟩ = some (.func (.func 146) #[] #[.pointer (some ⟨b, 0, none⟩)])) := (show _ = _ from by
    rw [World.cell?_setCell_far _ _ _ _ (by simp), World.cell?_setCell_far _ _ _ _ (by simp), World.cell?_setCell_far _ _ _ _ (by simp)]
    exact HC.out)
  have HB9 := Lib.hid (st3_below (x := .int .i64 H) (y := .int .i64 W) (z := (.func (.func 77) #[] #[.pointer (some ⟨w.heap.size, 0, none⟩), .pointer (some ⟨pp, 0, none⟩)])) HB.out (Nat.le_succ _))
  go_wp2
  refine bodyPost_ret (results_cell_row rfl _ _ (w.heap.size + 1) 132 _ (0, 0) _ rfl H3.out Try.underlying132 rfl (by kernel_rfl)) rfl ?_
  exact ⟨w.heap.size, rfl, Nat.le_refl _, HE.out, HB9.out⟩
set_option maxHeartbeats 1600000 in
set_option maxRecDepth 100000 in
theorem flip1_calls (w : World) (b pq pp : Nat) (W H : Int) (A : Option Addr) (n c : Nat) (hq : w.cell? ⟨pq, 0, none⟩ = some (.bool true)) (hp : w.heap[pp]? = some (.cells (plC W H A n c) 55 (0, 0))) :
    Calls Try.prog 80 #[ofF b, .pointer (some ⟨pq, 0, none⟩), .pointer (some ⟨pp, 0, none⟩)] w fun e w' => MkrEnd w pp b W H 81 e w' := by
  obtain ⟨p0, p1, p2⟩ := pl_cells hp
  have kp : ∀ (W : World) (o : Obj) (a : Addr) (x : Value), W.cell? a = some x → (W.alloc o).cell? a = some x := fun W o a x hx => (((Below.refl W.heap.size W).alloc (Nat.le_refl _) o).cell (World.block_lt_of_cell? _ _ hx)).trans hx
  obtain ⟨o1, eo1⟩ : ∃ o1, o1 = Obj.cells #[ofF b] 130 := ⟨_, rfl⟩
  obtain ⟨o2, eo2⟩ : ∃ o2, o2 = Obj.cells #[.int .i64 0, .int .i64 0, Value.nilFunc] 132 := ⟨_, rfl⟩
  have z1 := heap_alloc_new w o1
  have z2 := heap_alloc_new (w.alloc o1) o2
  rw [World.size_alloc] at z2
  have z3 : (w.alloc o1).cell? ⟨w.heap.size, 0, none⟩ = some (ofF b) := by rw [eo1] at z1; rw [eo1]; exact ucell z1 0
  have z4 : ((w.alloc o1).alloc o2).heap[w.heap.size + 1]? = some (.cells #[.int .i64 0, .int .i64 0, Value.nilFunc] 132 (0, 0)) := by rw [z2, eo2]
  have hq2 := kp _ o2 _ _ (kp _ o1 _ _ hq)
  have p02 := kp _ o2 _ _ (kp _ o1 _ _ p0)
  have p12 := kp _ o2 _ _ (kp _ o1 _ _ p1)
  have HB := Lib.hid (ujoin ((Below.refl w.heap.size w).alloc (Nat.le_refl _) o1) ((Below.refl (w.alloc o1).heap.size (w.alloc o1)).alloc (Nat.le_refl _) o2))
  have HC := Lib.hid (kp _ o2 _ _ z3)
  have HZ := Lib.hid z4
  obtain ⟨d1, d2, d3, d4, d5, d6⟩ := st3 HZ.out (.int .i64 W) (.int .i64 H)
  clear hp kp z1 z2 z3 z4 hq p0 p1 p2
  subst eo1 eo2
  unfold MkrEnd
  unfold ofF at *
  go_enter Try.func80, Try.ntmps80
  go_upto_region 1 with (fail)
  generalize (w.alloc (.cells #[.func (.func 146) #[] #[.pointer (some ⟨b, 0, none⟩)]] 130)).alloc (.cells #[.int .i64 0, .int .i64 0, Value.nilFunc] 132) = W2 at hq2 p02 p12 HB HC HZ d1 d2 d3 d4 d5 d6 ⊢
  have H3 := Lib.hid (st3_end (x := .int .i64 W) (y := .int .i64 H) (z := (.func (.func 81) #[] #[.pointer (some ⟨w.heap.size, 0, none⟩), .pointer (some ⟨pp, 0, none⟩)])) HZ.out)
  have HE : Hid ((((W2.setCell ⟨w.heap.size + 1, 0, none⟩ (.int .i64 W)).setCell ⟨w.heap.size + 1, 1, none⟩ (.int .i64 H)).setCell ⟨w.heap.size + 1, 2, none⟩ (.func (.func 81) #[] #[.pointer (some ⟨w.heap.size, 0, none⟩), .pointer (some ⟨pp, 0, none⟩)])).cell? ⟨w.heap.size, 0, none⟩ = some (.func (.func 146) #[] #[.pointer (some ⟨b, 0, none⟩)])) := (show _ = _ from by
    rw [World.cell?_setCell_far _ _ _ _ (by simp), World.cell?_setCell_far _ _ _ _ (by simp), World.cell?_setCell_far _ _ _ _ (by simp)]
    exact HC.out)
  have HB9 := Lib.hid (st3_below (x := .int .i64 W) (y := .int .i64 H) (z := (.func (.func 81) #[] #[.pointer (some ⟨w.heap.size, 0, none⟩), .pointer (some ⟨pp, 0, none⟩)])) HB.out (Nat.le_succ _))
  go_wp2
  refine bodyPost_ret (results_cell_row rfl _ _ (w.heap.size + 1) 132 _ (0, 0) _ rfl H3.out Try.underlying132 rfl (by kernel_rfl)) rfl ?_
  exact ⟨w.heap.size, rfl, Nat.le_refl _, HE.out, HB9.out⟩
end Go.Proofs.Ytdcpeeolfgohmaa
