/- The state of an Acc; New, Copy, Count. -/
import Derived.Test.YtmeifciagepmpaaAcE
import Derived.Test.YtmeifciagepmpaaAcP
import Derived.Deep.WholeRow
namespace Go.Proofs.Ytmeifciagepmpaa
open Go.RowKit Go.Proofs.YtmeifciagepmpaaW.PrintWords
set_option linter.unusedSimpArgs false
set_option linter.unusedVariables false

def acC (S : Ac) : Nat → Nat := fun k => match k with
  | 0 => S.n
  | 1 => S.nans
  | 2 => S.up
  | 3 => S.dn
  | 4 => S.no
  | _ => 0
/-- The Acc at block g is of S. -/
def AcAt (W : World) (g : Nat) (S : Ac) : Prop := ∃ f, W.heap[g]? = some (.cells (accC f (acC S)) 89 (0, 0)) ∧ LimbsOf f S.z
/-- W is w with new blocks, and the Acc at g is of S. -/
def AccOf (w : World) (g : Nat) (S : Ac) (W : World) : Prop := ∃ f, AccW w g f (acC S) W ∧ LimbsOf f S.z
theorem AccOf.at {w W : World} {g : Nat} {S : Ac} (h : AccOf w g S W) : AcAt W g S := by
  obtain ⟨f, hA, hL⟩ := h
  exact ⟨f, hA.bl, hL⟩
theorem AcAt.self {W : World} {g : Nat} {S : Ac} (h : AcAt W g S) : AccOf W g S W := by
  obtain ⟨f, hA, hL⟩ := h
  exact ⟨f, ⟨⟨rfl, rfl, rfl, Nat.le_refl _, fun _ _ _ => rfl⟩, hA⟩, hL⟩
theorem AccOf.gr {w W : World} {g : Nat} {S : Ac} (h : AccOf w g S W) : w.grownBy W (some g) := by
  obtain ⟨f, hA, hL⟩ := h
  exact hA.gr
theorem grown_trans {w w1 w2 : World} {r : Option Nat} (h : w.grownBy w1 r) (k : w1.grownBy w2 r) : w.grownBy w2 r :=
  ⟨k.os.trans h.os, k.tape.trans h.tape, k.output.trans h.output, Nat.le_trans h.size k.size, fun i hi hne => (k.block i (Nat.lt_of_lt_of_le hi h.size) hne).trans (h.block i hi hne)⟩
theorem grown_below {w w1 : World} (r : Option Nat) (h : Below w.heap.size w w1) : w.grownBy w1 r := ⟨h.os, h.tape, h.output, h.size, fun i hi _ => h.block i hi⟩
theorem AcAt.lt {W : World} {g : Nat} {S : Ac} (h : AcAt W g S) : g < W.heap.size := by
  obtain ⟨f, hA, hL⟩ := h
  exact (Array.getElem?_eq_some_iff.1 hA).1
theorem AcAt.below {W W' : World} {g : Nat} {S : Ac} (h : AcAt W g S) (hb : Below W.heap.size W W') : AcAt W' g S := by
  have hl := h.lt
  obtain ⟨f, hA, hL⟩ := h
  exact ⟨f, (hb.block g hl).trans hA, hL⟩
theorem AcAt.grown {W W' : World} {g k : Nat} {S : Ac} (h : AcAt W g S) (hb : W.grownBy W' (some k)) (hne : g ≠ k) : AcAt W' g S := by
  have hl := h.lt
  obtain ⟨f, hA, hL⟩ := h
  exact ⟨f, (hb.block g hl (by intro e; injection e with e; exact hne e)).trans hA, hL⟩
theorem AccW.below {w W W' : World} {g : Nat} {f c : Nat → Nat} (h : AccW w g f c W) (hb : Below W.heap.size W W') : AccW w g f c W' :=
  ⟨grown_trans h.gr (grown_below _ hb), (hb.block g h.lt).trans h.bl⟩
theorem AccOf.below {w W W' : World} {g : Nat} {S : Ac} (h : AccOf w g S W) (hb : Below W.heap.size W W') : AccOf w g S W' := by
  obtain ⟨f, hA, hL⟩ := h
  exact ⟨f, hA.below hb, hL⟩
theorem RowU.grown {w w1 : World} {A : Option Addr} {n g : Nat} {x : Nat → Nat} (h : RowU w A n x) (hb : w.grownBy w1 (some g)) (hne : ∀ ad, A = some ad → ad.block ≠ g) : RowU w1 A n x := fun hn => by
  obtain ⟨ad, e, hc⟩ := h hn
  refine ⟨ad, e, fun i hi => hb.cell (hc i hi) ?_⟩
  intro k
  injection k with k
  have h2 : (ad.add i).block = ad.block := by unfold Addr.add; split <;> rfl
  exact hne ad e (by rw [← h2]; exact k)
theorem AccW.counts {w W : World} {g : Nat} {f c : Nat → Nat} (h : AccW w g f c W) :
    (W.cell? ⟨g, 14, none⟩ = some (.int .i64 ((c 0 : Nat) : Int)) ∧ W.cell? ⟨g, 15, none⟩ = some (.int .i64 ((c 1 : Nat) : Int)) ∧ W.cell? ⟨g, 16, none⟩ = some (.int .i64 ((c 2 : Nat) : Int)) ∧ W.cell? ⟨g, 17, none⟩ = some (.int .i64 ((c 3 : Nat) : Int)) ∧ W.cell? ⟨g, 18, none⟩ = some (.int .i64 ((c 4 : Nat) : Int))) ∧
    (W.frozen? ⟨g, 14, none⟩ = false ∧ W.frozen? ⟨g, 15, none⟩ = false ∧ W.frozen? ⟨g, 16, none⟩ = false ∧ W.frozen? ⟨g, 17, none⟩ = false ∧ W.frozen? ⟨g, 18, none⟩ = false) :=
  ⟨⟨(h.cell2 0 (by decide)).1, (h.cell2 1 (by decide)).1, (h.cell2 2 (by decide)).1, (h.cell2 3 (by decide)).1, (h.cell2 4 (by decide)).1⟩, (h.cell2 0 (by decide)).2, (h.cell2 1 (by decide)).2, (h.cell2 2 (by decide)).2, (h.cell2 3 (by decide)).2, (h.cell2 4 (by decide)).2⟩

theorem accC_zero : (#[.int .u32 0, .int .u32 0, .int .u32 0, .int .u32 0, .int .u32 0, .int .u32 0, .int .u32 0, .int .u32 0, .int .u32 0, .int .u32 0, .int .u32 0, .int .u32 0, .int .u32 0, .int .u32 0, .int .i64 0, .int .i64 0, .int .i64 0, .int .i64 0, .int .i64 0] : Array Value) = accC (fun _ => 0) (acC acNone) := by kernel_rfl

def NewEnd (w : World) (e : Ending) (w' : World) : Prop := ∃ g, e = .returned (.pointer (some ⟨g, 0, none⟩)) ∧ w.heap.size ≤ g ∧ AcAt w' g acNone ∧ Below w.heap.size w w'
theorem acAt_new (w : World) : AcAt (w.alloc (.cells (accC (fun _ => 0) (acC acNone)) 89)) w.heap.size acNone := ⟨_, heap_alloc_new w _, limbsOf_zero⟩

set_option maxHeartbeats 1600000 in
set_option maxRecDepth 100000 in
theorem new_calls (w : World) : Calls Try.prog 30 #[] w fun e w' => NewEnd w e w' := by
  go_enter Try.func30, Try.ntmps30
  go_wp2
  rw [accC_zero]
  go_ret
  exact ⟨_, rfl, Nat.le_refl _, acAt_new w, (Below.refl _ _).alloc (Nat.le_refl _) _⟩

theorem accC_one (f c : Nat → Nat) : (accC f c).all (·.oneCell') = true := by
  rw [Array.all_eq_true_iff_forall_mem]
  intro v hv
  simp only [accC, Array.mem_map, Array.mem_range] at hv
  obtain ⟨i, _, rfl⟩ := hv
  split <;> rfl
theorem acc_info : (Try.prog.info? 89).map (·.size) = some 19 := by kernel_rfl
theorem acc_zero (w : World) : (zeroValue 89).run Try.prog w = .ok (.agg (accC (fun _ => 0) (acC acNone))) w := by kernel_rfl

def CopyEnd (w : World) (S : Ac) (e : Ending) (w' : World) : Prop := ∃ g, e = .returned (.pointer (some ⟨g, 0, none⟩)) ∧ w.heap.size ≤ g ∧ AcAt w' g S ∧ Below w.heap.size w w'
end Go.Proofs.Ytmeifciagepmpaa
