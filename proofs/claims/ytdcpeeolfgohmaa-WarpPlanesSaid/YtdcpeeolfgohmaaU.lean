/- Rows of 32-bit words in memory; what a call leaves. -/
import Derived.Test.YtdcpeeolfgohmaaRows
import Derived.Test.YtdcpeeolfgohmaaNatP
import Derived.Test.YtdcpeeolfgohmaaWEqStruct
import Derived.WalkLawsBesides
import Derived.Lib.Hide
import Derived.Deep.QuietTactic
import Derived.BigQuiet
import Derived.BigRegion
import Derived.Deep.LoopGhost
import Derived.Deep.OwnRows
import Derived.Deep.DeepCutAuto
import Derived.Deep.CutBlock
import Derived.Deep.RegionWith
import Derived.Shelf.Bits.Mul64
namespace Go.Proofs.Ytdcpeeolfgohmaa
open Go.RowKit Go.Proofs.YtdcpeeolfgohmaaW.PrintWords
set_option linter.unusedSimpArgs false
set_option linter.unusedVariables false

theorem u_info : (Try.prog.info? 65).map (fun i => (i.zero, i.size, i.bytes)) = some (some (.int .u32 0), 1, 4) := by kernel_rfl

/-! ### Blocks -/
def arrU (n : Nat) (f : Nat → Nat) : Array Value := (Array.range n).map fun i => .int .u32 ((f i : Nat) : Int)
theorem arrU_made (n : Nat) : madeCells #[.int .u32 0] n = arrU n (fun _ => 0) := by
  apply Array.ext
  · simp [madeCells, arrU]
  · intro i h1 h2
    simp [madeCells, arrU, Nat.mod_one]
theorem arrU_set (n : Nat) (f : Nat → Nat) (i v : Nat) : (arrU n f).setIfInBounds i (.int .u32 (v : Int)) = arrU n (updN f i v) := by
  apply Array.ext
  · simp [arrU]
  · intro j h1 h2
    simp [arrU, updN] at *
    by_cases h : i = j
    · subst h; simp
    · have hj : j < n := by simpa [arrU] using h2
      rw [Array.getElem_setIfInBounds_ne _ h] <;> simp [Ne.symm h, hj]
theorem arrU_get (n : Nat) (f : Nat → Nat) (i : Nat) (h : i < n) : (arrU n f)[i]? = some (.int .u32 ((f i : Nat) : Int)) := by simp [arrU, h]
theorem u_alloc_if (w : World) (o : Obj) (k : Nat) : (w.alloc o).heap[k]? = if k = w.heap.size then some o else w.heap[k]? := by
  by_cases h : k = w.heap.size
  · rw [if_pos h, h]; exact heap_alloc_new w o
  · rw [if_neg h]
    rcases Nat.lt_or_ge k w.heap.size with h1 | h1
    · exact Below.heap_alloc w o k h1
    · rw [Array.getElem?_eq_none (by simp; omega), Array.getElem?_eq_none h1]
theorem ucell {w : World} {g : Nat} {t : TypeId} {cs : Array Value} (h : w.heap[g]? = some (.cells cs t (0, 0))) (i : Nat) : w.cell? ⟨g, i, none⟩ = cs[i]? := cell_of_row w g i cs t (0, 0) h
theorem ufree {w : World} {g : Nat} {t : TypeId} {cs : Array Value} (h : w.heap[g]? = some (.cells cs t (0, 0))) (i : Nat) : w.frozen? ⟨g, i, none⟩ = false := by simp [World.frozen?, h]
theorem uset {w : World} {g n : Nat} {t : TypeId} {f : Nat → Nat} (h : w.heap[g]? = some (.cells (arrU n f) t (0, 0))) (i v : Nat) : (w.setCell ⟨g, i, none⟩ (.int .u32 (v : Int))).heap[g]? = some (.cells (arrU n (updN f i v)) t (0, 0)) := by
  rw [blk_put h i (.int .u32 (v : Int)) rfl, arrU_set]
theorem ujoin {w w1 w2 : World} (h : Below w.heap.size w w1) (h' : Below w1.heap.size w1 w2) : Below w.heap.size w w2 := h.trans (h'.mono h.size)

/-! ### Rows that are read -/
def RowU (w : World) (A : Option Addr) (n : Nat) (x : Nat → Nat) : Prop := 1 ≤ n → ∃ ad, A = some ad ∧ ∀ i, i < n → w.cell? (ad.add i) = some (.int .u32 ((x i : Nat) : Int))
theorem RowU.below {w w1 : World} {A : Option Addr} {n : Nat} {x : Nat → Nat} (h : RowU w A n x) (hb : Below w.heap.size w w1) : RowU w1 A n x := fun hn => by
  obtain ⟨ad, e, hc⟩ := h hn
  exact ⟨ad, e, fun i hi => by rw [hb.cell (World.block_lt_of_cell? _ _ (hc i hi)), hc i hi]⟩
theorem RowU.congr {w : World} {A : Option Addr} {n : Nat} {x y : Nat → Nat} (h : RowU w A n x) (he : ∀ k, k < n → x k = y k) : RowU w A n y := fun hn => by
  obtain ⟨ad, e, hc⟩ := h hn
  exact ⟨ad, e, fun i hi => by rw [hc i hi, he i hi]⟩
theorem RowU.shorter {w : World} {A : Option Addr} {n m : Nat} {x : Nat → Nat} (h : RowU w A n x) (hm : m ≤ n) : RowU w A m x := fun hn => by
  obtain ⟨ad, e, hc⟩ := h (by omega)
  exact ⟨ad, e, fun i hi => hc i (by omega)⟩
theorem RowU.nil (w : World) (A : Option Addr) (x : Nat → Nat) : RowU w A 0 x := fun h => by omega
theorem RowU.arr {w : World} {g n : Nat} {t : TypeId} {f : Nat → Nat} (h : w.heap[g]? = some (.cells (arrU n f) t (0, 0))) : RowU w (some ⟨g, 0, none⟩) n f := fun _ =>
  ⟨_, rfl, fun i hi => by rw [add_plain, ucell h, arrU_get _ _ _ hi]⟩

/-- A whole number as a slice of its digits. -/
def NatAt (w : World) (v : Value) (n : Nat) : Prop := ∃ A c, v = .slice A (len32 n) c ∧ len32 n ≤ c ∧ RowU w A (len32 n) (dig n)
theorem NatAt.below {w w1 : World} {v : Value} {n : Nat} (h : NatAt w v n) (hb : Below w.heap.size w w1) : NatAt w1 v n := by
  obtain ⟨A, c, e, hc, hr⟩ := h
  exact ⟨A, c, e, hc, hr.below hb⟩
theorem NatAt.zero (w : World) (A : Option Addr) (c : Nat) : NatAt w (.slice A 0 c) 0 := ⟨A, c, rfl, Nat.zero_le _, RowU.nil _ _ _⟩
/-- A call that hands back a number of its own. -/
def NatEnd (w : World) (n : Nat) (e : Ending) (w' : World) : Prop := ∃ v, e = .returned v ∧ NatAt w' v n ∧ Below w.heap.size w w'
end Go.Proofs.Ytdcpeeolfgohmaa
