/- The block of an Acc; its limbs: plain. -/
import Derived.Test.YtmeifciagepmpaaAcA
namespace Go.Proofs.Ytmeifciagepmpaa
open Go.RowKit Go.Proofs.YtmeifciagepmpaaW.PrintWords
set_option linter.unusedSimpArgs false
set_option linter.unusedVariables false

/-- The cells of an Acc: 14 limbs, 5 counts. -/
def accC (f : Nat → Nat) (c : Nat → Nat) : Array Value := (Array.range 19).map fun i => if i < 14 then .int .u32 ((f i : Nat) : Int) else .int .i64 ((c (i - 14) : Nat) : Int)
theorem accC_size (f c : Nat → Nat) : (accC f c).size = 19 := by simp [accC]
theorem accC_get (f c : Nat → Nat) (i : Nat) (h : i < 14) : (accC f c)[i]? = some (.int .u32 ((f i : Nat) : Int)) := by
  have h2 : i < 19 := by omega
  simp [accC, h, h2]
theorem accC_get2 (f c : Nat → Nat) (j : Nat) (h : j < 5) : (accC f c)[14 + j]? = some (.int .i64 ((c j : Nat) : Int)) := by
  have h2 : 14 + j < 19 := by omega
  have h3 : ¬ 14 + j < 14 := by omega
  have h4 : 14 + j - 14 = j := by omega
  simp [accC, h2, h3, h4]
theorem accC_set (f c : Nat → Nat) (i v : Nat) (h : i < 14) : (accC f c).setIfInBounds i (.int .u32 (v : Int)) = accC (updN f i v) c := by
  apply Array.ext
  · simp [accC]
  · intro j h1 h2
    have hj : j < 19 := by simpa [accC] using h2
    by_cases e : i = j
    · subst e; simp [accC, h, updN]
    · rw [Array.getElem_setIfInBounds_ne _ e] <;> simp [accC, updN, Ne.symm e, hj]
theorem accC_set2 (f c : Nat → Nat) (j v : Nat) (h : j < 5) : (accC f c).setIfInBounds (14 + j) (.int .i64 (v : Int)) = accC f (updN c j v) := by
  apply Array.ext
  · simp [accC]
  · intro k h1 h2
    have hk : k < 19 := by simpa [accC] using h2
    by_cases e : 14 + j = k
    · subst e
      have h3 : ¬ 14 + j < 14 := by omega
      have h4 : 14 + j - 14 = j := by omega
      simp [accC, updN, h3, h4]
    · rw [Array.getElem_setIfInBounds_ne _ e]
      · by_cases h5 : k < 14
        · simp [accC, h5]
        · have : k - 14 ≠ j := by omega
          simp [accC, updN, h5, this]
      · rw [accC_size]; exact hk

/-- W is w with new blocks, and the Acc at g holds f and c. -/
structure AccW (w : World) (g : Nat) (f c : Nat → Nat) (W : World) : Prop where
  gr : w.grownBy W (some g)
  bl : W.heap[g]? = some (.cells (accC f c) 89 (0, 0))
theorem AccW.drewN {w W : World} {g : Nat} {f c : Nat → Nat} (h : AccW w g f c W) (q : Nat) : AccW w g f c (W.drewN q) :=
  ⟨⟨h.gr.os, h.gr.tape, h.gr.output, h.gr.size, h.gr.block⟩, h.bl⟩
theorem AccW.put {w W : World} {g : Nat} {f c : Nat → Nat} (h : AccW w g f c W) (i : Nat) (v : Value) (f' c' : Nat → Nat) (he : (accC f c).setIfInBounds i v = accC f' c') : AccW w g f' c' (W.setCell ⟨g, i, none⟩ v) := by
  refine ⟨⟨h.gr.os, h.gr.tape, h.gr.output, by simpa [World.setCell] using h.gr.size, fun k hk hne => ?_⟩, ?_⟩
  · rw [Below.heap_setCell _ _ _ _ (fun e => hne (by rw [e]))]; exact h.gr.block k hk hne
  · rw [blk_put h.bl i v rfl, he]
theorem AccW.set {w W : World} {g : Nat} {f c : Nat → Nat} (h : AccW w g f c W) (i v : Nat) (hi : i < 14) : AccW w g (updN f i v) c (W.setCell ⟨g, i, none⟩ (.int .u32 (v : Int))) := h.put i _ _ _ (accC_set f c i v hi)
theorem AccW.set2 {w W : World} {g : Nat} {f c : Nat → Nat} (h : AccW w g f c W) (j v : Nat) (hj : j < 5) : AccW w g f (updN c j v) (W.setCell ⟨g, 14 + j, none⟩ (.int .i64 (v : Int))) := h.put (14 + j) _ _ _ (accC_set2 f c j v hj)
theorem AccW.cell {w W : World} {g : Nat} {f c : Nat → Nat} (h : AccW w g f c W) (i : Nat) (hi : i < 14) : W.cell? ⟨g, i, none⟩ = some (.int .u32 ((f i : Nat) : Int)) ∧ W.frozen? ⟨g, i, none⟩ = false :=
  ⟨(ucell h.bl i).trans (accC_get f c i hi), ufree h.bl i⟩
theorem AccW.cell2 {w W : World} {g : Nat} {f c : Nat → Nat} (h : AccW w g f c W) (j : Nat) (hj : j < 5) : W.cell? ⟨g, 14 + j, none⟩ = some (.int .i64 ((c j : Nat) : Int)) ∧ W.frozen? ⟨g, 14 + j, none⟩ = false :=
  ⟨(ucell h.bl _).trans (accC_get2 f c j hj), ufree h.bl _⟩

/-! ### A number below 2^63 at a place of limbs -/
def part (i wd k : Nat) : Nat := if k = i then wd % 4294967296 else if k = i + 1 then wd / 4294967296 else 0
theorem part_low (i wd : Nat) : ∀ m, m ≤ i → vt (part i wd) m = 0
  | 0, _ => rfl
  | m + 1, h => by
    rw [vt, part_low i wd m (by omega), part, if_neg (by omega), if_neg (by omega)]
    simp
theorem part_all (i wd : Nat) : ∀ m, i + 2 ≤ m → vt (part i wd) m = wd * 2 ^ (32 * i)
  | 0, h => by omega
  | m + 1, h => by
    rcases Nat.lt_or_ge (i + 2) (m + 1) with h1 | h1
    · rw [vt, part_all i wd m (by omega), part, if_neg (by omega), if_neg (by omega)]
      simp
    · have e : m = i + 1 := by omega
      subst e
      rw [vt, vt, part_low i wd i (Nat.le_refl _)]
      have e1 : part i wd i = wd % 4294967296 := if_pos rfl
      have e2 : part i wd (i + 1) = wd / 4294967296 := by unfold part; rw [if_neg (by omega), if_pos rfl]
      rw [e1, e2, p32, Nat.zero_add, Nat.mul_comm (2 ^ (32 * i)) 4294967296, ← Nat.mul_assoc, ← Nat.add_mul]
      congr 1
      omega
theorem part_lt (i wd k : Nat) (h : wd < 18446744073709551616) : part i wd k < 4294967296 := by
  unfold part
  split
  · omega
  · split <;> omega
/-- One limb of a sum. -/
theorem limb_add {f f' p : Nat → Nat} {q cy v : Nat} (h : vt f' q + cy * 2 ^ (32 * q) = vt f q + vt p q) (hv : v = f q + p q + cy) :
    vt (updN f' q (v % 4294967296)) (q + 1) + v / 4294967296 * 2 ^ (32 * (q + 1)) = vt f (q + 1) + vt p (q + 1) := by
  rw [vt, vt, vt, vt_updN _ _ _ _ (Nat.le_refl _), updN_same, p32]
  obtain ⟨P, eP⟩ : ∃ P, P = 2 ^ (32 * q) := ⟨_, rfl⟩
  rw [← eP] at h ⊢
  have e1 : v % 4294967296 * P + v / 4294967296 * (P * 4294967296) = v * P := by
    rw [Nat.mul_comm P, ← Nat.mul_assoc, ← Nat.add_mul]
    congr 1
    omega
  have e2 : v * P = f q * P + p q * P + cy * P := by rw [hv, Nat.add_mul, Nat.add_mul]
  omega
/-- One limb of a difference: cy is what was lent. -/
theorem limb_sub {f f' p : Nat → Nat} {q cy v cy' : Nat} (h : vt f' q + vt p q = vt f q + cy * 2 ^ (32 * q)) (hv : v + p q + cy = f q + cy' * 4294967296) :
    vt (updN f' q v) (q + 1) + vt p (q + 1) = vt f (q + 1) + cy' * 2 ^ (32 * (q + 1)) := by
  rw [vt, vt, vt, vt_updN _ _ _ _ (Nat.le_refl _), updN_same, p32]
  obtain ⟨P, eP⟩ : ∃ P, P = 2 ^ (32 * q) := ⟨_, rfl⟩
  rw [← eP] at h ⊢
  have e2 : v * P + p q * P + cy * P = f q * P + cy' * (P * 4294967296) := by
    rw [Nat.mul_comm P, ← Nat.mul_assoc, ← Nat.add_mul, ← Nat.add_mul, ← Nat.add_mul, hv]
  omega
end Go.Proofs.Ytmeifciagepmpaa
