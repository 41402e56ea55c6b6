/- slices.SortStableFunc's family at []int: swapRange, rotate. The row lies in a block of its own; its cells are told by a function of the place. -/
import Derived.Test.YtdcpeeolfgohmaaRows
import Derived.Test.YtdcpeeolfgohmaaOrd
import Derived.WalkLawsBesides
import Derived.Lib.Hide
import Derived.Deep.QuietTactic
import Derived.BigQuiet
import Derived.BigRegion
import Derived.Deep.LoopGhost
namespace Go.Proofs.Ytdcpeeolfgohmaa
open Go.RowKit
set_option linter.unusedSimpArgs false
set_option linter.unusedVariables false

/-- W is w0 with new blocks, and the row at blk, of n numbers, holds d. -/
structure RowW (w0 : World) (blk n : Nat) (d : Nat → Int) (W : World) : Prop where
  g : w0.grownBy W (some blk)
  c : ∀ i, i < n → W.cell? ⟨blk, i, none⟩ = some (.int .i64 (d i))
  f : ∀ i, i < n → W.frozen? ⟨blk, i, none⟩ = false

theorem RowW.drew {w0 W : World} {blk n : Nat} {d : Nat → Int} (h : RowW w0 blk n d W) : RowW w0 blk n d W.drew :=
  ⟨⟨h.g.os, h.g.tape, h.g.output, h.g.size, h.g.block⟩, h.c, h.f⟩
theorem RowW.drewN {w0 W : World} {blk n : Nat} {d : Nat → Int} (h : RowW w0 blk n d W) (q : Nat) : RowW w0 blk n d (W.drewN q) :=
  ⟨⟨h.g.os, h.g.tape, h.g.output, h.g.size, h.g.block⟩, h.c, h.f⟩
theorem RowW.store {w0 W : World} {blk n : Nat} {d : Nat → Int} (h : RowW w0 blk n d W) (i : Nat) (v : Int) : RowW w0 blk n (upd d i v) (W.setCell ⟨blk, i, none⟩ (.int .i64 v)) := by
  refine ⟨⟨h.g.os, h.g.tape, h.g.output, by simpa [World.setCell] using h.g.size, fun k hk hne => ?_⟩, fun j hj => ?_, fun j hj => by rw [World.frozen?_setCell]; exact h.f j hj⟩
  · rw [Below.heap_setCell _ _ _ _ (fun e => hne (by rw [e]))]; exact h.g.block k hk hne
  · by_cases e : j = i
    · subst e
      rw [upd_same]
      exact World.cell?_setCell_same _ _ _ (h.c j hj)
    · rw [upd_other _ e, World.cell?_setCell_other _ _ _ _ (by intro e'; simp only [Addr.mk.injEq] at e'; omega)]
      exact h.c j hj
theorem RowW.swap {w0 W : World} {blk n : Nat} {d : Nat → Int} (h : RowW w0 blk n d W) (i j : Nat) :
    RowW w0 blk n (swapd d i j) ((W.setCell ⟨blk, i, none⟩ (.int .i64 (d j))).setCell ⟨blk, j, none⟩ (.int .i64 (d i))) := (h.store i (d j)).store j (d i)
theorem RowW.c2 {w0 W : World} {blk n : Nat} {d : Nat → Int} (h : RowW w0 blk n d W) (i j : Nat) (hj : j < n) (hi : i < n) (v : Value) :
    ∃ u, (W.setCell ⟨blk, i, none⟩ v).cell? ⟨blk, j, none⟩ = some u := by
  by_cases e : i = j
  · subst e; exact ⟨v, World.cell?_setCell_same _ _ _ (h.c i hi)⟩
  · exact ⟨_, (World.cell?_setCell_other _ _ _ _ (by intro e'; simp only [Addr.mk.injEq] at e'; omega)).trans (h.c j hj)⟩

/-- The places a .. a + m - 1 have changed with b .. b + m - 1. -/
def Swapped (a b m : Nat) (d d' : Nat → Int) : Prop := ∀ k, d' k = if a ≤ k ∧ k < a + m then d (b + (k - a)) else if b ≤ k ∧ k < b + m then d (a + (k - b)) else d k

theorem Swapped.zero (a b : Nat) (d : Nat → Int) : Swapped a b 0 d d := fun k => by rw [if_neg (by omega), if_neg (by omega)]
theorem Swapped.step {a b m : Nat} {d d' : Nat → Int} (h : Swapped a b m d d') (hab : a + m < b) : Swapped a b (m + 1) d (swapd d' (a + m) (b + m)) := fun k => by
  rw [swapd_at]
  by_cases h1 : k = b + m
  · subst h1
    rw [if_pos rfl, h (a + m), if_neg (by omega), if_neg (by omega), if_neg (by omega), if_pos (by omega), show a + (b + m - b) = a + m by omega]
  · rw [if_neg h1]
    by_cases h2 : k = a + m
    · subst h2
      rw [if_pos rfl, h (b + m), if_neg (by omega), if_neg (by omega), if_pos (by omega), show b + (a + m - a) = b + m by omega]
    · rw [if_neg h2, h k]
      by_cases h3 : a ≤ k ∧ k < a + m
      · rw [if_pos h3, if_pos (by omega)]
      · rw [if_neg h3]
        by_cases h4 : b ≤ k ∧ k < b + m
        · rw [if_pos h4, if_neg (by omega), if_pos (by omega)]
        · rw [if_neg h4, if_neg (by omega), if_neg (by omega)]

set_option maxHeartbeats 4000000 in
set_option maxRecDepth 100000 in
theorem swapRange_calls (w0 w : World) (blk n cap a b m : Nat) (d : Nat → Int) (fv : Value) (hW : RowW w0 blk n d w) (hab : a + m ≤ b) (hb : b + m ≤ n) (hn : n ≤ 1000000000) :
    Calls Try.prog 166 #[.slice (some ⟨blk, 0, none⟩) n cap, .int .i64 a, .int .i64 b, .int .i64 m, fv] w fun e w' => e = .returned (.tuple #[]) ∧ ∃ d', RowW w0 blk n d' w' ∧ Swapped a b m d d' := by
  have HW : Aside (RowW w0 blk n d w) := hW
  clear hW
  go_enter Try.func166, Try.ntmps166
  go_wp2
  go_loopg [10] m (fun k vi wr => ∃ (i : Nat) (d' : Nat → Int), vi = .int .i64 i ∧ i ≤ m ∧ m ≤ i + k ∧ Aside (RowW w0 blk n d' wr) ∧ Hid (Swapped a b i d d'))
  case atStart => exact ⟨0, d, rfl, by omega, by omega, HW, Swapped.zero a b d⟩
  case round =>
    clear HW
    obtain ⟨i, d', rfl, hi, hk, HR, HS⟩ := hrel
    by_cases hlt : i < m
    · have hltz : (i : Int) < (m : Int) := by omega
      obtain ⟨p, hp⟩ : ∃ p, p = a + i := ⟨_, rfl⟩
      obtain ⟨q, hq⟩ : ∃ q, q = b + i := ⟨_, rfl⟩
      obtain ⟨x, hx⟩ : ∃ x, x = d' p := ⟨_, rfl⟩
      obtain ⟨y, hy⟩ : ∃ y, y = d' q := ⟨_, rfl⟩
      have S3 : Aside (RowW w0 blk n (swapd d' p q) ((wr.setCell ⟨blk, p, none⟩ (.int .i64 y)).setCell ⟨blk, q, none⟩ (.int .i64 x)).drew) := by rw [hx, hy]; exact (HR.out.swap p q).drew
      have S4 : Hid (Swapped a b (i + 1) d (swapd d' p q)) := by rw [hp, hq]; exact HS.out.step (by omega)
      have c1 := HR.out.c p (by omega)
      have c2 := HR.out.c q (by omega)
      have f1 := HR.out.f p (by omega)
      have f2 := HR.out.f q (by omega)
      obtain ⟨u, c3⟩ := HR.out.c2 p q (by omega) (by omega) (.int .i64 y)
      rw [← hx] at c1
      rw [← hy] at c2
      have e1 : ((a : Int) + (i : Int)).toNat = p := by omega
      have e2 : ((b : Int) + (i : Int)).toNat = q := by omega
      have e3 : (0 : Int) ≤ (a : Int) + (i : Int) := by omega
      have e4 : (0 : Int) ≤ (b : Int) + (i : Int) := by omega
      have e5 : (a : Int) + (i : Int) < (n : Int) := by omega
      have e6 : (b : Int) + (i : Int) < (n : Int) := by omega
      have e7 : IntKind.i64.wrap ((a : Int) + (i : Int)) = (a : Int) + (i : Int) := by rw [IntKind.wrap_i64]; omega
      have e8 : IntKind.i64.wrap ((b : Int) + (i : Int)) = (b : Int) + (i : Int) := by rw [IntKind.wrap_i64]; omega
      clear HR HS hx hy hp hq
      go_wp2_with fail
      go_big_region
      clear c1 c2 c3 f1 f2
      generalize ((wr.setCell ⟨blk, p, none⟩ (.int .i64 y)).setCell ⟨blk, q, none⟩ (.int .i64 x)).drew = w3 at S3 ⊢
      clear e1 e2 e3 e4 e5 e6 e7 e8
      go_wp2
      go_roundg (m - (i + 1))
      case measure => omega
      case rel => exact ⟨i + 1, swapd d' p q, by go_num, by omega, by omega, S3, S4⟩
    · have hltz : ¬ (i : Int) < (m : Int) := by omega
      go_wp2
      go_end0
      exact ⟨rfl, d', HR.out, by have e : i = m := by omega
                                 subst e; exact HS.out⟩

/-! ### rotate -/
/-- What is left to turn: i places ahead of m and j places from m on; what is already right. -/
def RotTo (s m e i j : Nat) (d d' : Nat → Int) : Prop := Rot (m - i) m (m + j) d' (fun k => if s ≤ k ∧ k < s + (e - m) then d (m + (k - s)) else if s + (e - m) ≤ k ∧ k < e then d (k - (e - m)) else d k)

theorem RotTo.start (s m e : Nat) (d : Nat → Int) (h1 : s ≤ m) (h2 : m ≤ e) : RotTo s m e (m - s) (e - m) d d := fun k => by
  rw [show m - (m - s) = s by omega, show m + (e - m) = e by omega]

theorem rot_left {m i j : Nat} {d' d1 t : Nat → Int} (h : Rot (m - i) m (m + j) d' t) (hj : j < i) (him : i ≤ m) (hs : Swapped (m - i) m j d' d1) : Rot (m - (i - j)) m (m + j) d1 t := fun k => by
  rw [h k]
  by_cases h1 : m - i ≤ k ∧ k < m - i + (m + j - m)
  · rw [if_pos h1, if_neg (by omega), if_neg (by omega), hs k, if_pos (by omega), show m + (k - (m - i)) = m + (k - (m - i)) from rfl]
  · rw [if_neg h1]
    by_cases h2 : m - i + (m + j - m) ≤ k ∧ k < m + j
    · rw [if_pos h2]
      by_cases h3 : m - (i - j) ≤ k ∧ k < m - (i - j) + (m + j - m)
      · rw [if_pos h3, hs (m + (k - (m - (i - j)))), if_neg (by omega)]
        by_cases h4 : m ≤ m + (k - (m - (i - j))) ∧ m + (k - (m - (i - j))) < m + j
        · rw [if_pos h4, show m - i + (m + (k - (m - (i - j))) - m) = k - (m + j - m) by omega]
        · omega
      · rw [if_neg h3, if_pos (by omega), hs (k - (m + j - m)), if_neg (by omega), if_neg (by omega)]
    · rw [if_neg h2, if_neg (by omega), if_neg (by omega), hs k, if_neg (by omega), if_neg (by omega)]

theorem rot_right {m i j : Nat} {d' d1 t : Nat → Int} (h : Rot (m - i) m (m + j) d' t) (hj : i < j) (him : i ≤ m) (hs : Swapped (m - i) (m + j - i) i d' d1) : Rot (m - i) m (m + (j - i)) d1 t := fun k => by
  rw [h k]
  by_cases h1 : m - i ≤ k ∧ k < m - i + (m + j - m)
  · rw [if_pos h1]
    by_cases h2 : m - i ≤ k ∧ k < m - i + (m + (j - i) - m)
    · rw [if_pos h2, hs (m + (k - (m - i)))]
      by_cases h3 : m + j - i ≤ m + (k - (m - i)) ∧ m + (k - (m - i)) < m + j - i + i
      · omega
      · rw [if_neg (by omega), if_neg h3]
    · rw [if_neg h2]
      by_cases h3 : m - i + (m + (j - i) - m) ≤ k ∧ k < m + (j - i)
      · rw [if_pos h3, hs (k - (m + (j - i) - m)), if_pos (by omega)]
        congr 1; omega
      · omega
  · rw [if_neg h1]
    by_cases h2 : m - i + (m + j - m) ≤ k ∧ k < m + j
    · rw [if_pos h2, if_neg (by omega), if_neg (by omega), hs k, if_neg (by omega), if_pos (by omega)]
      congr 1; omega
    · rw [if_neg h2, if_neg (by omega), if_neg (by omega), hs k, if_neg (by omega), if_neg (by omega)]

theorem rot_end {m i : Nat} {d' d1 t : Nat → Int} (h : Rot (m - i) m (m + i) d' t) (him : i ≤ m) (hs : Swapped (m - i) m i d' d1) : ∀ k, d1 k = t k := fun k => by
  rw [h k, hs k]
  by_cases h1 : m - i ≤ k ∧ k < m - i + (m + i - m)
  · rw [if_pos h1, if_pos (by omega)]
  · rw [if_neg h1, if_neg (by omega)]
    by_cases h2 : m - i + (m + i - m) ≤ k ∧ k < m + i
    · rw [if_pos h2, if_pos (by omega)]; congr 1; omega
    · rw [if_neg h2, if_neg (by omega)]
end Go.Proofs.Ytdcpeeolfgohmaa
