/- Rows of samples of the call's own: append, store. The exact sum asks for no order. -/
import Derived.Test.YtmeifciagepmpaaLawL
import Derived.Maps.AppendAt
namespace Go.Proofs.Ytmeifciagepmpaa
open Go.RowKit Go.Proofs.YtmeifciagepmpaaW.PrintWords
set_option linter.unusedSimpArgs false
set_option linter.unusedVariables false

def catN (x : Nat → Nat) (n : Nat) (y : Nat → Nat) : Nat → Nat := fun k => if k < n then x k else y (k - n)
theorem rowL_len (n : Nat) (x : Nat → Nat) : (rowL n x).length = n := by simp [rowL]
theorem rowL_cat (n m : Nat) (x y : Nat → Nat) : rowL n x ++ rowL m y = rowL (n + m) (catN x n y) := by
  apply List.ext_getElem?
  intro i
  rw [List.getElem?_append, rowL_len]
  by_cases h : i < n
  · have h2 : i < n + m := by omega
    simp [rowL, catN, h, h2]
  · rw [if_neg h]
    by_cases h2 : i < n + m
    · have h3 : i - n < m := by omega
      simp [rowL, catN, h, h2, h3]
    · rw [List.getElem?_eq_none (by simp [rowL]; omega), List.getElem?_eq_none (by simp [rowL]; omega)]
theorem rowL_set (n : Nat) (x : Nat → Nat) (k v : Nat) : (rowL n x).set k (.int .u32 (v : Int)) = rowL n (updN x k v) := by
  apply List.ext_getElem?
  intro i
  rw [List.getElem?_set]
  by_cases h : k = i
  · subst h
    rw [if_pos rfl, rowL_len]
    by_cases h2 : k < n
    · simp [rowL, updN, h2]
    · rw [if_neg h2, List.getElem?_eq_none (by simp [rowL]; omega)]
  · rw [if_neg h]
    by_cases h2 : i < n
    · simp [rowL, updN, h2, Ne.symm h]
    · rw [List.getElem?_eq_none (by simp [rowL]; omega), List.getElem?_eq_none (by simp [rowL]; omega)]
theorem rowL_one (n : Nat) (x : Nat → Nat) : ∀ u ∈ rowL n x, u.oneCell' = true := fun u hu => by
  simp only [rowL, List.mem_map] at hu
  obtain ⟨k, _, rfl⟩ := hu
  rfl
/-- A slice of samples in memory from block base on. -/
def OwnV (W : World) (base : Nat) (v : Value) (n : Nat) (x : Nat → Nat) : Prop := W.ownsRow base 25 1 v n (rowL n x)
theorem OwnV.row {W : World} {base : Nat} {v : Value} {n : Nat} {x : Nat → Nat} (h : OwnV W base v n x) : ∃ A c, v = .slice A n c ∧ n ≤ c ∧ RowU W A n x ∧ (∀ ad, A = some ad → base ≤ ad.block ∧ ad.block < W.heap.size ∧ v.ownBlock = some ad.block) ∧ (A = none → n = 0) := by
  obtain ⟨hl, h⟩ := h
  rcases h with ⟨rfl, rfl⟩ | ⟨g, cap, cur, rfl, hbg, hg, hnc, hcm, hcs, htake⟩
  · exact ⟨none, 0, rfl, Nat.le_refl _, RowU.nil _ _ _, (fun ad e => by cases e), fun _ => rfl⟩
  · refine ⟨_, _, rfl, hnc, fun hn => ⟨_, rfl, fun i hi => ?_⟩, fun ad e => ?_, fun e => by cases e⟩
    · rw [add_plain, ucell hg]
      have h1 : (rowL n x)[i]? = some (.int .u32 ((x i : Nat) : Int)) := by simp [rowL, hi]
      rw [← htake, List.getElem?_take, if_pos (by omega), Array.getElem?_toList] at h1
      exact h1
    · injection e with e
      subst e
      exact ⟨hbg, (Array.getElem?_eq_some_iff.1 hg).1, rfl⟩
theorem OwnV.nil (W : World) (base : Nat) (x : Nat → Nat) : OwnV W base (.slice none 0 0) 0 x := ⟨rfl, .inl ⟨rfl, rfl⟩⟩
theorem OwnV.kept {W W' : World} {base : Nat} {v : Value} {n : Nat} {x : Nat → Nat} (h : OwnV W base v n x) {row : Option Nat} (hg : W.grownBy W' row) (hne : v.ownBlock = none ∨ v.ownBlock ≠ row) : OwnV W' base v n x := World.ownsRow.kept h hg hne
theorem OwnV.below {W W' : World} {base : Nat} {v : Value} {n : Nat} {x : Nat → Nat} (h : OwnV W base v n x) (hb : Below W.heap.size W W') : OwnV W' base v n x :=
  h.kept (grown_below none hb) (by cases v.ownBlock <;> simp)
/-- A row that a literal makes. -/
theorem OwnV.lit (W : World) (base : Nat) (l : List Nat) (hb : base ≤ W.heap.size) (hl : l.length ≤ 1000) : OwnV (W.alloc (.cells (litU l) 25)) base (.slice (some ⟨W.heap.size, 0, none⟩) l.length l.length) l.length (ux l) := by
  refine ⟨by simp [rowL], .inr ⟨W.heap.size, l.length, litU l, rfl, hb, heap_alloc_new W _, Nat.le_refl _, by unfold maxLen; omega, by simp [litU], ?_⟩⟩
  apply List.ext_getElem?
  intro i
  by_cases h : i < l.length
  · simp [litU, rowL, ux, h]
  · rw [List.getElem?_eq_none (by simp [litU]; omega), List.getElem?_eq_none (by simp [rowL]; omega)]
theorem OwnV.set {W : World} {base : Nat} {ad : Addr} {n c : Nat} {x : Nat → Nat} (h : OwnV W base (.slice (some ad) n c) n x) (k v : Nat) : OwnV (W.setCell ⟨ad.block, ad.off + k, none⟩ (.int .u32 (v : Int))) base (.slice (some ad) n c) n (updN x k v) := by
  obtain ⟨hl, h⟩ := h
  rcases h with ⟨e, rfl⟩ | ⟨g, cap, cur, e, hbg, hg, hnc, hcm, hcs, htake⟩
  · cases e
  · injection e with e1 e2 e3
    injection e1 with e1
    subst e1 e3
    refine ⟨by simp [rowL], .inr ⟨g, c, cur.setIfInBounds k (.int .u32 (v : Int)), rfl, hbg, ?_, hnc, hcm, by simpa using hcs, ?_⟩⟩
    · show (W.setCell ⟨g, 0 + k, none⟩ _).heap[g]? = _
      rw [Nat.zero_add]
      exact heap_setCell_same W g k cur _ _ hg
    · rw [Array.toList_setIfInBounds, List.take_set, htake, rowL_set]
theorem run_append_of_nil (W : World) (base : Nat) (ty : TypeId) (v : Value) (n : Nat) (xs : List Value) (hown : W.ownsRow base 25 1 v n xs) (c : Nat) : (Builtin.append_ #[23, 23] ty #[v, .slice none 0 c]).run Try.prog W = .ok v W := by
  obtain ⟨i, hi, hz⟩ := Option.map_eq_some_iff.1 u_info
  rcases hown.2 with ⟨rfl, rfl⟩ | ⟨g, cap, cur, rfl, _, _, hnc, _⟩
  · simp [Builtin.append_, run_underlying Try.underlying23, sizeOf, typeInfo, hi, Builtin.lenOf, Builtin.firstCells]
  · simp [Builtin.append_, run_underlying Try.underlying23, sizeOf, typeInfo, hi, Builtin.lenOf, Builtin.firstCells, hnc, storeCells]
set_option maxRecDepth 100000 in
theorem run_appendU (W : World) (base : Nat) (ty : TypeId) (v : Value) (n : Nat) (x : Nat → Nat) (A : Option Addr) (m c : Nat) (y : Nat → Nat) (hown : OwnV W base v n x) (hb : base ≤ W.heap.size) (hr : RowU W A m y) (hlen : n + m ≤ 1000000000) :
    ∃ v' w', (Builtin.append_ #[23, 23] ty #[v, .slice A m c]).run Try.prog W = .ok v' w' ∧ OwnV w' base v' (n + m) (catN x n y) ∧ W.grownBy w' v.ownBlock ∧ (v'.ownBlock = v.ownBlock ∨ v'.ownBlock = some W.heap.size) := by
  obtain ⟨i, hi, hz⟩ := Option.map_eq_some_iff.1 u_info
  simp only [Prod.mk.injEq] at hz
  have fin : ∀ {v' w'}, w'.ownsRow base 25 1 v' (n + m) (rowL n x ++ rowL m y) → OwnV w' base v' (n + m) (catN x n y) := fun h => by unfold OwnV; rw [← rowL_cat]; exact h
  cases A with
  | none =>
    have hm : m = 0 := by
      rcases Nat.eq_zero_or_pos m with h0 | h0
      · exact h0
      · obtain ⟨ad, h, _⟩ := hr h0; cases h
    subst hm
    exact ⟨v, W, run_append_of_nil W base ty v n _ hown c, fin (by have h : W.ownsRow base 25 1 v n (rowL n x) := hown; simpa [rowL] using h), World.grownBy.refl W _, .inl rfl⟩
  | some ad =>
    have hc : ∀ j u, (rowL m y)[j]? = some u → W.cell? (ad.add j) = some u := fun j u h => by
      obtain ⟨h1, h2⟩ := rowL_get m y j u h
      obtain ⟨ad', e, hc⟩ := hr (by omega)
      injection e with e
      subst e
      rw [h2, hc j h1]
    obtain ⟨v', w', hrun, h2, h3, _, h5⟩ := run_append_own_at (P := Try.prog) W base 23 ty 25 i (.int .u32 0) 1 4 Try.underlying23 hi hz.1 hz.2.1 hz.2.2 rfl (by decide) v n (rowL n x) hown ad m c (rowL m y) (by rw [rowL_len, Nat.mul_one]) hc (rowL_one m y) (by unfold maxLen; omega) (by omega) hb
    exact ⟨v', w', hrun, fin h2, h3, h5⟩

/-! ### The sum of a list asks for no order -/
theorem acPlus_cancel {S T U : Ac} (h : acPlus S U = acPlus T U) : S = T := by
  cases S; cases T; cases U
  simp only [acPlus, Ac.mk.injEq] at h ⊢
  refine ⟨?_, ?_, ?_, ?_, ?_, ?_⟩ <;> omega
theorem acAll_upd (S : Ac) (x : Nat → Nat) (i v : Nat) : ∀ n, i < n → acPlus (acAll S (updN x i v) n) (acOne (x i)) = acPlus (acAll S x n) (acOne v)
  | 0, h => by omega
  | n + 1, h => by
    rw [acAll, acAll]
    by_cases e : i = n
    · subst e
      rw [updN_same, acAll_congr (x := updN x i v) (y := x) i (fun j hj => updN_other _ _ (by omega)), acPlus_assoc, acPlus_assoc, acPlus_comm (acOne v)]
    · rw [updN_other _ _ (Ne.symm e)]
      have ih := acAll_upd S x i v n (by omega)
      rw [acPlus_assoc, acPlus_comm (acOne (x n)), ← acPlus_assoc, ih, acPlus_assoc, acPlus_comm (acOne v), ← acPlus_assoc]
theorem acAll_swap (S : Ac) (x : Nat → Nat) (i j n : Nat) (hi : i < n) (hj : j < n) : acAll S (updN (updN x i (x j)) j (x i)) n = acAll S x n := by
  have h1 := acAll_upd S x i (x j) n hi
  by_cases e : i = j
  · subst e
    have : updN (updN x i (x i)) i (x i) = x := by funext k; unfold updN; split <;> rename_i h <;> simp_all
    rw [this]
  · have h2 := acAll_upd S (updN x i (x j)) j (x i) n hj
    rw [updN_other _ _ (Ne.symm e)] at h2
    apply acPlus_cancel (U := acOne (x j))
    rw [h2, h1]
theorem acAll_cat (S : Ac) (x y : Nat → Nat) (n m : Nat) : acAll S (catN x n y) (n + m) = acAll (acAll S x n) y m := by
  rw [acAll_split, acAll_congr (x := catN x n y) (y := x) n (fun i hi => if_pos hi)]
  apply acAll_congr
  intro i hi
  unfold catN
  rw [if_neg (by omega)]
  congr 1
  omega
end Go.Proofs.Ytmeifciagepmpaa
