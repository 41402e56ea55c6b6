/- Rows of samples of the call's own: append, store. The exact sum asks for no order. halidelaw3.place, shuffled. -/
import Derived.Test.YtmeifciagepmpaaLawL
import Derived.Maps.AppendAt
namespace Go.Proofs.Ytmeifciagepmpaa
open Go.RowKit Go.Proofs.YtmeifciagepmpaaW.PrintWords
set_option linter.unusedSimpArgs false
set_option linter.unusedVariables false

def catN (x : Nat → Nat) (n : Nat) (y : Nat → Nat) : Nat → Nat := fun k => if k < n then x k else y (k - n)
theorem rowL_len (n : Nat) (x : Nat → Nat) : (rowL n x).length = n := by simp [rowL]
theorem rowL_cat (n m : Nat) (x y : Nat → Nat) : rowL n x ++ rowL m y = rowL (n + m) (catN x n y) := by
  apply List.ext_getElem?
  intro i
  rw [List.getElem?_append, rowL_len]
  by_cases h : i < n
  · have h2 : i < n + m := by omega
    simp [rowL, catN, h, h2]
  · rw [if_neg h]
    by_cases h2 : i < n + m
    · have h3 : i - n < m := by omega
      simp [rowL, catN, h, h2, h3]
    · rw [List.getElem?_eq_none (by simp [rowL]; omega), List.getElem?_eq_none (by simp [rowL]; omega)]
theorem rowL_set (n : Nat) (x : Nat → Nat) (k v : Nat) : (rowL n x).set k (.int .u32 (v : Int)) = rowL n (updN x k v) := by
  apply List.ext_getElem?
  intro i
  rw [List.getElem?_set]
  by_cases h : k = i
  · subst h
    rw [if_pos rfl, rowL_len]
    by_cases h2 : k < n
    · simp [rowL, updN, h2]
    · rw [if_neg h2, List.getElem?_eq_none (by simp [rowL]; omega)]
  · rw [if_neg h]
    by_cases h2 : i < n
    · simp [rowL, updN, h2, Ne.symm h]
    · rw [List.getElem?_eq_none (by simp [rowL]; omega), List.getElem?_eq_none (by simp [rowL]; omega)]
theorem rowL_one (n : Nat) (x : Nat → Nat) : ∀ u ∈ rowL n x, u.oneCell' = true := fun u hu => by
  simp only [rowL, List.mem_map] at hu
  obtain ⟨k, _, rfl⟩ := hu
  rfl
/-- A slice of samples in memory from block base on. -/
def OwnV (W : World) (base : Nat) (v : Value) (n : Nat) (x : Nat → Nat) : Prop := W.ownsRow base 25 1 v n (rowL n x)
theorem OwnV.row {W : World} {base : Nat} {v : Value} {n : Nat} {x : Nat → Nat} (h : OwnV W base v n x) : ∃ A c, v = .slice A n c ∧ n ≤ c ∧ RowU W A n x ∧ (∀ ad, A = some ad → base ≤ ad.block ∧ ad.block < W.heap.size ∧ v.ownBlock = some ad.block) ∧ (A = none → n = 0) := by
  obtain ⟨hl, h⟩ := h
  rcases h with ⟨rfl, rfl⟩ | ⟨g, cap, cur, rfl, hbg, hg, hnc, hcm, hcs, htake⟩
  · exact ⟨none, 0, rfl, Nat.le_refl _, RowU.nil _ _ _, (fun ad e => by cases e), fun _ => rfl⟩
  · refine ⟨_, _, rfl, hnc, fun hn => ⟨_, rfl, fun i hi => ?_⟩, fun ad e => ?_, fun e => by cases e⟩
    · rw [add_plain, ucell hg]
      have h1 : (rowL n x)[i]? = some (.int .u32 ((x i : Nat) : Int)) := by simp [rowL, hi]
      rw [← htake, List.getElem?_take, if_pos (by omega), Array.getElem?_toList] at h1
      exact h1
    · injection e with e
      subst e
      exact ⟨hbg, (Array.getElem?_eq_some_iff.1 hg).1, rfl⟩
theorem OwnV.nil (W : World) (base : Nat) (x : Nat → Nat) : OwnV W base (.slice none 0 0) 0 x := ⟨rfl, .inl ⟨rfl, rfl⟩⟩
theorem OwnV.kept {W W' : World} {base : Nat} {v : Value} {n : Nat} {x : Nat → Nat} (h : OwnV W base v n x) {row : Option Nat} (hg : W.grownBy W' row) (hne : v.ownBlock = none ∨ v.ownBlock ≠ row) : OwnV W' base v n x := World.ownsRow.kept h hg hne
theorem OwnV.below {W W' : World} {base : Nat} {v : Value} {n : Nat} {x : Nat → Nat} (h : OwnV W base v n x) (hb : Below W.heap.size W W') : OwnV W' base v n x :=
  h.kept (grown_below none hb) (by cases v.ownBlock <;> simp)
/-- A row that a literal makes. -/
theorem OwnV.lit (W : World) (base : Nat) (l : List Nat) (hb : base ≤ W.heap.size) (hl : l.length ≤ 1000) : OwnV (W.alloc (.cells (litU l) 25)) base (.slice (some ⟨W.heap.size, 0, none⟩) l.length l.length) l.length (ux l) := by
  refine ⟨by simp [rowL], .inr ⟨W.heap.size, l.length, litU l, rfl, hb, heap_alloc_new W _, Nat.le_refl _, by unfold maxLen; omega, by simp [litU], ?_⟩⟩
  apply List.ext_getElem?
  intro i
  by_cases h : i < l.length
  · simp [litU, rowL, ux, h]
  · rw [List.getElem?_eq_none (by simp [litU]; omega), List.getElem?_eq_none (by simp [rowL]; omega)]
theorem OwnV.set {W : World} {base : Nat} {ad : Addr} {n c : Nat} {x : Nat → Nat} (h : OwnV W base (.slice (some ad) n c) n x) (k v : Nat) : OwnV (W.setCell ⟨ad.block, ad.off + k, none⟩ (.int .u32 (v : Int))) base (.slice (some ad) n c) n (updN x k v) := by
  obtain ⟨hl, h⟩ := h
  rcases h with ⟨e, rfl⟩ | ⟨g, cap, cur, e, hbg, hg, hnc, hcm, hcs, htake⟩
  · cases e
  · injection e with e1 e2 e3
    injection e1 with e1
    subst e1 e3
    refine ⟨by simp [rowL], .inr ⟨g, c, cur.setIfInBounds k (.int .u32 (v : Int)), rfl, hbg, ?_, hnc, hcm, by simpa using hcs, ?_⟩⟩
    · show (W.setCell ⟨g, 0 + k, none⟩ _).heap[g]? = _
      rw [Nat.zero_add]
      exact heap_setCell_same W g k cur _ _ hg
    · rw [Array.toList_setIfInBounds, List.take_set, htake, rowL_set]
theorem run_append_of_nil (W : World) (base : Nat) (ty : TypeId) (v : Value) (n : Nat) (xs : List Value) (hown : W.ownsRow base 25 1 v n xs) (c : Nat) : (Builtin.append_ #[23, 23] ty #[v, .slice none 0 c]).run Try.prog W = .ok v W := by
  obtain ⟨i, hi, hz⟩ := Option.map_eq_some_iff.1 u_info
  rcases hown.2 with ⟨rfl, rfl⟩ | ⟨g, cap, cur, rfl, _, _, hnc, _⟩
  · simp [Builtin.append_, run_underlying Try.underlying23, sizeOf, typeInfo, hi, Builtin.lenOf, Builtin.firstCells]
  · simp [Builtin.append_, run_underlying Try.underlying23, sizeOf, typeInfo, hi, Builtin.lenOf, Builtin.firstCells, hnc, storeCells]
set_option maxRecDepth 100000 in
theorem run_appendU (W : World) (base : Nat) (ty : TypeId) (v : Value) (n : Nat) (x : Nat → Nat) (A : Option Addr) (m c : Nat) (y : Nat → Nat) (hown : OwnV W base v n x) (hb : base ≤ W.heap.size) (hr : RowU W A m y) (hlen : n + m ≤ 1000000000) :
    ∃ v' w', (Builtin.append_ #[23, 23] ty #[v, .slice A m c]).run Try.prog W = .ok v' w' ∧ OwnV w' base v' (n + m) (catN x n y) ∧ W.grownBy w' v.ownBlock ∧ (v'.ownBlock = v.ownBlock ∨ v'.ownBlock = some W.heap.size) := by
  obtain ⟨i, hi, hz⟩ := Option.map_eq_some_iff.1 u_info
  simp only [Prod.mk.injEq] at hz
  have fin : ∀ {v' w'}, w'.ownsRow base 25 1 v' (n + m) (rowL n x ++ rowL m y) → OwnV w' base v' (n + m) (catN x n y) := fun h => by unfold OwnV; rw [← rowL_cat]; exact h
  cases A with
  | none =>
    have hm : m = 0 := by
      rcases Nat.eq_zero_or_pos m with h0 | h0
      · exact h0
      · obtain ⟨ad, h, _⟩ := hr h0; cases h
    subst hm
    exact ⟨v, W, run_append_of_nil W base ty v n _ hown c, fin (by have h : W.ownsRow base 25 1 v n (rowL n x) := hown; simpa [rowL] using h), World.grownBy.refl W _, .inl rfl⟩
  | some ad =>
    have hc : ∀ j u, (rowL m y)[j]? = some u → W.cell? (ad.add j) = some u := fun j u h => by
      obtain ⟨h1, h2⟩ := rowL_get m y j u h
      obtain ⟨ad', e, hc⟩ := hr (by omega)
      injection e with e
      subst e
      rw [h2, hc j h1]
    obtain ⟨v', w', hrun, h2, h3, _, h5⟩ := run_append_own_at (P := Try.prog) W base 23 ty 25 i (.int .u32 0) 1 4 Try.underlying23 hi hz.1 hz.2.1 hz.2.2 rfl (by decide) v n (rowL n x) hown ad m c (rowL m y) (by rw [rowL_len, Nat.mul_one]) hc (rowL_one m y) (by unfold maxLen; omega) (by omega) hb
    exact ⟨v', w', hrun, fin h2, h3, h5⟩

/-! ### The sum of a list asks for no order -/
theorem acPlus_cancel {S T U : Ac} (h : acPlus S U = acPlus T U) : S = T := by
  cases S; cases T; cases U
  simp only [acPlus, Ac.mk.injEq] at h ⊢
  refine ⟨?_, ?_, ?_, ?_, ?_, ?_⟩ <;> omega
theorem acAll_upd (S : Ac) (x : Nat → Nat) (i v : Nat) : ∀ n, i < n → acPlus (acAll S (updN x i v) n) (acOne (x i)) = acPlus (acAll S x n) (acOne v)
  | 0, h => by omega
  | n + 1, h => by
    rw [acAll, acAll]
    by_cases e : i = n
    · subst e
      rw [updN_same, acAll_congr (x := updN x i v) (y := x) i (fun j hj => updN_other _ _ (by omega)), acPlus_assoc, acPlus_assoc, acPlus_comm (acOne v)]
    · rw [updN_other _ _ (Ne.symm e)]
      have ih := acAll_upd S x i v n (by omega)
      rw [acPlus_assoc, acPlus_comm (acOne (x n)), ← acPlus_assoc, ih, acPlus_assoc, acPlus_comm (acOne v), ← acPlus_assoc]
theorem acAll_swap (S : Ac) (x : Nat → Nat) (i j n : Nat) (hi : i < n) (hj : j < n) : acAll S (updN (updN x i (x j)) j (x i)) n = acAll S x n := by
  have h1 := acAll_upd S x i (x j) n hi
  by_cases e : i = j
  · subst e
    have : updN (updN x i (x i)) i (x i) = x := by funext k; unfold updN; split <;> rename_i h <;> simp_all
    rw [this]
  · have h2 := acAll_upd S (updN x i (x j)) j (x i) n hj
    rw [updN_other _ _ (Ne.symm e)] at h2
    apply acPlus_cancel (U := acOne (x j))
    rw [h2, h1]
theorem acAll_cat (S : Ac) (x y : Nat → Nat) (n m : Nat) : acAll S (catN x n y) (n + m) = acAll (acAll S x n) y m := by
  rw [acAll_split, acAll_congr (x := catN x n y) (y := x) n (fun i hi => if_pos hi)]
  apply acAll_congr
  intro i hi
  unfold catN
  rw [if_neg (by omega)]
  congr 1
  omega

theorem i64_mask31 (a : Nat) (ha : a < 9223372036854775808) : bits .and .i64 (a : Int) 2147483647 = ((a % 2147483648 : Nat) : Int) := by
  have h := (bits_nat .i64 63 (by decide) (fun n h0 h1 => IntWalk.i64_in n (by omega)) a 2147483647 ha (by decide)).1
  rw [show (2147483647 : Nat) = 2 ^ 31 - 1 from rfl, Nat.and_two_pow_sub_one_eq_mod] at h
  exact h

set_option maxHeartbeats 1600000 in
set_option maxRecDepth 100000 in
theorem place_calls (w : World) (k n : Int) (hk : -9223372036854775808 ≤ k ∧ k ≤ 9223372036854775807) (hn : 0 < n) (hn2 : n ≤ 4611686018427387904) :
    Calls Try.prog 31 #[.int .i64 k, .int .i64 n] w fun e w' => e = .returned (.int .i64 (k % n)) ∧ w = w' := by
  have h0 : (n == 0) = false := by rw [beq_eq_false_iff_ne]; omega
  have hb := Int.emod_nonneg k (show n ≠ 0 by omega)
  have hb2 := Int.emod_lt_of_pos k hn
  obtain ⟨t, et⟩ : ∃ t, t = k.tmod n := ⟨_, rfl⟩
  have ht : t = k % n ∨ (t + n = k % n ∧ t < 0) := by
    rw [et]
    rcases Int.lt_or_le k 0 with h | h; rotate_left
    · left; rw [Int.tmod_eq_emod_of_nonneg h]
    · have := Int.tmod_eq_emod (a := k) (b := n)
      rw [this]
      by_cases h1 : 0 ≤ k ∨ n ∣ k
      · rw [if_pos h1]; left; omega
      · rw [if_neg h1]
        right
        have : (n.natAbs : Int) = n := by omega
        omega
  have hlo : -n ≤ t ∧ t < n := by omega
  obtain ⟨r, er⟩ : ∃ r, r = k % n := ⟨_, rfl⟩
  rw [← er] at hb hb2 ht ⊢
  have HT := Lib.hid ht
  have W1 : IntKind.i64.wrap t = t := IntWalk.i64_in _ (by omega)
  have TM : k.tmod n = t := et.symm
  clear et er ht
  by_cases hneg : t < 0
  · have W2 : IntKind.i64.wrap (t + n) = t + n := IntWalk.i64_in _ (by omega)
    have E : Hid (t + n = r) := (show _ = _ by rcases HT.out with h | h <;> omega)
    clear HT
    go_enter Try.func31, Try.ntmps31
    go_wp2
    go_ret
    exact ⟨ret_int (by rw [← E.out]), rfl⟩
  · have E : Hid (t = r) := (show _ = _ by rcases HT.out with h | h <;> omega)
    clear HT
    go_enter Try.func31, Try.ntmps31
    go_wp2
    go_ret
    exact ⟨ret_int (by rw [← E.out]), rfl⟩

theorem OwnV.form {W : World} {base : Nat} {v : Value} {n : Nat} {x : Nat → Nat} (h : OwnV W base v n x) (hn : 0 < n) : ∃ g c, v = .slice (some ⟨g, 0, none⟩) n c ∧ base ≤ g ∧ n ≤ c ∧ (∀ k, k < n → W.cell? ⟨g, k, none⟩ = some (.int .u32 ((x k : Nat) : Int))) ∧ ∀ k, W.frozen? ⟨g, k, none⟩ = false := by
  obtain ⟨hl, h⟩ := h
  rcases h with ⟨e, e2⟩ | ⟨g, cap, cur, e, hbg, hg, hnc, hcm, hcs, htake⟩
  · subst e
    exact absurd hl (by omega)
  · refine ⟨g, cap, e, hbg, hnc, fun k hk => ?_, fun k => by simp [World.frozen?, hg]⟩
    rw [ucell hg]
    have h1 : (rowL n x)[k]? = some (.int .u32 ((x k : Nat) : Int)) := by simp [rowL, hk]
    rw [← htake, List.getElem?_take, if_pos (by omega), Array.getElem?_toList] at h1
    exact h1

def ShufEnd (w : World) (n : Nat) (x : Nat → Nat) (e : Ending) (w' : World) : Prop := ∃ (v : Value) (y : Nat → Nat), e = .returned v ∧ OwnV w' w.heap.size v n y ∧ (∀ k, k < n → y k < 4294967296) ∧ acAll acNone y n = acAll acNone x n ∧ Below w.heap.size w w'
def ShufIn (w : World) (v : Value) (n : Nat) (x : Nat → Nat) (W : World) : Prop := ∃ y, OwnV W w.heap.size v n y ∧ (∀ k, k < n → y k < 4294967296) ∧ acAll acNone y n = acAll acNone x n ∧ Below w.heap.size w W
theorem ShufIn.drew {w W : World} {v : Value} {n : Nat} {x : Nat → Nat} (h : ShufIn w v n x W) : ShufIn w v n x W.drew := by
  obtain ⟨y, h1, h2, h3, h4⟩ := h
  exact ⟨y, h1, h2, h3, h4.drew⟩
theorem ShufIn.swap {w W : World} {g n c : Nat} {x y : Nat → Nat} (h1 : OwnV W w.heap.size (.slice (some ⟨g, 0, none⟩) n c) n y) (h2 : ∀ k, k < n → y k < 4294967296) (h3 : acAll acNone y n = acAll acNone x n) (h4 : Below w.heap.size w W) (hg : w.heap.size ≤ g) (i j : Nat) (hi : i < n) (hj : j < n) :
    ShufIn w (.slice (some ⟨g, 0, none⟩) n c) n x ((W.setCell ⟨g, i, none⟩ (.int .u32 ((y j : Nat) : Int))).setCell ⟨g, j, none⟩ (.int .u32 ((y i : Nat) : Int))) := by
  have a1 := h1.set i (y j)
  have a2 := a1.set j (y i)
  simp only [Nat.zero_add] at a1 a2
  refine ⟨_, a2, fun k hk => ?_, ?_, ?_⟩
  · unfold updN
    by_cases e : k = j
    · rw [if_pos e]; exact h2 i hi
    · rw [if_neg e]
      by_cases e2 : k = i
      · rw [if_pos e2]; exact h2 j hj
      · rw [if_neg e2]; exact h2 k hk
  · rw [acAll_swap _ _ _ _ _ hi hj, h3]
  · exact (h4.setCell (p := ⟨g, i, none⟩) hg _).setCell (p := ⟨g, j, none⟩) hg _

set_option maxHeartbeats 3200000 in
set_option maxRecDepth 100000 in
theorem shuffled_calls (w : World) (A : Option Addr) (n c : Nat) (x : Nat → Nat) (k : Int) (hk : -9223372036854775808 ≤ k ∧ k ≤ 9223372036854775807) (hr : RowU w A n x) (hc : n ≤ c) (hn : n ≤ 1000000) (hx : ∀ k, k < n → x k < 4294967296) :
    Calls Try.prog 36 #[.slice A n c, .int .i64 k] w fun e w' => ShufEnd w n x e w' := by
  obtain ⟨v1, w1, hrun, hown, hgr, hat⟩ := run_appendU w w.heap.size 23 (.slice none 0 0) 0 x A n c x (OwnV.nil _ _ _) (Nat.le_refl _) hr (by omega)
  have H1 : Hid (ShufIn w v1 n x w1) := (show ∃ y, _ from ⟨x, (by
    have h := hown
    unfold OwnV at h ⊢
    rw [Nat.zero_add] at h
    rw [show rowL n (catN x 0 x) = rowL n x by unfold rowL; apply List.map_congr_left; intro i _; simp [catN]] at h
    exact h), hx, rfl, (Below.refl _ _).grown hgr (Nat.le_refl _) (fun k e => by cases e)⟩)
  obtain ⟨A1, c1, ev1, hc1, -, hbl, -⟩ := hown.row
  rw [Nat.zero_add] at ev1 hc1
  subst ev1
  have HP := Lib.hid fun W => place_calls W k 2147483647 hk (by decide) (by decide)
  obtain ⟨s0, es0⟩ : ∃ s : Nat, (s : Int) = k % 2147483647 := ⟨(k % 2147483647).toNat, by omega⟩
  have hs0 : s0 < 2147483648 := by omega
  rw [← es0] at HP
  have HRUN := Lib.hid hrun
  clear hown hgr hat hr hx es0 hbl hk hrun
  go_enter Try.func36, Try.ntmps36
  go_wp2_with first | (at_builtin; refine wpList_append_run rfl _ _ 23 rfl _ _ rfl rfl _ w1 HRUN.out ?_) | (go_at_call 31; refine (HP.out _).mono ?_; rintro e1 w2 ⟨rfl, rfl⟩)
  go_loopg [6, 7, 8] n (fun kq v6 v7 v8 wr => ∃ s q : Nat, v6 = .int .i64 (s : Int) ∧ v7 = .int .i64 ((q : Int) - 1) ∧ s < 2147483648 ∧ q ≤ n ∧ q ≤ kq ∧ Aside (ShufIn w (.slice A1 n c1) n x wr))
  case atStart => exact ⟨s0, n, rfl, by first | rfl | go_num, hs0, Nat.le_refl _, Nat.le_refl _, H1.out⟩
  case round =>
    obtain ⟨s, q, rfl, rfl, hs, hq, hqk, HI⟩ := hrel
    by_cases hlt : 2 ≤ q
    · obtain ⟨i, rfl⟩ : ∃ i, q = i + 1 := ⟨q - 1, by omega⟩
      have e1 : ((i + 1 : Nat) : Int) - 1 = (i : Int) := by omega
      rw [e1]
      have hi0 : (0 : Int) < (i : Int) := by omega
      have hin : (i : Int) < (n : Int) := by omega
      obtain ⟨t, et⟩ : ∃ t, t = s * 1103515 + 12345 := ⟨_, rfl⟩
      obtain ⟨s2, es2⟩ : ∃ t', t' = t % 2147483648 := ⟨_, rfl⟩
      obtain ⟨u, eu⟩ : ∃ u, u = s2 / 64 := ⟨_, rfl⟩
      obtain ⟨j, ej⟩ : ∃ j, j = u % (i + 1) := ⟨_, rfl⟩
      have hs2 : s2 < 2147483648 := by omega
      have hj : j < i + 1 := by rw [ej]; exact Nat.mod_lt _ (by omega)
      have hj0 : (0 : Int) ≤ (j : Int) := by omega
      have hjn : (j : Int) < (n : Int) := by omega
      have W1 : IntKind.i64.wrap ((s : Int) * 1103515) = (s : Int) * 1103515 := IntWalk.i64_in _ (by omega)
      have W2 : IntKind.i64.wrap ((s : Int) * 1103515 + 12345) = (t : Int) := by rw [IntWalk.i64_in _ (by omega)]; omega
      have W3 := i64_mask31 t (by omega)
      rw [← es2] at W3
      have W4 : (s2 : Int) / 64 = (u : Int) := by omega
      have W5 : (u : Int) % ((i : Int) + 1) = (j : Int) := by rw [ej]; push_cast; rfl
      have W6 : IntKind.i64.wrap ((i : Int) + 1) = (i : Int) + 1 := IntWalk.i64_in _ (by omega)
      have hz : ((i : Int) + 1 == 0) = false := by rw [beq_eq_false_iff_ne]; omega
      have hu0 : (0 : Int) ≤ (u : Int) := by omega
      obtain ⟨y, hy1, hy2, hy3, hy4⟩ := HI.out
      obtain ⟨g, c2, ev2, hgb, -, hcel, hfre⟩ := hy1.form (by omega)
      injection ev2 with ea1 _ ec1
      subst ea1 ec1
      have hin2 : i < n := by omega
      have hjn2 : j < n := by omega
      have c1' := hcel i hin2
      have c2' := hcel j hjn2
      have f1 := hfre i
      have f2 := hfre j
      have HFI := Lib.hid (ShufIn.swap hy1 hy2 hy3 hy4 hgb i j hin2 hjn2).drew
      obtain ⟨u3, c3⟩ : ∃ u, (wr.setCell ⟨g, i, none⟩ (.int .u32 ((y j : Nat) : Int))).cell? ⟨g, j, none⟩ = some u := by
        obtain ⟨_, h, _⟩ : ∃ u, (wr.setCell ⟨g, i, none⟩ (.int .u32 ((y j : Nat) : Int))).cell? ⟨g, j, none⟩ = some u ∧ True := by
          by_cases e : i = j
          · subst e; exact ⟨_, World.cell?_setCell_same _ _ _ c1', trivial⟩
          · exact ⟨_, (World.cell?_setCell_other _ _ _ _ (by intro e'; simp only [Addr.mk.injEq] at e'; omega)).trans c2', trivial⟩
        exact ⟨_, h⟩
      obtain ⟨yi, eyi⟩ : ∃ z, z = y i := ⟨_, rfl⟩
      obtain ⟨yj, eyj⟩ : ∃ z, z = y j := ⟨_, rfl⟩
      rw [← eyi, ← eyj] at HFI
      rw [← eyi] at c1'
      rw [← eyj] at c2' c3
      clear et es2 eu ej hy1 hy2 hy3 hy4 hcel HI hfre eyi eyj
      go_wp2_with fail
      go_big_region
      clear c1' c2' c3 f1 f2
      generalize ((wr.setCell ⟨g, i, none⟩ (.int .u32 (yj : Int))).setCell ⟨g, j, none⟩ (.int .u32 (yi : Int))).drew = w3 at HFI ⊢
      clear W1 W2 W3 W4 W5 W6
      go_wp2
      go_roundg i
      case measure => omega
      case rel => exact ⟨s2, i, rfl, by go_num, hs2, by omega, Nat.le_refl _, HFI.out⟩
    · have hlt2 : ¬ (0 : Int) < (q : Int) - 1 := by omega
      obtain ⟨y, hy1, hy2, hy3, hy4⟩ := HI.out
      have HY := Lib.hid hy1
      have HY2 := Lib.hid hy2
      have HY3 := Lib.hid hy3
      have HY4 := Lib.hid hy4
      clear hy1 hy2 hy3 hy4 HI
      go_wp2
      go_ret
      exact ⟨_, y, rfl, HY.out, HY2.out, HY3.out, HY4.out⟩
end Go.Proofs.Ytmeifciagepmpaa
