/- halidelaw3.place, shuffled. -/
import Derived.Test.YtmeifciagepmpaaRow
namespace Go.Proofs.Ytmeifciagepmpaa
open Go.RowKit Go.Proofs.YtmeifciagepmpaaW.PrintWords
set_option linter.unusedSimpArgs false
set_option linter.unusedVariables false

theorem i64_mask31 (a : Nat) (ha : a < 9223372036854775808) : bits .and .i64 (a : Int) 2147483647 = ((a % 2147483648 : Nat) : Int) := by
  have h := (bits_nat .i64 63 (by decide) (fun n h0 h1 => IntWalk.i64_in n (by omega)) a 2147483647 ha (by decide)).1
  rw [show (2147483647 : Nat) = 2 ^ 31 - 1 from rfl, Nat.and_two_pow_sub_one_eq_mod] at h
  exact h

set_option maxHeartbeats 1600000 in
set_option maxRecDepth 100000 in
theorem place_calls (w : World) (k n : Int) (hk : -9223372036854775808 ≤ k ∧ k ≤ 9223372036854775807) (hn : 0 < n) (hn2 : n ≤ 4611686018427387904) :
    Calls Try.prog 31 #[.int .i64 k, .int .i64 n] w fun e w' => e = .returned (.int .i64 (k % n)) ∧ w = w' := by
  have h0 : (n == 0) = false := by rw [beq_eq_false_iff_ne]; omega
  have hb := Int.emod_nonneg k (show n ≠ 0 by omega)
  have hb2 := Int.emod_lt_of_pos k hn
  obtain ⟨t, et⟩ : ∃ t, t = k.tmod n := ⟨_, rfl⟩
  have ht : t = k % n ∨ (t + n = k % n ∧ t < 0) := by
    rw [et]
    rcases Int.lt_or_le k 0 with h | h; rotate_left
    · left; rw [Int.tmod_eq_emod_of_nonneg h]
    · have := Int.tmod_eq_emod (a := k) (b := n)
      rw [this]
      by_cases h1 : 0 ≤ k ∨ n ∣ k
      · rw [if_pos h1]; left; omega
      · rw [if_neg h1]
        right
        have : (n.natAbs : Int) = n := by omega
        omega
  have hlo : -n ≤ t ∧ t < n := by omega
  obtain ⟨r, er⟩ : ∃ r, r = k % n := ⟨_, rfl⟩
  rw [← er] at hb hb2 ht ⊢
  have HT := Lib.hid ht
  have W1 : IntKind.i64.wrap t = t := IntWalk.i64_in _ (by omega)
  have TM : k.tmod n = t := et.symm
  clear et er ht
  by_cases hneg : t < 0
  · have W2 : IntKind.i64.wrap (t + n) = t + n := IntWalk.i64_in _ (by omega)
    have E : Hid (t + n = r) := (show _ = _ by rcases HT.out with h | h <;> omega)
    clear HT
    go_enter Try.func31, Try.ntmps31
    go_wp2
    go_ret
    exact ⟨ret_int (by rw [← E.out]), rfl⟩
  · have E : Hid (t = r) := (show _ = _ by rcases HT.out with h | h <;> omega)
    clear HT
    go_enter Try.func31, Try.ntmps31
    go_wp2
    go_ret
    exact ⟨ret_int (by rw [← E.out]), rfl⟩

theorem OwnV.form {W : World} {base : Nat} {v : Value} {n : Nat} {x : Nat → Nat} (h : OwnV W base v n x) (hn : 0 < n) : ∃ g c, v = .slice (some ⟨g, 0, none⟩) n c ∧ base ≤ g ∧ n ≤ c ∧ (∀ k, k < n → W.cell? ⟨g, k, none⟩ = some (.int .u32 ((x k : Nat) : Int))) ∧ ∀ k, W.frozen? ⟨g, k, none⟩ = false := by
  obtain ⟨hl, h⟩ := h
  rcases h with ⟨e, e2⟩ | ⟨g, cap, cur, e, hbg, hg, hnc, hcm, hcs, htake⟩
  · subst e
    exact absurd hl (by omega)
  · refine ⟨g, cap, e, hbg, hnc, fun k hk => ?_, fun k => by simp [World.frozen?, hg]⟩
    rw [ucell hg]
    have h1 : (rowL n x)[k]? = some (.int .u32 ((x k : Nat) : Int)) := by simp [rowL, hk]
    rw [← htake, List.getElem?_take, if_pos (by omega), Array.getElem?_toList] at h1
    exact h1

def ShufEnd (w : World) (n : Nat) (x : Nat → Nat) (e : Ending) (w' : World) : Prop := ∃ (v : Value) (y : Nat → Nat), e = .returned v ∧ OwnV w' w.heap.size v n y ∧ (∀ k, k < n → y k < 4294967296) ∧ acAll acNone y n = acAll acNone x n ∧ Below w.heap.size w w'
def ShufIn (w : World) (v : Value) (n : Nat) (x : Nat → Nat) (W : World) : Prop := ∃ y, OwnV W w.heap.size v n y ∧ (∀ k, k < n → y k < 4294967296) ∧ acAll acNone y n = acAll acNone x n ∧ Below w.heap.size w W
theorem ShufIn.drew {w W : World} {v : Value} {n : Nat} {x : Nat → Nat} (h : ShufIn w v n x W) : ShufIn w v n x W.drew := by
  obtain ⟨y, h1, h2, h3, h4⟩ := h
  exact ⟨y, h1, h2, h3, h4.drew⟩
theorem ShufIn.swap {w W : World} {g n c : Nat} {x y : Nat → Nat} (h1 : OwnV W w.heap.size (.slice (some ⟨g, 0, none⟩) n c) n y) (h2 : ∀ k, k < n → y k < 4294967296) (h3 : acAll acNone y n = acAll acNone x n) (h4 : Below w.heap.size w W) (hg : w.heap.size ≤ g) (i j : Nat) (hi : i < n) (hj : j < n) :
    ShufIn w (.slice (some ⟨g, 0, none⟩) n c) n x ((W.setCell ⟨g, i, none⟩ (.int .u32 ((y j : Nat) : Int))).setCell ⟨g, j, none⟩ (.int .u32 ((y i : Nat) : Int))) := by
  have a1 := h1.set i (y j)
  have a2 := a1.set j (y i)
  simp only [Nat.zero_add] at a1 a2
  refine ⟨_, a2, fun k hk => ?_, ?_, ?_⟩
  · unfold updN
    by_cases e : k = j
    · rw [if_pos e]; exact h2 i hi
    · rw [if_neg e]
      by_cases e2 : k = i
      · rw [if_pos e2]; exact h2 j hj
      · rw [if_neg e2]; exact h2 k hk
  · rw [acAll_swap _ _ _ _ _ hi hj, h3]
  · exact (h4.setCell (p := ⟨g, i, none⟩) hg _).setCell (p := ⟨g, j, none⟩) hg _

set_option maxHeartbeats 3200000 in
set_option maxRecDepth 100000 in
theorem shuffled_calls (w : World) (A : Option Addr) (n c : Nat) (x : Nat → Nat) (k : Int) (hk : -9223372036854775808 ≤ k ∧ k ≤ 9223372036854775807) (hr : RowU w A n x) (hc : n ≤ c) (hn : n ≤ 1000000) (hx : ∀ k, k < n → x k < 4294967296) :
    Calls Try.prog 36 #[.slice A n c, .int .i64 k] w fun e w' => ShufEnd w n x e w' := by
  obtain ⟨v1, w1, hrun, hown, hgr, hat⟩ := run_appendU w w.heap.size 23 (.slice none 0 0) 0 x A n c x (OwnV.nil _ _ _) (Nat.le_refl _) hr (by omega)
  have H1 : Hid (ShufIn w v1 n x w1) := (show ∃ y, _ from ⟨x, (by
    have h := hown
    unfold OwnV at h ⊢
    rw [Nat.zero_add] at h
    rw [show rowL n (catN x 0 x) = rowL n x by unfold rowL; apply List.map_congr_left; intro i _; simp [catN]] at h
    exact h), hx, rfl, (Below.refl _ _).grown hgr (Nat.le_refl _) (fun k e => by cases e)⟩)
  obtain ⟨A1, c1, ev1, hc1, -, hbl, -⟩ := hown.row
  rw [Nat.zero_add] at ev1 hc1
  subst ev1
  have HP := Lib.hid fun W => place_calls W k 2147483647 hk (by decide) (by decide)
  obtain ⟨s0, es0⟩ : ∃ s : Nat, (s : Int) = k % 2147483647 := ⟨(k % 2147483647).toNat, by omega⟩
  have hs0 : s0 < 2147483648 := by omega
  rw [← es0] at HP
  have HRUN := Lib.hid hrun
  clear hown hgr hat hr hx es0 hbl hk hrun
  go_enter Try.func36, Try.ntmps36
  go_wp2_with first | (at_builtin; refine wpList_append_run rfl _ _ 23 rfl _ _ rfl rfl _ w1 HRUN.out ?_) | (go_at_call 31; refine (HP.out _).mono ?_; rintro e1 w2 ⟨rfl, rfl⟩)
  go_loopg [6, 7, 8] n (fun kq v6 v7 v8 wr => ∃ s q : Nat, v6 = .int .i64 (s : Int) ∧ v7 = .int .i64 ((q : Int) - 1) ∧ s < 2147483648 ∧ q ≤ n ∧ q ≤ kq ∧ Aside (ShufIn w (.slice A1 n c1) n x wr))
  case atStart => exact ⟨s0, n, rfl, by first | rfl | go_num, hs0, Nat.le_refl _, Nat.le_refl _, H1.out⟩
  case round =>
    obtain ⟨s, q, rfl, rfl, hs, hq, hqk, HI⟩ := hrel
    by_cases hlt : 2 ≤ q
    · obtain ⟨i, rfl⟩ : ∃ i, q = i + 1 := ⟨q - 1, by omega⟩
      have e1 : ((i + 1 : Nat) : Int) - 1 = (i : Int) := by omega
      rw [e1]
      have hi0 : (0 : Int) < (i : Int) := by omega
      have hin : (i : Int) < (n : Int) := by omega
      obtain ⟨t, et⟩ : ∃ t, t = s * 1103515 + 12345 := ⟨_, rfl⟩
      obtain ⟨s2, es2⟩ : ∃ t', t' = t % 2147483648 := ⟨_, rfl⟩
      obtain ⟨u, eu⟩ : ∃ u, u = s2 / 64 := ⟨_, rfl⟩
      obtain ⟨j, ej⟩ : ∃ j, j = u % (i + 1) := ⟨_, rfl⟩
      have hs2 : s2 < 2147483648 := by omega
      have hj : j < i + 1 := by rw [ej]; exact Nat.mod_lt _ (by omega)
      have hj0 : (0 : Int) ≤ (j : Int) := by omega
      have hjn : (j : Int) < (n : Int) := by omega
      have W1 : IntKind.i64.wrap ((s : Int) * 1103515) = (s : Int) * 1103515 := IntWalk.i64_in _ (by omega)
      have W2 : IntKind.i64.wrap ((s : Int) * 1103515 + 12345) = (t : Int) := by rw [IntWalk.i64_in _ (by omega)]; omega
      have W3 := i64_mask31 t (by omega)
      rw [← es2] at W3
      have W4 : (s2 : Int) / 64 = (u : Int) := by omega
      have W5 : (u : Int) % ((i : Int) + 1) = (j : Int) := by rw [ej]; push_cast; rfl
      have W6 : IntKind.i64.wrap ((i : Int) + 1) = (i : Int) + 1 := IntWalk.i64_in _ (by omega)
      have hz : ((i : Int) + 1 == 0) = false := by rw [beq_eq_false_iff_ne]; omega
      have hu0 : (0 : Int) ≤ (u : Int) := by omega
      obtain ⟨y, hy1, hy2, hy3, hy4⟩ := HI.out
      obtain ⟨g, c2, ev2, hgb, -, hcel, hfre⟩ := hy1.form (by omega)
      injection ev2 with ea1 _ ec1
      subst ea1 ec1
      have hin2 : i < n := by omega
      have hjn2 : j < n := by omega
      have c1' := hcel i hin2
      have c2' := hcel j hjn2
      have f1 := hfre i
      have f2 := hfre j
      have HFI := Lib.hid (ShufIn.swap hy1 hy2 hy3 hy4 hgb i j hin2 hjn2).drew
      obtain ⟨u3, c3⟩ : ∃ u, (wr.setCell ⟨g, i, none⟩ (.int .u32 ((y j : Nat) : Int))).cell? ⟨g, j, none⟩ = some u := by
        obtain ⟨_, h, _⟩ : ∃ u, (wr.setCell ⟨g, i, none⟩ (.int .u32 ((y j : Nat) : Int))).cell? ⟨g, j, none⟩ = some u ∧ True := by
          by_cases e : i = j
          · subst e; exact ⟨_, World.cell?_setCell_same _ _ _ c1', trivial⟩
          · exact ⟨_, (World.cell?_setCell_other _ _ _ _ (by intro e'; simp only [Addr.mk.injEq] at e'; omega)).trans c2', trivial⟩
        exact ⟨_, h⟩
      obtain ⟨yi, eyi⟩ : ∃ z, z = y i := ⟨_, rfl⟩
      obtain ⟨yj, eyj⟩ : ∃ z, z = y j := ⟨_, rfl⟩
      rw [← eyi, ← eyj] at HFI
      rw [← eyi] at c1'
      rw [← eyj] at c2' c3
      clear et es2 eu ej hy1 hy2 hy3 hy4 hcel HI hfre eyi eyj
      go_wp2_with fail
      go_big_region
      clear c1' c2' c3 f1 f2
      generalize ((wr.setCell ⟨g, i, none⟩ (.int .u32 (yj : Int))).setCell ⟨g, j, none⟩ (.int .u32 (yi : Int))).drew = w3 at HFI ⊢
      clear W1 W2 W3 W4 W5 W6
      go_wp2
      go_roundg i
      case measure => omega
      case rel => exact ⟨s2, i, rfl, by go_num, hs2, by omega, Nat.le_refl _, HFI.out⟩
    · have hlt2 : ¬ (0 : Int) < (q : Int) - 1 := by omega
      obtain ⟨y, hy1, hy2, hy3, hy4⟩ := HI.out
      have HY := Lib.hid hy1
      have HY2 := Lib.hid hy2
      have HY3 := Lib.hid hy3
      have HY4 := Lib.hid hy4
      clear hy1 hy2 hy3 hy4 HI
      go_wp2
      go_ret
      exact ⟨_, y, rfl, HY.out, HY2.out, HY3.out, HY4.out⟩
end Go.Proofs.Ytmeifciagepmpaa
