/- halidelaw3.SumsLong: what the loop keeps. halidelaw3.SumsLong: the walk. -/
import Derived.Test.YtmeifciagepmpaaLgPW
import Derived.Test.YtmeifciagepmpaaOrC
namespace Go.Proofs.Ytmeifciagepmpaa
open Go.RowKit Go.Proofs.YtmeifciagepmpaaW.PrintWords
set_option linter.unusedSimpArgs false
set_option linter.unusedVariables false

/-- The list l of n samples with the sum V; the Acc g of i samples with the sum U. -/
structure LongX (w1 W : World) (g : Nat) (l : Value) (n : Nat) (V : Int) (i : Nat) (U : Int) (x : Nat → Nat) : Prop where
  own : OwnV W w1.heap.size l n x
  lt : ∀ k, k < n → x k < 4294967296
  sum : acAll acNone x n = longAc V n
  acc : AcAt W g (longAc U i)
  ok : AcOk (longAc U i)
  bel : Below w1.heap.size w1 W
  hg : w1.heap.size ≤ g
  ne : l.ownBlock = none ∨ l.ownBlock ≠ some g
def LongG (w1 W : World) (g : Nat) (l : Value) (n : Nat) (V : Int) (i : Nat) (U : Int) : Prop := ∃ x, LongX w1 W g l n V i U x
/-- And an Acc k of T beside them. -/
def LongH (w1 W : World) (g : Nat) (l : Value) (n : Nat) (V : Int) (i : Nat) (U : Int) (k : Nat) (T : Ac) : Prop := LongG w1 W g l n V i U ∧ AcAt W k T ∧ g < k ∧ w1.heap.size ≤ k ∧ (l.ownBlock = none ∨ l.ownBlock ≠ some k)
theorem OwnV.blk {W : World} {base n : Nat} {v : Value} {x : Nat → Nat} (h : OwnV W base v n x) : v.ownBlock = none ∨ ∃ k, v.ownBlock = some k ∧ base ≤ k ∧ k < W.heap.size := by
  obtain ⟨A, c, rfl, -, -, h3, -⟩ := h.row
  cases A with
  | none => left; rfl
  | some ad =>
    obtain ⟨h4, h5, h6⟩ := h3 ad rfl
    exact .inr ⟨_, h6, h4, h5⟩
theorem blk_other {o : Option Nat} {g : Nat} (h : o = none ∨ ∃ k, o = some k ∧ k < g) : o = none ∨ o ≠ some g := by
  rcases h with h | ⟨k, h, hk⟩
  · exact .inl h
  · right; rw [h]; intro e; injection e; omega
section
variable {w1 W W' : World} {g : Nat} {l : Value} {n i : Nat} {V U v : Int} {x : Nat → Nat} {k : Nat} {T : Ac}
theorem LongX.below (h : LongX w1 W g l n V i U x) (hb : Below W.heap.size W W') : LongX w1 W' g l n V i U x :=
  ⟨h.own.below hb, h.lt, h.sum, h.acc.below hb, h.ok, ujoin h.bel hb, h.hg, h.ne⟩
theorem LongG.below (h : LongG w1 W g l n V i U) (hb : Below W.heap.size W W') : LongG w1 W' g l n V i U := by obtain ⟨x, h⟩ := h; exact ⟨x, h.below hb⟩
theorem longG_new (hg : w1.heap.size ≤ g) (ha : AcAt W g acNone) (hb : Below w1.heap.size w1 W) : LongG w1 W g (.slice none 0 0) 0 0 0 0 := by
  refine ⟨fun _ => 0, OwnV.nil _ _ _, fun k hk => by omega, longAc_zero.symm, ?_, ?_, hb, hg, .inl rfl⟩
  · rw [longAc_zero]; exact ha
  · rw [longAc_zero]; exact acOk_none
theorem lit_below (W : World) (a : Nat) : Below W.heap.size W (W.alloc (.cells #[.int .u32 (a : Int)] 25)) := (Below.refl _ _).alloc (Nat.le_refl _) _
theorem long_app (h : LongG w1 W g l n V n V) (hv : v.natAbs < 2 ^ 24) (hn : n ≤ 100000) :
    ∃ l' W', (Builtin.append_ #[23, 23] 23 #[l, .slice (some ⟨W.heap.size, 0, none⟩) 1 1]).run Try.prog (W.alloc (.cells #[.int .u32 ((tw v : Nat) : Int)] 25)) = .ok l' W' ∧ LongG w1 W' g l' (n + 1) (V + v) n V := by
  obtain ⟨x, h⟩ := h
  have hbl := lit_below W (tw v)
  have hs := h.bel.size
  obtain ⟨l', W', h1, h2, h3, h4⟩ := run_appendU (W.alloc (.cells #[.int .u32 ((tw v : Nat) : Int)] 25)) w1.heap.size 23 l n x (some ⟨W.heap.size, 0, none⟩) 1 1 (ux [tw v]) (h.own.below hbl) (Nat.le_trans hs hbl.size) (OwnV.lit W w1.heap.size [tw v] hs (by simp)).rowA.1 (by omega)
  have hlg := h.acc.lt
  refine ⟨l', W', h1, catN x n (ux [tw v]), h2, fun k hk => ?_, ?_, ?_, h.ok, ?_, h.hg, ?_⟩
  · unfold catN
    by_cases hk2 : k < n
    · rw [if_pos hk2]; exact h.lt k hk2
    · rw [if_neg hk2, show k - n = 0 by omega]; exact tw_lt v
  · rw [acAll_cat, h.sum]
    show acPlus (longAc V n) (acOne (tw v)) = _
    rw [acOne_tw v hv, longAc_plus]
  · rcases h.ne with h5 | h5
    · obtain ⟨f, hA, hL⟩ := h.acc.below hbl
      refine ⟨f, (h3.block g (Array.getElem?_eq_some_iff.1 hA).1 ?_).trans hA, hL⟩
      rw [h5]; intro e; cases e
    · obtain ⟨f, hA, hL⟩ := h.acc.below hbl
      exact ⟨f, (h3.block g (Array.getElem?_eq_some_iff.1 hA).1 (Ne.symm h5)).trans hA, hL⟩
  · refine (ujoin h.bel hbl).grown h3 (Nat.le_trans hs hbl.size) (fun k e => ?_)
    rcases h.own.blk with h5 | ⟨k', h5, h6, h7⟩
    · rw [h5] at e; cases e
    · rw [h5] at e; injection e with e; omega
  · rcases h4 with h4 | h4
    · rw [h4]; exact h.ne
    · right; rw [h4]; intro e; injection e with e
      have := hbl.size
      omega
theorem long_add (h : LongG w1 W g l n V i U) (hv : v.natAbs < 2 ^ 24) (hi : i ≤ 100000) :
    Calls Try.prog 32 #[.pointer (some ⟨g, 0, none⟩), .slice (some ⟨W.heap.size, 0, none⟩) 1 1] (W.alloc (.cells #[.int .u32 ((tw v : Nat) : Int)] 25)) fun e w' => e = .returned (.tuple #[]) ∧ LongG w1 w' g l n V (i + 1) (U + v) := by
  obtain ⟨x, h⟩ := h
  have hbl := lit_below W (tw v)
  have hs := h.bel.size
  have hlg := h.acc.lt
  have hr := (OwnV.lit W w1.heap.size [tw v] hs (by simp)).rowA.1
  have ha := acAdd_calls (W.alloc (.cells #[.int .u32 ((tw v : Nat) : Int)] 25)) g (longAc U i) (some ⟨W.heap.size, 0, none⟩) 1 1 (ux [tw v]) (h.acc.below hbl) h.ok (show i + 1 ≤ 1000000000000 by omega) hr (fun _ ad e => by injection e with e; rw [← e]; show W.heap.size ≠ g; omega) (Nat.le_refl _) (fun k hk => by rw [show k = 0 by omega]; exact tw_lt v)
  have e1 : acAll (longAc U i) (ux [tw v]) 1 = longAc (U + v) (i + 1) := by
    show acPlus (longAc U i) (acOne (tw v)) = _
    rw [acOne_tw v hv, longAc_plus]
  have ok := h.ok.plus (acOk_one (tw v))
  rw [acOne_tw v hv, longAc_plus] at ok
  rw [e1] at ha
  refine ha.mono fun e w' ⟨k1, k2⟩ => ⟨k1, x, ?_⟩
  exact ⟨(h.own.below hbl).kept k2.gr h.ne, h.lt, h.sum, k2.at, ok, (ujoin h.bel hbl).grown k2.gr (Nat.le_trans hs hbl.size) (fun k e => by injection e with e; rw [← e]; exact h.hg), h.hg, h.ne⟩
theorem long_new (h : LongG w1 W g l n V i U) (hk : W.heap.size ≤ k) (ha : AcAt W' k acNone) (hb : Below W.heap.size W W') : LongH w1 W' g l n V i U k acNone := by
  obtain ⟨x, h⟩ := h
  have hlg := h.acc.lt
  refine ⟨⟨x, h.below hb⟩, ha, by omega, by have := h.bel.size; omega, blk_other ?_⟩
  rcases h.own.blk with h5 | ⟨k', h5, _, h6⟩
  · exact .inl h5
  · exact .inr ⟨k', h5, by omega⟩
theorem long_addB (h : LongH w1 W g l n V i U k acNone) (hv : v.natAbs < 2 ^ 24) :
    Calls Try.prog 32 #[.pointer (some ⟨k, 0, none⟩), .slice (some ⟨W.heap.size, 0, none⟩) 1 1] (W.alloc (.cells #[.int .u32 ((tw v : Nat) : Int)] 25)) fun e w' => e = .returned (.tuple #[]) ∧ LongH w1 w' g l n V i U k (longAc v 1) := by
  obtain ⟨⟨x, h⟩, ha, hgk, hwk, hne⟩ := h
  have hbl := lit_below W (tw v)
  have hs := h.bel.size
  have hlg := ha.lt
  have hr := (OwnV.lit W w1.heap.size [tw v] hs (by simp)).rowA.1
  have hc := acAdd_calls (W.alloc (.cells #[.int .u32 ((tw v : Nat) : Int)] 25)) k acNone (some ⟨W.heap.size, 0, none⟩) 1 1 (ux [tw v]) (ha.below hbl) acOk_none (show 0 + 1 ≤ 1000000000000 by omega) hr (fun _ ad e => by injection e with e; rw [← e]; show W.heap.size ≠ k; omega) (Nat.le_refl _) (fun k hk => by rw [show k = 0 by omega]; exact tw_lt v)
  have e1 : acAll acNone (ux [tw v]) 1 = longAc v 1 := by
    show acPlus acNone (acOne (tw v)) = _
    rw [acOne_tw v hv, acNone_plus]
  rw [e1] at hc
  refine hc.mono fun e w' ⟨k1, k2⟩ => ⟨k1, ⟨x, ?_⟩, k2.at, hgk, hwk, hne⟩
  exact ⟨(h.own.below hbl).kept k2.gr hne, h.lt, h.sum, (h.acc.below hbl).grown k2.gr (by omega), h.ok, (ujoin h.bel hbl).grown k2.gr (Nat.le_trans hs hbl.size) (fun j e => by injection e with e; rw [← e]; exact hwk), h.hg, h.ne⟩
theorem long_merge (h : LongH w1 W g l n V i U k (longAc v 1)) (hv : v.natAbs < 2 ^ 24) (hi : i ≤ 100000) :
    Calls Try.prog 33 #[.pointer (some ⟨g, 0, none⟩), .pointer (some ⟨k, 0, none⟩)] W fun e w' => e = .returned (.tuple #[]) ∧ LongG w1 w' g l n V (i + 1) (U + v) := by
  obtain ⟨⟨x, h⟩, ha, hgk, hwk, hne⟩ := h
  have ok1 : AcOk (longAc v 1) := by rw [← acOne_tw v hv]; exact acOk_one _
  have hc := acMerge_calls W g k _ _ h.acc ha h.ok ok1 (show i + 1 ≤ 1000000000000 by omega)
  have ok := h.ok.plus ok1
  rw [longAc_plus] at ok hc
  refine hc.mono fun e w' ⟨k1, k2⟩ => ⟨k1, x, ?_⟩
  exact ⟨h.own.kept k2.gr h.ne, h.lt, h.sum, k2.at, ok, h.bel.grown k2.gr h.bel.size (fun k e => by injection e with e; rw [← e]; exact h.hg), h.hg, h.ne⟩
end

theorem long_end {w1 W : World} {g n : Nat} {l : Value} {V : Int} (h : LongG w1 W g l n V n V) (hn : n ≤ 20000) (hV : n = 0 → V = 0) (hb : V.natAbs < 2 ^ 38) :
    (∃ A c, l = .slice A n c ∧ Calls Try.prog 23 #[.slice A n c] W fun e w' => Gives W (.int .u32 ((tw V : Nat) : Int)) e w') ∧
    (∀ W', Below W.heap.size W W' → Calls Try.prog 37 #[.pointer (some ⟨g, 0, none⟩)] W' fun e w' => Gives W' (.int .u32 ((tw V : Nat) : Int)) e w') ∧
    (∀ W', Below W.heap.size W W' → Calls Try.prog 38 #[.pointer (some ⟨g, 0, none⟩)] W' fun e w' => e = .returned (.int .i64 (n : Int)) ∧ W' = w') := by
  obtain ⟨x, h⟩ := h
  have ho : ovr (longAc V n) 1 = tw V := ovr_long V n (by by_cases h0 : n = 0; (right; exact hV h0); (left; exact h0)) hb
  refine ⟨?_, fun W' hb' => ?_, fun W' hb' => count_calls (h.acc.below hb') rfl⟩
  · obtain ⟨A, c, e, hc, hr, -, -⟩ := h.own.row
    refine ⟨A, c, e, ?_⟩
    have := pExact_calls W A n c x hr hc (by omega) h.lt
    unfold exactOf at this
    rw [h.sum, ho] at this
    exact this
  · have := acSum_calls W' g _ (h.acc.below hb') h.ok (show n ≤ _ by omega)
    rw [ho] at this
    exact this

set_option maxHeartbeats 1600000 in
set_option maxRecDepth 100000 in
theorem lawLong_calls (w : World) (seed count : Int) (hk : -9223372036854775808 ≤ seed ∧ seed ≤ 9223372036854775807) (hcut : -9223372036854775808 ≤ count ∧ count ≤ 9223372036854775807) :
    Calls Try.prog 11 #[.int .i64 seed, .int .i64 count] w fun e w' => LawTrue w e w' := by
  unfold LawTrue
  have HP1 := Lib.hid fun W => place_calls W count 20000 hcut (by decide) (by decide)
  have HP2 := Lib.hid fun W => place_calls W seed 2147483647 hk (by decide) (by decide)
  obtain ⟨n, en⟩ : ∃ n : Nat, (n : Int) = count % 20000 := ⟨(count % 20000).toNat, by omega⟩
  obtain ⟨s0, es⟩ : ∃ n : Nat, (n : Int) = seed % 2147483647 := ⟨(seed % 2147483647).toNat, by omega⟩
  have hn : n < 20000 := by omega
  have hs0 : s0 < 2147483648 := by omega
  rw [← en] at HP1
  rw [← es] at HP2
  clear en es hk hcut
  go_enter Try.func11, Try.ntmps11
  go_wp2_with (first
    | (go_at_call 12; refine (known_calls _).mono ?_; rintro e1 w1 ⟨rfl, hbel⟩; have HB1 := Lib.hid hbel; clear hbel)
    | (go_at_call 31; (with_reducible refine (HP1.out _).mono ?_); rintro e1 w4 ⟨rfl, rfl⟩)
    | (go_at_call 31; (with_reducible refine (HP2.out _).mono ?_); rintro e1 w4 ⟨rfl, rfl⟩)
    | (go_at_call 30; refine (new_calls _).mono ?_; rintro e1 w2 ⟨g, rfl, hg, hA, hbel⟩; have H2 := Lib.hid (longG_new hg hA hbel); clear hg hA hbel))
  go_loopg [6, 7, 8, 10, 11, 12, 13] n (fun kq v6 v7 v8 v10 v11 v12 v13 wr => ∃ (s i : Nat) (V : Int) (l : Value), v6 = .int .i64 (s : Int) ∧ v7 = l ∧ v8 = .int .i64 V ∧ v10 = .int .i64 (i : Int) ∧ s < 2147483648 ∧ i ≤ n ∧ n ≤ i + kq ∧ -4194304 * (i : Int) ≤ V ∧ V ≤ 4194304 * (i : Int) ∧ Aside (LongG w1 wr g l i V i V))
  case atStart => exact ⟨s0, 0, 0, _, rfl, rfl, rfl, rfl, hs0, Nat.zero_le _, by omega, by omega, by omega, H2.out⟩
  case round =>
    obtain ⟨s, i, V, l, rfl, rfl, rfl, rfl, hs, hi, hik, hV1, hV2, HI⟩ := hrel
    clear H2 HP1 HP2
    by_cases hlt : i < n
    · have hltz : (i : Int) < (n : Int) := by omega
      obtain ⟨t, et⟩ : ∃ t, t = s * 1103515 + 12345 := ⟨_, rfl⟩
      obtain ⟨s2, es2⟩ : ∃ t', t' = t % 2147483648 := ⟨_, rfl⟩
      obtain ⟨u, eu⟩ : ∃ u, u = s2 / 128 := ⟨_, rfl⟩
      obtain ⟨j, ej⟩ : ∃ j, j = u % 8388608 := ⟨_, rfl⟩
      obtain ⟨v, ev⟩ : ∃ v : Int, v = (j : Int) - 4194304 := ⟨_, rfl⟩
      have hs2 : s2 < 2147483648 := by omega
      have hj : j < 8388608 := by omega
      have hv : v.natAbs < 2 ^ 24 := by omega
      have W1 : IntKind.i64.wrap ((s : Int) * 1103515) = (s : Int) * 1103515 := IntWalk.i64_in _ (by omega)
      have W2 : IntKind.i64.wrap ((s : Int) * 1103515 + 12345) = (t : Int) := by rw [IntWalk.i64_in _ (by omega)]; omega
      have W3 := i64_mask31 t (by omega)
      rw [← es2] at W3
      have W4 : (s2 : Int) / 128 = (u : Int) := by omega
      have W5 : (u : Int) % 8388608 = (j : Int) := by omega
      have W6 : IntKind.i64.wrap ((j : Int) - 4194304) = v := by rw [IntWalk.i64_in _ (by omega)]; omega
      have W7 : IntKind.i64.wrap (V + v) = V + v := IntWalk.i64_in _ (by omega)
      have W8 : IntKind.i64.wrap ((i : Int) + 1) = (i : Int) + 1 := IntWalk.i64_in _ (by omega)
      have HF := Lib.hid fun W => fromInt_calls v (by omega) W
      have HS := Lib.hid fun W => scale20_calls v (Nat.lt_trans hv (by decide)) W
      have hV1' : -4194304 * ((i + 1 : Nat) : Int) ≤ V + v := by omega
      have hV2' : V + v ≤ 4194304 * ((i + 1 : Nat) : Int) := by omega
      clear et es2 eu ej ev
      by_cases h3 : (i : Int) % 3 = 0
      · have hb3 : ((i : Int) % 3 == 0) = true := by rw [beq_iff_eq]; exact h3
        go_wp2_with (first
          | (at_builtin; obtain ⟨l2, w5, hrun, hL⟩ := long_app HI2.out hv (by omega); refine wpList_append_want rfl _ _ 23 rfl _ _ rfl rfl _ w5 hrun ?_; have HI3 := Lib.hid hL; clear hrun hL)
          | (go_at_call 39; refine (HF.out _).mono ?_; rintro e1 w3 ⟨rfl, hbel⟩; have HI1 := Lib.hid (HI.out.below hbel); clear hbel)
          | (go_at_call 45; refine (HS.out _).mono ?_; rintro e1 w4 ⟨rfl, hbel⟩; have HI2 := Lib.hid (HI1.out.below hbel); clear hbel)
          | (go_at_call 32; refine (long_add HI3.out hv (by omega)).mono ?_; rintro e1 w6 ⟨rfl, hL⟩; have HI4 := Lib.hid hL; clear hL))
        go_roundg (n - (i + 1))
        case measure => omega
        case rel => exact ⟨s2, i + 1, V + v, _, rfl, rfl, rfl, by go_num, hs2, by omega, by omega, hV1', hV2', HI4.out⟩
      · have hb3 : ((i : Int) % 3 == 0) = false := by rw [beq_eq_false_iff_ne]; exact h3
        go_wp2_with (first
          | (at_builtin; obtain ⟨l2, w5, hrun, hL⟩ := long_app HI2.out hv (by omega); refine wpList_append_want rfl _ _ 23 rfl _ _ rfl rfl _ w5 hrun ?_; have HI3 := Lib.hid hL; clear hrun hL)
          | (go_at_call 39; refine (HF.out _).mono ?_; rintro e1 w3 ⟨rfl, hbel⟩; have HI1 := Lib.hid (HI.out.below hbel); clear hbel)
          | (go_at_call 45; refine (HS.out _).mono ?_; rintro e1 w4 ⟨rfl, hbel⟩; have HI2 := Lib.hid (HI1.out.below hbel); clear hbel)
          | (go_at_call 30; refine (new_calls _).mono ?_; rintro e1 w6 ⟨k, rfl, hg, hA, hbel⟩; have HI4 := Lib.hid (long_new HI3.out hg hA hbel); clear hg hA hbel)
          | (go_at_call 32; refine (long_addB HI4.out hv).mono ?_; rintro e1 w7 ⟨rfl, hL⟩; have HI5 := Lib.hid hL; clear hL)
          | (go_at_call 33; refine (long_merge HI5.out hv (by omega)).mono ?_; rintro e1 w8 ⟨rfl, hL⟩; have HI6 := Lib.hid hL; clear hL))
        go_roundg (n - (i + 1))
        case measure => omega
        case rel => exact ⟨s2, i + 1, V + v, _, rfl, rfl, rfl, by go_num, hs2, by omega, by omega, hV1', hV2', HI6.out⟩
    · have hltz : ¬ (i : Int) < (n : Int) := by omega
      have e : i = n := by omega
      subst e
      have hV38 : V.natAbs < 2 ^ 38 := by omega
      have HF := Lib.hid fun W => fromInt_calls V (by omega) W
      have HS := Lib.hid fun W => scale20_calls V hV38 W
      have HE := Lib.hid fun W l (h : LongG w1 W g l i V i V) => long_end h (by omega) (by omega) hV38
      obtain ⟨r, er⟩ : ∃ r, r = tw V := ⟨_, rfl⟩
      rw [← er] at HS HE
      have t1 : ((r : Int) == (r : Int)) = true := beq_self_eq_true _
      have t2 : ((i : Int) == (i : Int)) = true := beq_self_eq_true _
      clear er hV38 hV1 hV2
      go_upto_region 22 with (first
        | (go_at_call 39; refine (HF.out _).mono ?_; rintro e1 w3 ⟨rfl, hbel⟩; have HI1 := Lib.hid (HI.out.below hbel); clear hbel)
        | (go_at_call 45; refine (HS.out _).mono ?_; rintro e1 w4 ⟨rfl, hbel⟩; have HI2 := Lib.hid (HI1.out.below hbel); clear hbel))
      obtain ⟨⟨A, c, rfl, hEX⟩, hSU, hCO⟩ := HE.out _ _ HI2.out
      have HX := Lib.hid hEX
      have HSU := Lib.hid hSU
      have HCO := Lib.hid hCO
      have HBE : Hid (Below w1.heap.size w1 w4) := (show Below _ _ _ by obtain ⟨x, h⟩ := HI2.out; exact h.bel)
      clear hEX hSU hCO HI HI1 HI2 HE HF HS
      go_wp2_with (first
        | (go_at_call 23; refine HX.out.mono ?_; rintro e1 w5 ⟨rfl, hbel⟩; have HB5 := Lib.hid hbel; clear hbel)
        | (go_at_call 37; refine (HSU.out _ HB5.out).mono ?_; rintro e1 w6 ⟨rfl, hbel⟩; have HB6 := Lib.hid (ujoin HB5.out hbel); clear hbel)
        | (go_at_call 38; refine (HCO.out _ HB6.out).mono ?_; rintro e1 w7 ⟨rfl, rfl⟩))
      go_ret
      exact ⟨rfl, ujoin HB1.out (ujoin HBE.out HB6.out)⟩
end Go.Proofs.Ytmeifciagepmpaa
