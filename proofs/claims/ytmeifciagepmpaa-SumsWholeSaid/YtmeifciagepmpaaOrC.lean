/- halidelaw3.SumsOrder: the walk. -/
import Derived.Test.YtmeifciagepmpaaOrAB
namespace Go.Proofs.Ytmeifciagepmpaa
open Go.RowKit Go.Proofs.YtmeifciagepmpaaW.PrintWords
set_option linter.unusedSimpArgs false
set_option linter.unusedVariables false

theorem u_mask31 (a : Nat) (ha : a < 4294967296) : bits .and .u32 (a : Int) 2147483647 = ((a % 2147483648 : Nat) : Int) := u_mask32 a 31 (by decide) ha
theorem fin_exp (a : Nat) (h : ¬ (2139095040 : Int) ≤ ((a % 2147483648 : Nat) : Int)) : expN a ≠ 255 := by unfold expN; omega
def AddEnd (w1 : World) (A : Option Addr) (n c : Nat) (y : Nat → Nat) (g1 g2 : Nat) (S T : Ac) (e : Ending) (W : World) : Prop := e = .returned (.tuple #[]) ∧ OrdS w1 W A n c y g1 g2 S T
section
variable {w1 W : World} {A : Option Addr} {n c : Nat} {y : Nat → Nat} {g1 g2 : Nat} {S T : Ac}
theorem ord_add1 (h : OrdS w1 W A n c y g1 g2 acNone T) (hc : n ≤ c) (hn : n ≤ 2000) (hy : ∀ k, k < n → y k < 4294967296) (m : Nat) (hm : m ≤ n) :
    Calls Try.prog 32 #[.pointer (some ⟨g1, 0, none⟩), .slice A m c] W fun e w' => AddEnd w1 A n c y g1 g2 (acAll acNone y m) T e w' :=
  (acAdd_calls W g1 acNone A m c y h.a1 acOk_none (show 0 + m ≤ 1000000000000 by omega) (h.row.shorter hm) (fun _ => h.m1) (by omega) (fun k hk => hy k (by omega))).mono fun e w' ⟨h1, h2⟩ => ⟨h1, h.set1 h2⟩
theorem ord_add2 (h : OrdS w1 W A n c y g1 g2 S acNone) (hc : n ≤ c) (hn : n ≤ 2000) (hy : ∀ k, k < n → y k < 4294967296) (m : Nat) (hm : m ≤ n) :
    Calls Try.prog 32 #[.pointer (some ⟨g2, 0, none⟩), .slice (partA A m c) (n - m) (c - m)] W fun e w' => AddEnd w1 A n c y g1 g2 S (acAll acNone (fun k => y (k + m)) (n - m)) e w' :=
  (acAdd_calls W g2 acNone (partA A m c) (n - m) (c - m) (fun k => y (k + m)) h.a2 acOk_none (show 0 + (n - m) ≤ 1000000000000 by omega) (h.row.partA hc m hm) (fun _ => partA_block h.m2) (by omega) (fun k hk => hy (k + m) (by omega))).mono fun e w' ⟨h1, h2⟩ => ⟨h1, h.set2 h2⟩
theorem ord_merge1 (h : OrdS w1 W A n c y g1 g2 S T) (h1 : AcOk S) (h2 : AcOk T) (hN : S.n + T.n ≤ 100000) :
    Calls Try.prog 33 #[.pointer (some ⟨g1, 0, none⟩), .pointer (some ⟨g2, 0, none⟩)] W fun e w' => AddEnd w1 A n c y g1 g2 (acPlus S T) T e w' :=
  (acMerge_calls W g1 g2 S T h.a1 h.a2 h1 h2 (by omega)).mono fun e w' ⟨k1, k2⟩ => ⟨k1, h.set1 k2⟩
theorem ord_merge2 (h : OrdS w1 W A n c y g1 g2 S T) (h2 : AcOk T) (hN : T.n + T.n ≤ 100000) :
    Calls Try.prog 33 #[.pointer (some ⟨g2, 0, none⟩), .pointer (some ⟨g2, 0, none⟩)] W fun e w' => AddEnd w1 A n c y g1 g2 S (acPlus T T) e w' :=
  (acMerge_calls W g2 g2 T T h.a2 h.a2 h2 h2 (by omega)).mono fun e w' ⟨k1, k2⟩ => ⟨k1, h.set2 k2⟩
end
theorem count_calls {W : World} {g : Nat} {S : Ac} (h : AcAt W g S) {k : Nat} (hk : S.n = k) : Calls Try.prog 38 #[.pointer (some ⟨g, 0, none⟩)] W fun e w' => e = .returned (.int .i64 (k : Int)) ∧ W = w' := by
  have := acCount_calls W g S h
  rw [hk] at this
  exact this
/-- The second part's Acc. -/
def tailAc (y : Nat → Nat) (n m : Nat) : Ac := acAll acNone (fun k => y (k + m)) (n - m)
theorem tailAc_n (y : Nat → Nat) (n m : Nat) : (tailAc y n m).n = n - m := by unfold tailAc; rw [acAll_n]; exact Nat.zero_add _
theorem headAc_n (y : Nat → Nat) (n : Nat) : (acAll acNone y n).n = n := by rw [acAll_n]; exact Nat.zero_add _
theorem parts_all (y : Nat → Nat) (n m : Nat) (hm : m ≤ n) : acPlus (acAll acNone y m) (tailAc y n m) = acAll acNone y n := by
  unfold tailAc
  rw [← acAll_from, acAll_congr (x := fun k => y (k + m)) (y := fun i => y (m + i)) (n - m) (fun i _ => by show y (i + m) = y (m + i); rw [Nat.add_comm]), ← acAll_split]
  congr 1
  omega
theorem ord_parts {w1 W : World} {A : Option Addr} {n c : Nat} {y : Nat → Nat} {g1 g2 : Nat} (m : Nat) (hm : m ≤ n) (hn : n ≤ 2000) (h : OrdS w1 W A n c y g1 g2 (acAll acNone y m) (tailAc y n m)) :
    Calls Try.prog 33 #[.pointer (some ⟨g1, 0, none⟩), .pointer (some ⟨g2, 0, none⟩)] W fun e w' => AddEnd w1 A n c y g1 g2 (acAll acNone y n) (tailAc y n m) e w' := by
  have := ord_merge1 h (acOk_none.all y m) (acOk_none.all _ _) (by rw [headAc_n, tailAc_n]; omega)
  rw [parts_all y n m hm] at this
  exact this
theorem ord_twice {w1 W : World} {A : Option Addr} {n c : Nat} {y : Nat → Nat} {g1 g2 : Nat} {S : Ac} (m : Nat) (hm : m ≤ n) (hn : n ≤ 2000) (h : OrdS w1 W A n c y g1 g2 S (tailAc y n m)) :
    Calls Try.prog 33 #[.pointer (some ⟨g2, 0, none⟩), .pointer (some ⟨g2, 0, none⟩)] W fun e w' => AddEnd w1 A n c y g1 g2 S (acPlus (tailAc y n m) (tailAc y n m)) e w' :=
  ord_merge2 h (acOk_none.all _ _) (by rw [tailAc_n]; omega)

set_option maxHeartbeats 8000000 in
set_option maxRecDepth 100000 in
theorem lawOrder_calls (w : World) (A0 : Option Addr) (n c0 : Nat) (x : Nat → Nat) (k cut : Int) (a : Nat) (hk : -9223372036854775808 ≤ k ∧ k ≤ 9223372036854775807) (hcut : -9223372036854775808 ≤ cut ∧ cut ≤ 9223372036854775807) (ha : a < 4294967296) (hr : RowU w A0 n x) (hc0 : n ≤ c0) (hx : ∀ k, k < n → x k < 4294967296) :
    Calls Try.prog 9 #[.slice A0 n c0, .int .i64 k, .int .i64 cut, .int .u32 (a : Int)] w fun e w' => LawTrue w e w' := by
  have HX := Lib.hid hx
  have HR := Lib.hid hr
  clear hx hr
  unfold LawTrue
  by_cases hlt : 2000 < n
  · have hb : (2000 : Int) < (n : Int) := by omega
    go_enter Try.func9, Try.ntmps9
    go_wp2_with (go_at_call 12; refine (known_calls _).mono ?_; rintro e1 w1 ⟨rfl, hbel⟩)
    go_ret
    exact ⟨rfl, hbel⟩
  · have hb : ¬ (2000 : Int) < (n : Int) := by omega
    have HSH := Lib.hid fun W h => shuffled_calls W A0 n c0 x k hk h hc0 (by omega) HX.out
    obtain ⟨u, eu⟩ : ∃ u, u = exactOf x n := ⟨_, rfl⟩
    have HP := Lib.hid fun W h => pExact_calls W A0 n c0 x h hc0 (by omega) HX.out
    rw [← eu] at HP
    have HPO : Hid (∀ W B c y, RowU W B n y → n ≤ c → (∀ k, k < n → y k < 4294967296) → acAll acNone y n = acAll acNone x n → Calls Try.prog 23 #[.slice B n c] W fun e w' => Gives W (.int .u32 (u : Int)) e w') := fun W B c y h1 h2 h3 h4 => by
      have := pExact_calls W B n c y h1 h2 (by omega) h3
      rw [exactOf_perm h4, ← eu] at this
      exact this
    have HPE : Hid (∀ W B c z, RowU W B (1 + n + 1) z → 1 + n + 1 ≤ c → (∀ k, k < 1 + n + 1 → z k < 4294967296) → Calls Try.prog 23 #[.slice B (1 + n + 1) c] W fun e w' => Gives W (.int .u32 ((exactOf z (1 + n + 1) : Nat) : Int)) e w') := fun W B c z h1 h2 h3 => pExact_calls W B (1 + n + 1) c z h1 h2 (by omega) h3
    have HSU : Hid (∀ W g y, acAll acNone y n = acAll acNone x n → AcAt W g (acAll acNone y n) → Calls Try.prog 37 #[.pointer (some ⟨g, 0, none⟩)] W fun e w' => Gives W (.int .u32 (u : Int)) e w') := (show ∀ W g y, _ → _ → _ from fun W g y h4 hA => by
      have := acSum_calls W g _ hA (acOk_none.all y n) (by rw [acAll_n]; show 0 + n ≤ _; omega)
      rw [h4] at this
      rw [eu]
      exact this)
    obtain ⟨m, em⟩ : ∃ m : Nat, (m : Int) = cut % ((n : Int) + 1) := ⟨(cut % ((n : Int) + 1)).toNat, by have := Int.emod_nonneg cut (show ((n : Int) + 1) ≠ 0 by omega); omega⟩
    have hm : m ≤ n := by have := Int.emod_lt_of_pos cut (show (0 : Int) < (n : Int) + 1 by omega); omega
    have hn2 : n ≤ 2000 := by omega
    have HPL := Lib.hid fun W => place_calls W cut ((n : Int) + 1) hcut (by omega) (by omega)
    rw [← em] at HPL
    obtain ⟨d, ed⟩ : ∃ d : Nat, d = n - m := ⟨_, rfl⟩
    obtain ⟨q, eq⟩ : ∃ q : Nat, q = 2 * d := ⟨_, rfl⟩
    have W1 : IntKind.i64.wrap ((n : Int) + 1) = (n : Int) + 1 := IntWalk.i64_in _ (by omega)
    have W2 : IntKind.i64.wrap ((n : Int) - (m : Int)) = (d : Int) := by rw [IntWalk.i64_in _ (by omega)]; omega
    have W3 : IntKind.i64.wrap (2 * (d : Int)) = (q : Int) := by rw [IntWalk.i64_in _ (by omega)]; omega
    obtain ⟨s, es⟩ : ∃ s : Nat, s = a % 2147483648 := ⟨_, rfl⟩
    have W4 := u_mask31 a ha
    rw [← es] at W4
    obtain ⟨b, eb⟩ : ∃ b : Nat, b = negX a := ⟨_, rfl⟩
    have W5 := u_flip a ha
    rw [← eb] at W5
    have ES := Lib.hid es
    have EB := Lib.hid eb
    have EU := Lib.hid eu
    have ED := Lib.hid ed
    have EQ := Lib.hid eq
    have t1 : ((u : Int) != (u : Int)) = false := by rw [bne_eq_false_iff_eq]
    have t2 : ((n : Int) != (n : Int)) = false := by rw [bne_eq_false_iff_eq]
    have t3 : ((q : Int) != (q : Int)) = false := by rw [bne_eq_false_iff_eq]
    clear eu em es eb ed eq hlt hk hcut
    go_enter Try.func9, Try.ntmps9
    go_upto_region 8 with (first
      | (go_at_call 12; refine (known_calls _).mono ?_; rintro e1 w1 ⟨rfl, hbel⟩; have HR1 := Lib.hid (HR.out.below hbel); have HB1 := Lib.hid hbel; clear hbel)
      | (go_at_call 36; refine (HSH.out _ HR1.out).mono ?_; rintro e1 w2 ⟨v, y, rfl, hown, hy, hac, hbel⟩; obtain ⟨A, c, rfl, hc, -, -, -⟩ := hown.row; have HY := Lib.hid hy; have HAC := Lib.hid hac; have HO2 := Lib.hid hown; have HR2 := Lib.hid (HR1.out.below hbel); have HB2 := Lib.hid hbel; clear hy hac hown hbel)
      | (go_at_call 23; refine (HP.out _ HR2.out).mono ?_; rintro e1 w3 ⟨rfl, hbel⟩; have HO3 := Lib.hid (HO2.out.below hbel); have HB3 := Lib.hid (ujoin HB2.out hbel); clear hbel)
      | (go_at_call 31; refine (HPL.out _).mono ?_; rintro e1 w4 ⟨rfl, rfl⟩))
    have hmc : m ≤ c := by omega
    clear HSH HP HPL HR2 HO2 HB2 HR1 HR HX
    go_upto_region 13 with (first
      | (go_at_call 30; refine (new_calls _).mono ?_; rintro e1 w6 ⟨g2, rfl, hg2, hA2, hbel2⟩; have HS := Lib.hid (ordS_new HO3.out HB3.out HG1.out HA1.out HBA.out hg2 hA2 hbel2); clear hg2 hA2 hbel2)
      | (go_at_call 30; refine (new_calls _).mono ?_; rintro e1 w5 ⟨g1, rfl, hg1, hA1, hbel1⟩; have HG1 := Lib.hid hg1; have HA1 := Lib.hid hA1; have HBA := Lib.hid hbel1; clear hg1 hA1 hbel1)
      | (refine wpList_slice_low rfl _ _ rfl A n c m rfl rfl hmc ?_)
      | (refine wpList_slice_high rfl _ _ rfl A n c m rfl rfl hm ?_)
      | (go_at_call 33; refine (ord_twice m hm hn2 HS9.out).mono ?_; rintro e1 w10 ⟨rfl, hA⟩; have HS10 := Lib.hid hA; clear hA)
      | (go_at_call 33; refine (ord_parts m hm hn2 HS8.out).mono ?_; rintro e1 w9 ⟨rfl, hA⟩; have HS9 := Lib.hid hA; clear hA)
      | (go_at_call 32; refine (ord_add2 HS7.out hc hn2 HY.out m hm).mono ?_; rintro e1 w8 ⟨rfl, hA⟩; have HS8 := Lib.hid hA; clear hA)
      | (go_at_call 32; refine (ord_add1 HS.out hc hn2 HY.out m hm).mono ?_; rintro e1 w7 ⟨rfl, hA⟩; have HS7 := Lib.hid hA; clear hA))
    have HN : Hid ((acPlus (tailAc y n m) (tailAc y n m)).n = q) := (show (tailAc y n m).n + (tailAc y n m).n = q by rw [tailAc_n, EQ.out, ED.out]; omega)
    have HN2 := Lib.hid (headAc_n y n)
    obtain ⟨T, eT⟩ : ∃ T, T = acPlus (tailAc y n m) (tailAc y n m) := ⟨_, rfl⟩
    rw [← eT] at HS10 HN
    clear eT HS HS7 HS8 HS9 HG1 HA1 HBA HO3 HB3
    go_upto_region 15 with (first
      | (at_builtin; obtain ⟨A1, c1, w13, hrun, hc1, hrow1, hown, hbel⟩ := ord_app1 HS12.out (by omega); refine wpList_append_want rfl _ _ 23 rfl _ _ rfl rfl _ w13 hrun ?_; have HR13 := Lib.hid hrow1; have HO13 := Lib.hid hown; have HB13 := Lib.hid hbel; clear hrun hrow1 hown hbel)
      | (go_at_call 23; refine (HPO.out _ A1 c1 y HR13.out hc1 HY.out HAC.out).mono ?_; rintro e1 w14 ⟨rfl, hbel⟩; have HO14 := Lib.hid (HO13.out.below hbel); have HB14 := Lib.hid (ujoin HB13.out hbel); clear hbel)
      | (go_at_call 23; refine (HPO.out _ A c y HS10.out.row hc HY.out HAC.out).mono ?_; rintro e1 w11 ⟨rfl, hbel⟩; have HS11 := Lib.hid (HS10.out.below hbel); clear hbel)
      | (go_at_call 37; refine (HSU.out _ g1 y HAC.out HS11.out.a1).mono ?_; rintro e1 w12 ⟨rfl, hbel⟩; have HS12 := Lib.hid (HS11.out.below hbel); clear hbel)
      | (go_at_call 38; refine (count_calls HS12.out.a1 HN2.out).mono ?_; rintro e1 w4 ⟨rfl, rfl⟩)
      | (go_at_call 38; refine (count_calls HS12.out.a2 HN.out).mono ?_; rintro e1 w4 ⟨rfl, rfl⟩))
    clear HS10 HS11 HS12 HR13 HO13 HB13 HPO HSU HN HN2 t1 t2 t3 W1 W2 W3
    by_cases hf : (2139095040 : Int) ≤ (s : Int)
    · go_wp2
      go_ret
      exact ⟨rfl, ujoin HB1.out HB14.out⟩
    · have HR : Hid (exactOf (withPair a n y) (1 + n + 1) = if u = 2147483648 then 0 else u) := (show _ = _ by
        rw [exactOf_pair a n y ha (fin_exp a (by rw [← ES.out]; exact hf)), exactOf_perm HAC.out, EU.out])
      have HZ : Hid (∀ k, k < 1 + n + 1 → withPair a n y k < 4294967296) := (show ∀ k, _ → _ from fun k hk => by
        unfold withPair catN
        by_cases h1 : k < 1 + n
        · rw [if_pos h1]
          by_cases h2 : k < 1
          · rw [if_pos h2]
            have : k = 0 := by omega
            subst this
            exact ha
          · rw [if_neg h2]; exact HY.out _ (by omega)
        · rw [if_neg h1]
          have : k - (1 + n) = 0 := by omega
          rw [this]
          exact negX_lt a ha)
      have HW : Hid (withPair a n y = catN (catN (ux [a]) 1 y) (1 + n) (ux [b])) := (show _ = _ by rw [EB.out]; rfl)
      obtain ⟨z, ez⟩ : ∃ z, z = withPair a n y := ⟨_, rfl⟩
      rw [← ez] at HR HZ HW
      have HPZ : Hid (∀ W B c, RowU W B (1 + n + 1) (catN (catN (ux [a]) 1 y) (1 + n) (ux [b])) → 1 + n + 1 ≤ c → Calls Try.prog 23 #[.slice B (1 + n + 1) c] W fun e w' => Gives W (.int .u32 ((if u = 2147483648 then 0 else u : Nat) : Int)) e w') := fun W B c h1 h2 => by
        have := HPE.out W B c z (by rw [HW.out]; exact h1) h2 HZ.out
        rw [HR.out] at this
        exact this
      clear HPE HR HZ HW ez ES EB EU HY HAC ha
      by_cases hu : (u : Int) = 2147483648
      · have e0 : (if u = 2147483648 then 0 else u) = 0 := if_pos (by omega)
        rw [e0] at HPZ
        clear e0
        go_wp2_with (first
          | (at_builtin; obtain ⟨v2, w15, hrun, hown, hbel⟩ := ord_app2 HO14.out HB14.out (by omega) a; refine wpList_append_want rfl _ _ 23 rfl _ _ rfl rfl _ w15 hrun ?_; have HO15 := Lib.hid hown; have HB15 := Lib.hid hbel; clear hrun hown hbel)
          | (at_builtin; obtain ⟨A3, c3, w16, hrun, hc3, hrow, hbel⟩ := ord_app3 HO15.out HB15.out (by omega) b; refine wpList_append_want rfl _ _ 23 rfl _ _ rfl rfl _ w16 hrun ?_; have HR16 := Lib.hid hrow; have HB16 := Lib.hid hbel; clear hrun hrow hbel)
          | (go_at_call 23; refine (HPZ.out _ A3 c3 HR16.out hc3).mono ?_; rintro e1 w17 ⟨rfl, hbel⟩; have HB17 := Lib.hid (ujoin HB16.out hbel); clear hbel))
        go_ret
        exact ⟨rfl, ujoin HB1.out HB17.out⟩
      · have e0 : (if u = 2147483648 then 0 else u) = u := if_neg (by omega)
        rw [e0] at HPZ
        clear e0
        go_wp2_with (first
          | (at_builtin; obtain ⟨v2, w15, hrun, hown, hbel⟩ := ord_app2 HO14.out HB14.out (by omega) a; refine wpList_append_want rfl _ _ 23 rfl _ _ rfl rfl _ w15 hrun ?_; have HO15 := Lib.hid hown; have HB15 := Lib.hid hbel; clear hrun hown hbel)
          | (at_builtin; obtain ⟨A3, c3, w16, hrun, hc3, hrow, hbel⟩ := ord_app3 HO15.out HB15.out (by omega) b; refine wpList_append_want rfl _ _ 23 rfl _ _ rfl rfl _ w16 hrun ?_; have HR16 := Lib.hid hrow; have HB16 := Lib.hid hbel; clear hrun hrow hbel)
          | (go_at_call 23; refine (HPZ.out _ A3 c3 HR16.out hc3).mono ?_; rintro e1 w17 ⟨rfl, hbel⟩; have HB17 := Lib.hid (ujoin HB16.out hbel); clear hbel))
        go_ret
        exact ⟨rfl, ujoin HB1.out HB17.out⟩
end Go.Proofs.Ytmeifciagepmpaa
