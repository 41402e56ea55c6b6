/- Acc.Add. -/
import Derived.Test.YtmeifciagepmpaaAcF
namespace Go.Proofs.Ytmeifciagepmpaa
open Go.RowKit Go.Proofs.YtmeifciagepmpaaW.PrintWords
set_option linter.unusedSimpArgs false
set_option linter.unusedVariables false

theorem acC_up (S : Ac) (j : Nat) (T : Ac) (h : ∀ k, k < 5 → updN (updN (acC S) 0 (S.n + 1)) j (acC S j + 1) k = acC T k) (hj : j < 5) : updN (updN (acC S) 0 (S.n + 1)) j (acC S j + 1) = acC T := by
  funext k
  by_cases hk : k < 5
  · exact h k hk
  · rw [updN_other _ _ (by omega), updN_other _ _ (by omega)]
    obtain ⟨m, rfl⟩ : ∃ m, k = m + 5 := ⟨k - 5, by omega⟩
    rfl
theorem acC_nan (S : Ac) (a : Nat) (h : acOne a = ⟨0, 1, 1, 0, 0, 0⟩) : updN (updN (acC S) 0 (S.n + 1)) 1 (S.nans + 1) = acC (acPlus S (acOne a)) ∧ (acPlus S (acOne a)).z = S.z := by
  rw [h]
  refine ⟨acC_up S 1 _ (fun k hk => ?_) (by decide), Int.add_zero _⟩
  rcases (show k = 0 ∨ k = 1 ∨ k = 2 ∨ k = 3 ∨ k = 4 by omega) with e | e | e | e | e <;> subst e <;> rfl
theorem acC_inf (S : Ac) (a : Nat) (h : acOne a = ⟨0, 1, 0, 1, 0, 0⟩) : updN (updN (acC S) 0 (S.n + 1)) 2 (S.up + 1) = acC (acPlus S (acOne a)) ∧ (acPlus S (acOne a)).z = S.z := by
  rw [h]
  refine ⟨acC_up S 2 _ (fun k hk => ?_) (by decide), Int.add_zero _⟩
  rcases (show k = 0 ∨ k = 1 ∨ k = 2 ∨ k = 3 ∨ k = 4 by omega) with e | e | e | e | e <;> subst e <;> rfl
theorem acC_dn (S : Ac) (a : Nat) (h : acOne a = ⟨0, 1, 0, 0, 1, 0⟩) : updN (updN (acC S) 0 (S.n + 1)) 3 (S.dn + 1) = acC (acPlus S (acOne a)) ∧ (acPlus S (acOne a)).z = S.z := by
  rw [h]
  refine ⟨acC_up S 3 _ (fun k hk => ?_) (by decide), Int.add_zero _⟩
  rcases (show k = 0 ∨ k = 1 ∨ k = 2 ∨ k = 3 ∨ k = 4 by omega) with e | e | e | e | e <;> subst e <;> rfl
theorem acC_no (S : Ac) (a : Nat) (h : acOne a = ⟨0, 1, 0, 0, 0, 1⟩) : updN (updN (acC S) 0 (S.n + 1)) 4 (S.no + 1) = acC (acPlus S (acOne a)) ∧ (acPlus S (acOne a)).z = S.z := by
  rw [h]
  refine ⟨acC_up S 4 _ (fun k hk => ?_) (by decide), Int.add_zero _⟩
  rcases (show k = 0 ∨ k = 1 ∨ k = 2 ∨ k = 3 ∨ k = 4 by omega) with e | e | e | e | e <;> subst e <;> rfl
theorem acC_fin (S : Ac) (a : Nat) (h : acOne a = ⟨smp a, 1, 0, 0, 0, 0⟩) : updN (acC S) 0 (S.n + 1) = acC (acPlus S (acOne a)) ∧ (acPlus S (acOne a)).z = S.z + smp a := by
  rw [h]
  refine ⟨?_, rfl⟩
  funext k
  match k with
  | 0 | 1 | 2 | 3 | 4 => rfl
  | k + 5 => rfl

/-- What the round of a sample wants to know. -/
theorem add_kind (a : Nat) (ha : a < 4294967296) :
    ((rd32 a).isNaN = true ∧ acOne a = ⟨0, 1, 1, 0, 0, 0⟩) ∨
    ((rd32 a).isNaN = false ∧ decide (expN a ≠ 255) = false ∧ ((a : Int) / 2147483648 == 1) = true ∧ acOne a = ⟨0, 1, 0, 0, 1, 0⟩) ∨
    ((rd32 a).isNaN = false ∧ decide (expN a ≠ 255) = false ∧ ((a : Int) / 2147483648 == 1) = false ∧ acOne a = ⟨0, 1, 0, 1, 0, 0⟩) ∨
    ((rd32 a).isNaN = false ∧ decide (expN a ≠ 255) = true ∧ ((a : Int) == 2147483648) = true ∧ acOne a = ⟨0, 1, 0, 0, 0, 1⟩) ∨
    ((rd32 a).isNaN = false ∧ decide (expN a ≠ 255) = true ∧ ((a : Int) == 2147483648) = false ∧ acOne a = ⟨smp a, 1, 0, 0, 0, 0⟩ ∧
      ∃ M m : Nat, M < 16777216 ∧ m ≤ 253 ∧ pE a = (m : Int) - 149 ∧ ((pN a = -(M : Int) ∧ 1 ≤ M ∧ smp a = -((M * 2 ^ m : Nat) : Int)) ∨ (pN a = (M : Int) ∧ smp a = ((M * 2 ^ m : Nat) : Int)))) := by
  cases hn : (rd32 a).isNaN
  · right
    by_cases hx : expN a = 255
    · have hd : decide (expN a ≠ 255) = false := by simp [hx]
      cases hs : sgnB a
      · right; left
        refine ⟨rfl, hd, ?_, acOne_up a hn hx hs⟩
        have : ¬ 2147483648 ≤ a := by simpa [sgnB] using hs
        rw [beq_eq_false_iff_ne]; omega
      · left
        refine ⟨rfl, hd, ?_, acOne_dn a hn hx hs⟩
        have : 2147483648 ≤ a := by simpa [sgnB] using hs
        rw [beq_iff_eq]; omega
    · have hd : decide (expN a ≠ 255) = true := by simp [hx]
      right; right
      by_cases h0 : a = 2147483648
      · left
        subst h0
        exact ⟨rfl, hd, by rfl, acOne_no⟩
      · right
        refine ⟨rfl, hd, by rw [beq_eq_false_iff_ne]; omega, acOne_fin a hx h0, ?_⟩
        have hb := pE_bd a
        have hm : pE a = (((pE a + 149).toNat : Nat) : Int) - 149 := by omega
        have hM : pM a < 16777216 := by
          have hm : fracN a < 8388608 := Nat.mod_lt _ (by decide)
          unfold pM; split <;> omega
        refine ⟨pM a, (pE a + 149).toNat, hM, hb.1, hm, ?_⟩
        cases hs : sgnB a
        · right
          have hN : pN a = (pM a : Int) := by unfold pN; rw [if_neg hx, hs]; rfl
          refine ⟨hN, ?_⟩
          unfold smp; rw [hN]; push_cast; rfl
        · left
          have hN : pN a = -(pM a : Int) := by unfold pN; rw [if_neg hx, hs]; rfl
          refine ⟨hN, ?_, ?_⟩
          · have h1 : 2147483648 ≤ a := by simpa [sgnB] using hs
            unfold pM
            split
            · rename_i he
              unfold fracN expN at *
              omega
            · omega
          · unfold smp; rw [hN, Int.neg_mul]; push_cast; rfl
  · left
    exact ⟨rfl, acOne_nan a hn⟩

theorem acc_bump {w : World} {g : Nat} {f : Nat → Nat} {T T' : Ac} (j : Nat) (hj : j < 5) (hj0 : 1 ≤ j) (hL : LimbsOf f T.z) (h : updN (updN (acC T) 0 (T.n + 1)) j (acC T j + 1) = acC T' ∧ T'.z = T.z) (W : World) (hA : AccW w g f (updN (acC T) 0 (T.n + 1)) W) :
    W.cell? ⟨g, 14 + j, none⟩ = some (.int .i64 ((acC T j : Nat) : Int)) ∧ W.frozen? ⟨g, 14 + j, none⟩ = false ∧ AccOf w g T' (W.setCell ⟨g, 14 + j, none⟩ (.int .i64 (((acC T j : Nat) : Int) + 1))) := by
  have h1 := hA.cell2 j hj
  rw [updN_other _ _ (by omega)] at h1
  refine ⟨h1.1, h1.2, f, ?_, by rw [h.2]; exact hL⟩
  rw [← h.1]
  exact hA.set2 j (acC T j + 1) hj

set_option maxHeartbeats 6400000 in
set_option maxRecDepth 100000 in
theorem acAdd_calls (w : World) (g : Nat) (S : Ac) (A : Option Addr) (n c : Nat) (x : Nat → Nat) (hS : AcAt w g S) (hok : AcOk S) (hN : S.n + n ≤ 1000000000000) (hr : RowU w A n x) (hne : 1 ≤ n → ∀ ad, A = some ad → ad.block ≠ g) (hc : n ≤ c) (hx : ∀ k, k < n → x k < 4294967296) :
    Calls Try.prog 32 #[.pointer (some ⟨g, 0, none⟩), .slice A n c] w fun e w' => e = .returned (.tuple #[]) ∧ AccOf w g (acAll S x n) w' := by
  have HX := Lib.hid hx
  have HR := Lib.hid hr
  have HNE := Lib.hid hne
  have H0 : Hid (AccOf w g (acAll S x 0) w) := hS.self
  have HOK := Lib.hid fun k => AcOk.all hok x k
  have HNN := Lib.hid fun k => acAll_n S x k
  clear hx hr hne hS hok
  go_enter Try.func32, Try.ntmps32
  go_wp2
  go_loopg [11] n (fun kq v11 wr => ∃ k : Nat, v11 = .int .i64 (k : Int) ∧ k ≤ n ∧ n ≤ k + kq ∧ Aside (AccOf w g (acAll S x k) wr))
  case atStart => exact ⟨0, by first | rfl | go_num, by omega, by omega, H0.out⟩
  case round =>
    obtain ⟨k, rfl, hk, hkq, HA⟩ := hrel
    have hok := HOK.out k
    have hn := HNN.out k
    have HF : Hid (acAll S x (k + 1) = acPlus (acAll S x k) (acOne (x k))) := (show _ = _ from rfl)
    obtain ⟨T, eT⟩ : ∃ T, T = acAll S x k := ⟨_, rfl⟩
    obtain ⟨T', eT'⟩ : ∃ T', T' = acAll S x (k + 1) := ⟨_, rfl⟩
    rw [← eT] at HA HF hok hn
    rw [← eT'] at HF
    have ET' := Lib.hid eT'
    by_cases hlt : k < n
    · have hltz : (k : Int) < (n : Int) := by omega
      have hk0 : (0 : Int) ≤ (k : Int) := by omega
      obtain ⟨ad, rfl, hca⟩ := HR.out (by omega)
      have c1 := HA.out.gr.cell (hca k hlt) (by
        intro e; injection e with e
        have h2 : (ad.add k).block = ad.block := by unfold Addr.add; split <;> rfl
        exact HNE.out (by omega) ad rfl (by rw [← h2]; exact e))
      obtain ⟨a, ea⟩ : ∃ a, a = x k := ⟨_, rfl⟩
      have ha : a < 4294967296 := by rw [ea]; exact HX.out k hlt
      rw [← ea] at c1 HF
      obtain ⟨f, hA, hL⟩ := HA.out
      obtain ⟨⟨n0, -, -, -, -⟩, y0, -⟩ := hA.counts
      have e0 : acC T 0 = T.n := rfl
      have HC1 := Lib.hid fun (v : Nat) => hA.set2 0 v (by decide)
      have HL := Lib.hid hL
      have b1 := hok.nans
      have b2 := hok.up
      have b3 := hok.dn
      have b4 := hok.no
      rw [e0] at n0
      obtain ⟨tn, en⟩ : ∃ z, z = T.n := ⟨_, rfl⟩
      rw [← en] at n0 b1 b2 b3 b4 hn
      have htn : tn ≤ 1000000000000 := by omega
      have HC2 : Hid (AccW w g f (updN (acC T) 0 (T.n + 1)) (wr.setCell ⟨g, 14, none⟩ (.int .i64 ((tn : Int) + 1)))) := (show AccW _ _ _ _ _ by
        have := HC1.out (tn + 1); rw [en] at this ⊢; exact this)
      have HP := Lib.hid fun W => parts_calls a ha W
      have HI := Lib.hid fun W => pIsNaN_calls a ha W
      have K := add_kind a ha
      clear hca HC1 hL hA e0 en ea hn HA HX HOK HNN H0 hok ha eT eT'
      rcases K with ⟨kn, ko⟩ | ⟨kn, kf, ks, ko⟩ | ⟨kn, kf, ks, ko⟩ | ⟨kn, kf, ks, ko⟩ | ⟨kn, kf, ks, ko, M, m, hM, hm, hE, hNN⟩
      · as_aux_lemma =>
        rw [kn] at HI
        have HZ := Lib.hid (acc_bump (w := w) (g := g) (T' := T') 1 (by decide) (by decide) HL.out (by rw [HF.out]; exact acC_nan T a ko))
        obtain ⟨tm, em⟩ : ∃ z, z = T.nans := ⟨_, rfl⟩
        have HZ2 : Hid (∀ W, AccW w g f (updN (acC T) 0 (T.n + 1)) W → W.cell? ⟨g, 15, none⟩ = some (.int .i64 (tm : Int)) ∧ W.frozen? ⟨g, 15, none⟩ = false ∧ AccOf w g T' (W.setCell ⟨g, 15, none⟩ (.int .i64 ((tm : Int) + 1)))) := (show ∀ W, _ → _ by rw [em]; exact HZ.out)
        rw [← em] at b1
        obtain ⟨N, eN⟩ : ∃ N, N = pN a := ⟨_, rfl⟩
        obtain ⟨E, eE⟩ : ∃ N, N = pE a := ⟨_, rfl⟩
        obtain ⟨fin, ef⟩ : ∃ N, N = decide (expN a ≠ 255) := ⟨_, rfl⟩
        rw [← eN, ← eE, ← ef] at HP
        clear kn ko HF HL em eN eE ef HZ b2 b3 b4
        go_wp2_with (first
          | (go_at_call 64; refine (HP.out _).mono ?_; rintro e1 w1 ⟨rfl, hbel⟩; have HC3 := Lib.hid (HC2.out.below hbel); clear hbel)
          | (go_at_call 65; refine (HI.out _).mono ?_; rintro e1 w2 ⟨rfl, hbel⟩; have HC4 := Lib.hid (HC3.out.below hbel); obtain ⟨z1, y1, hfin⟩ := HZ2.out _ HC4.out; have HFIN := Lib.hid hfin; clear hbel hfin))
        go_roundg (n - (k + 1))
        case measure => omega
        case rel => exact ⟨k + 1, by go_num, by omega, by omega, by rw [← ET'.out]; exact HFIN.out⟩
      · as_aux_lemma =>
        rw [kn] at HI
        rw [kf] at HP
        have HZ := Lib.hid (acc_bump (w := w) (g := g) (T' := T') 3 (by decide) (by decide) HL.out (by rw [HF.out]; exact acC_dn T a ko))
        obtain ⟨tm, em⟩ : ∃ z, z = T.dn := ⟨_, rfl⟩
        have HZ2 : Hid (∀ W, AccW w g f (updN (acC T) 0 (T.n + 1)) W → W.cell? ⟨g, 17, none⟩ = some (.int .i64 (tm : Int)) ∧ W.frozen? ⟨g, 17, none⟩ = false ∧ AccOf w g T' (W.setCell ⟨g, 17, none⟩ (.int .i64 ((tm : Int) + 1)))) := (show ∀ W, _ → _ by rw [em]; exact HZ.out)
        rw [← em] at b3
        obtain ⟨N, eN⟩ : ∃ N, N = pN a := ⟨_, rfl⟩
        obtain ⟨E, eE⟩ : ∃ N, N = pE a := ⟨_, rfl⟩
        rw [← eN, ← eE] at HP
        clear kn ko kf HF HL em eN eE HZ b1 b2 b4
        go_wp2_with (first
          | (go_at_call 64; refine (HP.out _).mono ?_; rintro e1 w1 ⟨rfl, hbel⟩; have HC3 := Lib.hid (HC2.out.below hbel); clear hbel)
          | (go_at_call 65; refine (HI.out _).mono ?_; rintro e1 w2 ⟨rfl, hbel⟩; have HC4 := Lib.hid (HC3.out.below hbel); obtain ⟨z1, y1, hfin⟩ := HZ2.out _ HC4.out; have HFIN := Lib.hid hfin; clear hbel hfin))
        go_roundg (n - (k + 1))
        case measure => omega
        case rel => exact ⟨k + 1, by go_num, by omega, by omega, by rw [← ET'.out]; exact HFIN.out⟩
      · as_aux_lemma =>
        rw [kn] at HI
        rw [kf] at HP
        have HZ := Lib.hid (acc_bump (w := w) (g := g) (T' := T') 2 (by decide) (by decide) HL.out (by rw [HF.out]; exact acC_inf T a ko))
        obtain ⟨tm, em⟩ : ∃ z, z = T.up := ⟨_, rfl⟩
        have HZ2 : Hid (∀ W, AccW w g f (updN (acC T) 0 (T.n + 1)) W → W.cell? ⟨g, 16, none⟩ = some (.int .i64 (tm : Int)) ∧ W.frozen? ⟨g, 16, none⟩ = false ∧ AccOf w g T' (W.setCell ⟨g, 16, none⟩ (.int .i64 ((tm : Int) + 1)))) := (show ∀ W, _ → _ by rw [em]; exact HZ.out)
        rw [← em] at b2
        obtain ⟨N, eN⟩ : ∃ N, N = pN a := ⟨_, rfl⟩
        obtain ⟨E, eE⟩ : ∃ N, N = pE a := ⟨_, rfl⟩
        rw [← eN, ← eE] at HP
        clear kn ko kf HF HL em eN eE HZ b1 b3 b4
        go_wp2_with (first
          | (go_at_call 64; refine (HP.out _).mono ?_; rintro e1 w1 ⟨rfl, hbel⟩; have HC3 := Lib.hid (HC2.out.below hbel); clear hbel)
          | (go_at_call 65; refine (HI.out _).mono ?_; rintro e1 w2 ⟨rfl, hbel⟩; have HC4 := Lib.hid (HC3.out.below hbel); obtain ⟨z1, y1, hfin⟩ := HZ2.out _ HC4.out; have HFIN := Lib.hid hfin; clear hbel hfin))
        go_roundg (n - (k + 1))
        case measure => omega
        case rel => exact ⟨k + 1, by go_num, by omega, by omega, by rw [← ET'.out]; exact HFIN.out⟩
      · as_aux_lemma =>
        rw [kn] at HI
        rw [kf] at HP
        have HZ := Lib.hid (acc_bump (w := w) (g := g) (T' := T') 4 (by decide) (by decide) HL.out (by rw [HF.out]; exact acC_no T a ko))
        obtain ⟨tm, em⟩ : ∃ z, z = T.no := ⟨_, rfl⟩
        have HZ2 : Hid (∀ W, AccW w g f (updN (acC T) 0 (T.n + 1)) W → W.cell? ⟨g, 18, none⟩ = some (.int .i64 (tm : Int)) ∧ W.frozen? ⟨g, 18, none⟩ = false ∧ AccOf w g T' (W.setCell ⟨g, 18, none⟩ (.int .i64 ((tm : Int) + 1)))) := (show ∀ W, _ → _ by rw [em]; exact HZ.out)
        rw [← em] at b4
        obtain ⟨N, eN⟩ : ∃ N, N = pN a := ⟨_, rfl⟩
        obtain ⟨E, eE⟩ : ∃ N, N = pE a := ⟨_, rfl⟩
        rw [← eN, ← eE] at HP
        clear kn ko kf HF HL em eN eE HZ b1 b2 b3
        go_wp2_with (first
          | (go_at_call 64; refine (HP.out _).mono ?_; rintro e1 w1 ⟨rfl, hbel⟩; have HC3 := Lib.hid (HC2.out.below hbel); clear hbel)
          | (go_at_call 65; refine (HI.out _).mono ?_; rintro e1 w2 ⟨rfl, hbel⟩; have HC4 := Lib.hid (HC3.out.below hbel); obtain ⟨z1, y1, hfin⟩ := HZ2.out _ HC4.out; have HFIN := Lib.hid hfin; clear hbel hfin))
        go_roundg (n - (k + 1))
        case measure => omega
        case rel => exact ⟨k + 1, by go_num, by omega, by omega, by rw [← ET'.out]; exact HFIN.out⟩
      · rw [kn] at HI
        rw [kf] at HP
        have hq := acC_fin T a ko
        rw [← HF.out] at hq
        rcases hNN with ⟨hN1, hM1, hs⟩ | ⟨hN1, hs⟩
        · as_aux_lemma =>
          rw [hN1, hE] at HP
          have HADD : Hid (∀ W, AccW w g f (updN (acC T) 0 (T.n + 1)) W → Calls Try.prog 66 #[.pointer (some ⟨g, 0, none⟩), .int .u32 (M : Int), .int .i64 (m : Int), .bool true] W fun e w' => e = .returned (.tuple #[]) ∧ AccOf w g T' w') := (show ∀ W, _ → _ from fun W hA =>
            (lsub_calls w W g f _ M m hA HL.out.lt (by omega) (by omega)).mono fun e w' ⟨h1, f', cy, h2, h3, h4⟩ => ⟨h1, f', by rw [← hq.1]; exact h2, by
              rw [hq.2, hs, ← Int.sub_eq_add_neg]
              exact HL.out.less h3 h4⟩)
          have U1 : IntKind.u32.wrap (M : Int) = (M : Int) := u_w32 _ (by omega)
          have U2 : (-(M : Int)) < 0 := by omega
          clear kn ko kf HF HL hq hN1 hE hs b1 b2 b3 b4
          go_wp2_with (first
            | (go_at_call 64; refine (HP.out _).mono ?_; rintro e1 w1 ⟨rfl, hbel⟩; have HC3 := Lib.hid (HC2.out.below hbel); clear hbel)
            | (go_at_call 65; refine (HI.out _).mono ?_; rintro e1 w2 ⟨rfl, hbel⟩; have HC4 := Lib.hid (HC3.out.below hbel); clear hbel)
            | (go_at_call 66; refine (HADD.out _ HC4.out).mono ?_; rintro e1 w3 ⟨rfl, hfin⟩; have HFIN := Lib.hid hfin; clear hfin))
          go_roundg (n - (k + 1))
          case measure => omega
          case rel => exact ⟨k + 1, by go_num, by omega, by omega, by rw [← ET'.out]; exact HFIN.out⟩
        · as_aux_lemma =>
          rw [hN1, hE] at HP
          have HADD : Hid (∀ W, AccW w g f (updN (acC T) 0 (T.n + 1)) W → Calls Try.prog 66 #[.pointer (some ⟨g, 0, none⟩), .int .u32 (M : Int), .int .i64 (m : Int), .bool false] W fun e w' => e = .returned (.tuple #[]) ∧ AccOf w g T' w') := (show ∀ W, _ → _ from fun W hA =>
            (ladd_calls w W g f _ M m hA HL.out.lt (by omega) (by omega)).mono fun e w' ⟨h1, f', cy, h2, h3, h4⟩ => ⟨h1, f', by rw [← hq.1]; exact h2, by
              rw [hq.2, hs]
              exact HL.out.plus h3 ⟨0, by rw [Int.zero_mul, Int.add_zero]⟩ h4⟩)
          have U1 : IntKind.u32.wrap (M : Int) = (M : Int) := u_w32 _ (by omega)
          have U2 : ¬ (M : Int) < 0 := by omega
          clear kn ko kf HF HL hq hN1 hE hs b1 b2 b3 b4
          go_wp2_with (first
            | (go_at_call 64; refine (HP.out _).mono ?_; rintro e1 w1 ⟨rfl, hbel⟩; have HC3 := Lib.hid (HC2.out.below hbel); clear hbel)
            | (go_at_call 65; refine (HI.out _).mono ?_; rintro e1 w2 ⟨rfl, hbel⟩; have HC4 := Lib.hid (HC3.out.below hbel); clear hbel)
            | (go_at_call 66; refine (HADD.out _ HC4.out).mono ?_; rintro e1 w3 ⟨rfl, hfin⟩; have HFIN := Lib.hid hfin; clear hfin))
          go_roundg (n - (k + 1))
          case measure => omega
          case rel => exact ⟨k + 1, by go_num, by omega, by omega, by rw [← ET'.out]; exact HFIN.out⟩
    · have hltz : ¬ (k : Int) < (n : Int) := by omega
      have e : k = n := by omega
      have HFIN : Hid (AccOf w g (acAll S x n) wr) := (show AccOf _ _ _ _ by rw [← e, ← eT]; exact HA.out)
      clear hok hn e eT eT' HF ET' HA
      go_wp2
      go_end0
      exact ⟨rfl, HFIN.out⟩
end Go.Proofs.Ytmeifciagepmpaa
