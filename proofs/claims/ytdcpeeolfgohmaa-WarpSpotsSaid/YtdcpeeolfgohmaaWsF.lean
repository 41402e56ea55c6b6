/- halidelaw28.WarpSpots: the walk. -/
import Derived.Test.YtdcpeeolfgohmaaWsE
import Derived.Test.YtdcpeeolfgohmaaWmKL
namespace Go.Proofs.Ytdcpeeolfgohmaa
open Go.RowKit Go.Proofs.YtdcpeeolfgohmaaW.PrintWords
set_option linter.unusedSimpArgs false
set_option linter.unusedVariables false
attribute [local go_sem] Oper.semAt_some

/-- A store of three cells into a row's block. -/
theorem st3o {W : World} {g k : Nat} {t : TypeId} {cur : Array Value} (h : W.heap[g]? = some (.cells cur t (0, 0))) (hk : k + 2 < cur.size) (x y z : Value) :
    ∃ a b c cur', W.cell? ⟨g, k, none⟩ = some a ∧ W.frozen? ⟨g, k, none⟩ = false ∧ (W.setCell ⟨g, k, none⟩ x).cell? ⟨g, k + 1, none⟩ = some b ∧ (W.setCell ⟨g, k, none⟩ x).frozen? ⟨g, k + 1, none⟩ = false ∧ ((W.setCell ⟨g, k, none⟩ x).setCell ⟨g, k + 1, none⟩ y).cell? ⟨g, k + 2, none⟩ = some c ∧ ((W.setCell ⟨g, k, none⟩ x).setCell ⟨g, k + 1, none⟩ y).frozen? ⟨g, k + 2, none⟩ = false ∧
      (((W.setCell ⟨g, k, none⟩ x).setCell ⟨g, k + 1, none⟩ y).setCell ⟨g, k + 2, none⟩ z).heap[g]? = some (.cells cur' t (0, 0)) ∧ cur'.size = cur.size := by
  have q1 := blk_put h k x rfl
  have q2 := blk_put q1 (k + 1) y rfl
  have q3 := blk_put q2 (k + 2) z rfl
  refine ⟨cur[k]'(by omega), (cur.setIfInBounds k x)[k + 1]'(by simp; omega), ((cur.setIfInBounds k x).setIfInBounds (k + 1) y)[k + 2]'(by simp; omega), _, ?_, ufree h k, ?_, ufree q1 (k + 1), ?_, ufree q2 (k + 2), q3, by simp⟩
  · rw [ucell h]; simp
  · rw [ucell q1]; exact Array.getElem?_eq_getElem _
  · rw [ucell q2]; exact Array.getElem?_eq_getElem _
theorem RowSp.far {W V : World} {A : Option Addr} {L : List Spt} (h : RowSp W A L) (hs : ∀ ad, A = some ad → V.heap[ad.block]? = W.heap[ad.block]?) : RowSp V A L := fun hn => by
  obtain ⟨ad, e, hc⟩ := h hn
  refine ⟨ad, e, fun i hi => ?_⟩
  have hb : (ad.add (i * 3)).block = ad.block := by unfold Addr.add; split <;> rfl
  have key : ∀ (p : Addr) (u : Value), p.block = ad.block → W.cell? p = some u → V.cell? p = some u := fun p u hp hu => (World.cell?_of_block (by rw [hp]; exact hs ad e)).trans hu
  obtain ⟨h1, h2, h3⟩ := hc i hi
  exact ⟨key _ _ hb h1, key _ _ hb h2, key _ _ hb h3⟩
theorem RowSp.nil (W : World) (A : Option Addr) : RowSp W A [] := fun h => by simp at h
set_option maxHeartbeats 3200000 in
set_option maxRecDepth 100000 in
theorem lawSpots_err (kind border : Int) (t : Wp) (W H x y : Int) (w : World) (hne : spotsErr kind border t W H x y ≠ 0) :
    Calls Try.prog 6 #[.int .i64 kind, .int .i64 border, wpV t, .int .i64 W, .int .i64 H, .int .i64 x, .int .i64 y] w fun e w' => WGives w (.bool true) e w' := by
  have HKN := Lib.hid fun W => known28_calls W
  obtain ⟨er, eer⟩ : ∃ er, er = spotsErr kind border t W H x y := ⟨_, rfl⟩
  have HR : Hid (∀ W', Calls Try.prog 25 #[.int .i64 kind, .int .i64 border, wpV t, .int .i64 W, .int .i64 H, .int .i64 x, .int .i64 y] W' fun e w' => e = .returned (.tuple #[.slice none 0 0, .int .i64 er]) ∧ Below W'.heap.size W' w') := (show ∀ W', _ from fun W' => (rSpots_calls W' kind border t W H x y).mono fun e w' h => by
    rcases h with ⟨_, h2, h3⟩ | ⟨h1, _⟩
    · exact ⟨by rw [h2, eer], h3⟩
    · exact absurd h1 hne)
  have HP : Hid (∀ W', Calls Try.prog 26 #[.int .i64 kind, .int .i64 border, wpV t, .int .i64 W, .int .i64 H, .int .i64 x, .int .i64 y] W' fun e w' => e = .returned (.tuple #[.slice none 0 0, .int .i64 er]) ∧ Below W'.heap.size W' w') := (show ∀ W', _ from fun W' => (pSpots_calls W' kind border t W H x y).mono fun e w' h => by
    rcases h with ⟨_, h2, h3⟩ | ⟨h1, _⟩
    · exact ⟨by rw [h2, eer], h3⟩
    · exact absurd h1 hne)
  have HSS := Lib.hid fun W' => sameSpots_yes W' none none 0 0 [] (RowSp.nil _ _) (RowSp.nil _ _) (by decide)
  have HB0 : Hid (Below w.heap.size w (w.alloc (.cells (wpC t) 32))) := (show Below _ _ _ from (Below.refl _ _).alloc (Nat.le_refl _) _)
  have HT0 : Hid ((w.alloc (.cells (wpC t) 32)).heap[w.heap.size]? = some (.cells (wpC t) 32)) := (show _ = _ from heap_alloc_new w _)
  unfold WGives at HKN ⊢
  unfold wpV wpC at HR HP ⊢
  unfold wpC at HB0
  clear eer hne
  go_enter Try.func6, Try.ntmps6
  go_upto_region 7 with (first
    | (go_at_call 16; refine (HKN.out _).mono ?_; rintro e1 w1 ⟨rfl, hb⟩; have HB1 := Lib.hid (ujoin HB0.out hb); have HT1 := Lib.hid ((hb.block _ (heap_lt' HT0.out)).trans HT0.out); obtain ⟨c0, c1, c2, c3, c4, c5, c6⟩ := wpC_cells0 HT1.out; clear hb)
    | (go_at_call 25; refine (HR.out _).mono ?_; rintro e1 w2 ⟨rfl, hb⟩; have HB2 := Lib.hid (ujoin HB1.out hb); have HT2 := Lib.hid ((hb.block _ (heap_lt' HT1.out)).trans HT1.out); obtain ⟨d0, d1, d2, d3, d4, d5, d6⟩ := wpC_cells0 HT2.out; clear hb c0 c1 c2 c3 c4 c5 c6)
    | (go_at_call 26; refine (HP.out _).mono ?_; rintro e1 w3 ⟨rfl, hb⟩; have HB3 := Lib.hid (ujoin HB2.out hb); have HT3 := Lib.hid ((hb.block _ (heap_lt' HT2.out)).trans HT2.out); clear hb d0 d1 d2 d3 d4 d5 d6)
    | (go_at_call 27; refine (HSS.out _).mono ?_; rintro e1 w4 ⟨rfl, hd⟩; have HB4 := Lib.hid (ujoin HB3.out hd.below); have HT4 := Lib.hid ((hd.below.block _ (heap_lt' HT3.out)).trans HT3.out); clear hd))
  go_wp2
  go_loopw [19] (fun v wr => v = .int .i64 0 ∧ Hid (Below w.heap.size w wr) ∧ Hid (wr.heap[w.heap.size]? = some (.cells (wpC t) 32))) (fun _ _ => 0)
  case atStart => exact ⟨rfl, HB4.out, HT4.out⟩
  case round =>
    obtain ⟨rfl, HB, HT⟩ := hrel
    obtain ⟨c0, c1, c2, c3, c4, c5, c6⟩ := wpC_cells0 HT.out
    go_wp2_with (first
      | (go_at_call 26; refine (HP.out _).mono ?_; rintro e1 w5 ⟨rfl, hb⟩; have HB5 := Lib.hid (ujoin HB.out hb); clear hb c0 c1 c2 c3 c4 c5 c6)
      | (go_at_call 27; refine (HSS.out _).mono ?_; rintro e1 w6 ⟨rfl, hd⟩; have HB6 := Lib.hid (ujoin HB5.out hd.below); clear hd))
    go_ret
    exact ⟨rfl, HB6.out⟩

set_option maxHeartbeats 3200000 in
set_option maxRecDepth 100000 in
theorem lawSpots_ok (kind border : Int) (t : Wp) (W H x y : Int) (w : World) (h0 : spotsErr kind border t W H x y = 0) :
    Calls Try.prog 6 #[.int .i64 kind, .int .i64 border, wpV t, .int .i64 W, .int .i64 H, .int .i64 x, .int .i64 y] w fun e w' => WGives w (.bool true) e w' := by
  have HKN := Lib.hid fun W => known28_calls W
  have HR : Hid (∀ W', Calls Try.prog 25 #[.int .i64 kind, .int .i64 border, wpV t, .int .i64 W, .int .i64 H, .int .i64 x, .int .i64 y] W' fun e w' => ∃ A c L, e = .returned (.tuple #[.slice A L.length c, .int .i64 0]) ∧ IsSpots kind border t W H x y L ∧ RowSp w' A L ∧ (∀ ad, A = some ad → ad.block < w'.heap.size) ∧ Below W'.heap.size W' w') := (show ∀ W', _ from fun W' => (rSpots_calls W' kind border t W H x y).mono fun e w' h => by
    rcases h with ⟨h1, _⟩ | ⟨_, v, rfl, L, h2, h3, h4⟩
    · exact absurd h0 h1
    · obtain ⟨A, c, rfl, hc, hrow, hbk⟩ := h3.row
      exact ⟨A, c, L, rfl, h2, hrow, fun ad e => (h3.lt ad.block (by rw [e]; rfl)).2, h4⟩)
  have HP : Hid (∀ W', Calls Try.prog 26 #[.int .i64 kind, .int .i64 border, wpV t, .int .i64 W, .int .i64 H, .int .i64 x, .int .i64 y] W' fun e w' => ∃ v L, e = .returned (.tuple #[v, .int .i64 0]) ∧ IsSpots kind border t W H x y L ∧ OwnS w' W'.heap.size v L ∧ Below W'.heap.size W' w') := (show ∀ W', _ from fun W' => (pSpots_calls W' kind border t W H x y).mono fun e w' h => by
    rcases h with ⟨h1, _⟩ | ⟨_, v, rfl, L, h2, h3, h4⟩
    · exact absurd h0 h1
    · exact ⟨v, L, rfl, h2, h3, h4⟩)
  have HB0 : Hid (Below w.heap.size w (w.alloc (.cells (wpC t) 32))) := (show Below _ _ _ from (Below.refl _ _).alloc (Nat.le_refl _) _)
  have HT0 : Hid ((w.alloc (.cells (wpC t) 32)).heap[w.heap.size]? = some (.cells (wpC t) 32)) := (show _ = _ from heap_alloc_new w _)
  unfold WGives at HKN ⊢
  unfold wpV wpC at HR HP ⊢
  unfold wpC at HB0
  clear h0
  go_enter Try.func6, Try.ntmps6
  go_upto_region 7 with (first
    | (go_at_call 16; refine (HKN.out _).mono ?_; rintro e1 w1 ⟨rfl, hb⟩; have HB1 := Lib.hid (ujoin HB0.out hb); have HT1 := Lib.hid ((hb.block _ (heap_lt' HT0.out)).trans HT0.out); obtain ⟨c0, c1, c2, c3, c4, c5, c6⟩ := wpC_cells0 HT1.out; clear hb)
    | (go_at_call 25; refine (HR.out _).mono ?_; rintro e1 w2 ⟨A, ca, L, rfl, hL, hrow, hbk, hb⟩; have HB2 := Lib.hid (ujoin HB1.out hb); have HT2 := Lib.hid ((hb.block _ (heap_lt' HT1.out)).trans HT1.out); obtain ⟨d0, d1, d2, d3, d4, d5, d6⟩ := wpC_cells0 HT2.out; have HL := Lib.hid hL; have HRW := Lib.hid hrow; have HBK := Lib.hid hbk; have hl4 := hL.len; clear hL hrow hbk hb c0 c1 c2 c3 c4 c5 c6)
    | (go_at_call 26; refine (HP.out _).mono ?_; rintro e1 w3 ⟨v, L', rfl, hL', hO, hb⟩; have eL : L' = L := hL'.unique HL.out; subst eL; have HB3 := Lib.hid (ujoin HB2.out hb); have HT3 := Lib.hid ((hb.block _ (heap_lt' HT2.out)).trans HT2.out); have HO := Lib.hid hO; have HRW3 := Lib.hid (HRW.out.below hb); obtain ⟨A3, c3, e3, -, hr3, -⟩ := hO.row; subst e3; have HM3 := Lib.hid hr3; clear hL' hO hr3 hb d0 d1 d2 d3 d4 d5 d6)
    | (go_at_call 27; refine (sameSpots_yes _ _ _ _ _ _ HM3.out HRW3.out (by omega)).mono ?_; rintro e1 w4 ⟨rfl, hd⟩; have HB4 := Lib.hid (ujoin HB3.out hd.below); have HT4 := Lib.hid ((hd.below.block _ (heap_lt' HT3.out)).trans HT3.out); have HO4 := Lib.hid (HO.out.below hd.below); have HRW4 := Lib.hid (HRW3.out.below hd.below); clear hd))
  have HLO := Lib.hid (fun k hk => (HO4.out.lt k hk).1)
  rcases HO4.out.2 with ⟨e3, hn0⟩ | ⟨g, cap, cur, e3, hbg, hg, hnc, hcm, hcs, -⟩
  · injection e3 with e3 e4 e5
    subst e3
    have hltz : ¬ (0 : Int) < (L'.length : Int) := by omega
    have HN0 := Lib.hid hn0
    clear hn0 e4 e5 HLO HO HM3
    go_wp2
    go_loopw [19] (fun v wr => v = .int .i64 0 ∧ wr = w4) (fun _ _ => 0)
    case atStart => exact ⟨rfl, rfl⟩
    case round =>
      obtain ⟨rfl, rfl⟩ := hrel
      have HTX := HT4
      have HBX := HB4
      have HRX := HRW4
      obtain ⟨c0, c1, c2, c3, c4, c5, c6⟩ := wpC_cells0 HTX.out
      go_wp2_with (first
        | (go_at_call 26; refine (HP.out _).mono ?_; rintro e1 w5 ⟨v5, L5, rfl, hL5, hO5, hb⟩; have eL5 : L5 = L' := hL5.unique HL.out; subst eL5; have HB5 := Lib.hid (ujoin HBX.out hb); have HR5 := Lib.hid (HRX.out.below hb); obtain ⟨A5, c5, e5, -, hr5, -⟩ := hO5.row; subst e5; have HM5 := Lib.hid hr5; clear hL5 hO5 hr5 hb)
        | (go_at_call 27; refine (sameSpots_yes _ _ _ _ _ _ HM5.out HR5.out (by omega)).mono ?_; rintro e1 w6 ⟨rfl, hd⟩; have HB6 := Lib.hid (ujoin HB5.out hd.below); clear hd))
      go_ret
      exact ⟨rfl, HB6.out⟩
  · injection e3 with e3 e4 e5
    subst e3
    have HCU := Lib.hid (And.intro hbg (And.intro hg (show L'.length * 3 ≤ cur.size by rw [hcs]; exact Nat.mul_le_mul_right 3 hnc)))
    clear hbg hg hnc hcm hcs e4 e5 HLO HO HM3
    have HGW : Hid (w.heap.size ≤ g) := (show _ ≤ _ from Nat.le_trans HB2.out.size HCU.out.1)
    have HGT : Hid (w.heap.size ≠ g) := (show _ ≠ _ from by have := heap_lt' HT2.out; have := HCU.out.1; omega)
    have HGA : Hid (∀ ad, A = some ad → ad.block ≠ g) := (show ∀ ad, _ → _ from fun ad e => by have := HBK.out ad e; have := HCU.out.1; omega)
    go_wp2
    go_loopw [19] (fun v wr => ∃ i : Nat, v = .int .i64 (i : Int) ∧ i ≤ L'.length ∧ Hid (Below w.heap.size w wr) ∧ Hid (wr.heap[w.heap.size]? = some (.cells (wpC t) 32)) ∧ Hid (RowSp wr A L') ∧ Hid (∃ cur, wr.heap[g]? = some (.cells cur 51 (0, 0)) ∧ L'.length * 3 ≤ cur.size)) (fun v _ => L'.length - (intOf v).toNat)
    case atStart => exact ⟨0, rfl, by omega, HB4.out, HT4.out, HRW4.out, (show ∃ _, _ from ⟨_, HCU.out.2⟩)⟩
    case round =>
      obtain ⟨i, rfl, hi, HB, HT, HRW5, HC⟩ := hrel
      by_cases hlt : i < L'.length
      · have hltz : (i : Int) < (L'.length : Int) := by omega
        obtain ⟨cur2, hg2, hs2⟩ := HC.out
        obtain ⟨a, b, c, cur3, k0, f0, k1, f1, k2, f2, hg3, hs3⟩ := st3o hg2 (k := i * 3) (by omega) (.int .i64 (-9)) (.int .i64 0) (.int .i64 0)
        have HN1 : Hid (Below w.heap.size w (((wr.setCell ⟨g, i * 3, none⟩ (.int .i64 (-9))).setCell ⟨g, i * 3 + 1, none⟩ (.int .i64 0)).setCell ⟨g, i * 3 + 2, none⟩ (.int .i64 0))) := (show Below _ _ _ from ((HB.out.setCell (p := ⟨g, i * 3, none⟩) (HGW.out) _).setCell (p := ⟨g, i * 3 + 1, none⟩) (HGW.out) _).setCell (p := ⟨g, i * 3 + 2, none⟩) (HGW.out) _)
        have far : ∀ k, k ≠ g → (((wr.setCell ⟨g, i * 3, none⟩ (.int .i64 (-9))).setCell ⟨g, i * 3 + 1, none⟩ (.int .i64 0)).setCell ⟨g, i * 3 + 2, none⟩ (.int .i64 0)).heap[k]? = wr.heap[k]? := fun k hk => (Below.heap_setCell _ ⟨g, i * 3 + 2, none⟩ _ _ hk).trans ((Below.heap_setCell _ ⟨g, i * 3 + 1, none⟩ _ _ hk).trans (Below.heap_setCell _ ⟨g, i * 3, none⟩ _ _ hk))
        have HN2 := Lib.hid ((far _ HGT.out).trans HT.out)
        have HN3 := Lib.hid (HRW5.out.far fun ad e => far _ (HGA.out ad e))
        have HN4 : Hid (∃ cur, (((wr.setCell ⟨g, i * 3, none⟩ (.int .i64 (-9))).setCell ⟨g, i * 3 + 1, none⟩ (.int .i64 0)).setCell ⟨g, i * 3 + 2, none⟩ (.int .i64 0)).heap[g]? = some (.cells cur 51 (0, 0)) ∧ L'.length * 3 ≤ cur.size) := (show ∃ _, _ from ⟨_, hg3, by rw [hs3]; exact hs2⟩)
        clear far hg2 hs2 hg3 hs3
        go_wp2
        go_roundw
        case rel => exact ⟨i + 1, by first | rfl | go_num, by omega, HN1.out, HN2.out, HN3.out, HN4.out⟩
        case measure => simp [intOf]; omega
      · have hltz : ¬ (i : Int) < (L'.length : Int) := by omega
        have HTX := HT
        have HBX := HB
        have HRX := HRW5
        obtain ⟨c0, c1, c2, c3, c4, c5, c6⟩ := wpC_cells0 HTX.out
        go_wp2_with (first
          | (go_at_call 26; refine (HP.out _).mono ?_; rintro e1 w5 ⟨v5, L5, rfl, hL5, hO5, hb⟩; have eL5 : L5 = L' := hL5.unique HL.out; subst eL5; have HB5 := Lib.hid (ujoin HBX.out hb); have HR5 := Lib.hid (HRX.out.below hb); obtain ⟨A5, c5, e5, -, hr5, -⟩ := hO5.row; subst e5; have HM5 := Lib.hid hr5; clear hL5 hO5 hr5 hb)
          | (go_at_call 27; refine (sameSpots_yes _ _ _ _ _ _ HM5.out HR5.out (by omega)).mono ?_; rintro e1 w6 ⟨rfl, hd⟩; have HB6 := Lib.hid (ujoin HB5.out hd.below); clear hd))
        go_ret
        exact ⟨rfl, HB6.out⟩
theorem lawSpots_calls (kind border : Int) (t : Wp) (W H x y : Int) (w : World) :
    Calls Try.prog 6 #[.int .i64 kind, .int .i64 border, wpV t, .int .i64 W, .int .i64 H, .int .i64 x, .int .i64 y] w fun e w' => WGives w (.bool true) e w' := by
  by_cases h : spotsErr kind border t W H x y = 0
  · exact lawSpots_ok kind border t W H x y w h
  · exact lawSpots_err kind border t W H x y w h
end Go.Proofs.Ytdcpeeolfgohmaa
