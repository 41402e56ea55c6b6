/- The law KernelTaps: the walk. -/
import Derived.Test.YtbogemlkdncafaaRefT
namespace Go.Proofs.Ytbogemlkdncafaa
open Go.RowKit Go.Proofs.YtbogemlkdncafaaW.PrintWords
set_option linter.unusedSimpArgs false
set_option linter.unusedVariables false

set_option maxHeartbeats 3200000 in
set_option maxRecDepth 100000 in
theorem lawTaps_calls (kind from' tt i : Int) (w : World) :
    Calls Try.prog 6 #[.int .i64 kind, .int .i64 from', .int .i64 tt, .int .i64 i] w fun e w' => e = .returned (.bool true) ∧ Below w.heap.size w w' := by
  go_enter Try.func6, Try.ntmps6
  go_upto_region 3 with (go_at_call 12; refine (known_calls _).mono ?_; rintro e1 w1 ⟨rfl, hb⟩; have HB1 := Lib.hid hb; clear hb)
  go_upto_region 4 with (go_at_call 13; refine (rTaps_told kind from' tt i _).mono ?_; rintro e2 w2 ⟨B, l, d, rfl, ht, ho, hb⟩; have HT := Lib.hid ht; have HR2 := Lib.hid (own_rowT ho); have HB2 := Lib.hid (below_join HB1.out hb); clear ht ho hb HB1)
  obtain ⟨er, eer⟩ : ∃ er, er = tapsErr kind from' tt i := ⟨_, rfl⟩
  rw [← eer]
  have EER := Lib.hid eer
  clear eer
  have HK : Hid (∀ W, Calls Try.prog 14 #[.int .i64 kind, .int .i64 from', .int .i64 tt, .int .i64 i] W fun e w' => ∃ A c, e = .returned (.tuple #[.slice A l.length c, .int .i64 er]) ∧ w'.ownsRow W.heap.size 31 2 (.slice A l.length c) l.length (tapCells l) ∧ Below W.heap.size W w') := fun W =>
    (kTaps_told kind from' tt i W).mono fun e w' ⟨A, l', c, he, ht, ho, hb⟩ => by
      have el := ht.unique HT.out
      subst el
      exact ⟨A, c, by rw [EER.out]; exact he, ho, hb⟩
  have hn62 := HT.out.len
  obtain ⟨n, en⟩ : ∃ n, n = l.length := ⟨_, rfl⟩
  rw [← en] at HK hn62 HR2 ⊢
  have EN := Lib.hid en
  clear en
  go_upto_region 5 with (go_at_call 14; refine (HK.out _).mono ?_; rintro e3 w3 ⟨A, c, rfl, ho, hb⟩; have HO3 := Lib.hid ho; have HR3 := Lib.hid (own_rowT (l := l) (by rw [← EN.out]; exact ho)); have HQ3 := Lib.hid (HR2.out.below hb); have HB3 := Lib.hid hb; clear ho hb)
  rw [← EN.out] at HR3
  have hbe : (er != er) = false := bne_self_eq_false _
  go_upto_region 8 with (go_at_call 15; refine (sameTaps_yes w3 A B n c d _ _ _ _ HR3.out HQ3.out (by omega) fun k _ => ⟨rfl, rfl⟩).mono ?_; rintro e4 w4 ⟨rfl, hd⟩; obtain ⟨q4, rfl⟩ := hd.out)
  go_wp2
  go_loopg [13] n (fun kq v13 wr => ∃ (j : Nat) (xs : List Value), v13 = .int .i64 j ∧ j ≤ n ∧ n ≤ j + kq ∧ Hid (xs.length = 2 * n) ∧ Aside (wr.ownsRow w2.heap.size 31 2 (.slice A n c) n xs) ∧ Aside (Below w2.heap.size w2 wr))
  case atStart => exact ⟨0, tapCells l, rfl, by omega, by omega, (show _ = _ by rw [tapCells_length, EN.out]), HO3.out, (show Below w2.heap.size w2 (w3.drewN q4) from ⟨HB3.out.os, HB3.out.tape, HB3.out.output, HB3.out.size, HB3.out.block⟩)⟩
  case round =>
    obtain ⟨j, xs, rfl, hj, hk, HL, HO, HB⟩ := hrel
    by_cases hlt : j < n
    · have hltz : (j : Int) < (n : Int) := by omega
      obtain ⟨g, rfl⟩ := own_some HO.out (by omega)
      have hx1 : j * 2 < xs.length := by rw [HL.out]; omega
      have hx2 : j * 2 + 1 < xs.length := by rw [HL.out]; omega
      have c1 := HO.out.cells (g := g) rfl _ _ (List.getElem?_eq_getElem hx1)
      have c2 := HO.out.cells (g := g) rfl _ _ (List.getElem?_eq_getElem hx2)
      rw [add_plain] at c1 c2
      obtain ⟨u1, eu1⟩ : ∃ u, u = xs[j * 2] := ⟨_, rfl⟩
      obtain ⟨u2, eu2⟩ : ∃ u, u = xs[j * 2 + 1] := ⟨_, rfl⟩
      rw [← eu1] at c1
      rw [← eu2] at c2
      have hfz : ∀ o, wr.frozen? ⟨g, o, none⟩ = false := fun o => by
        rcases HO.out.2 with ⟨h', _⟩ | ⟨g', cap', cur, h', _, hh, _⟩
        · cases h'
        · have : g = g' := by injection h' with h'; injection h' with h'; injection h' with h'
          subst this
          simp [World.frozen?, hh]
      have f1 := hfz (j * 2)
      have f2 := hfz (j * 2 + 1)
      have hgb : w2.heap.size ≤ g := own_base HO.out g rfl
      clear eu1 eu2 hfz hx1 hx2
      go_wp2
      go_roundg (n - (j + 1))
      case measure => omega
      case rel =>
        have s1 := (HO.out.stored (j * 2) (.int .i64 (-3))).1
        have s2 := (s1.stored (j * 2 + 1) (.int .i64 0)).1
        refine ⟨j + 1, _, by go_num, by omega, by omega, (show _ = _ by rw [List.length_set, List.length_set]; exact HL.out), s2, ?_⟩
        exact (HB.out.setCell (show _ ≤ g from hgb) _).setCell (show _ ≤ g from hgb) _
    · have hltz : ¬ (j : Int) < (n : Int) := by omega
      have HQ := Lib.hid (HR2.out.below HB.out)
      go_wp2_with (first
        | (go_at_call 14; refine (HK.out _).mono ?_; rintro e5 w5 ⟨A5, c5, rfl, ho, hb⟩; have HR5 := Lib.hid (own_rowT (l := l) (by rw [← EN.out]; exact ho)); have HQ5 := Lib.hid (HQ.out.below hb); have HB5 := Lib.hid (below_join HB.out hb); clear ho hb; rw [← EN.out] at HR5)
        | (go_at_call 15; refine (sameTaps_yes w5 A5 B n c5 d _ _ _ _ HR5.out HQ5.out (by omega) fun k _ => ⟨rfl, rfl⟩).mono ?_; rintro e6 w6 ⟨rfl, hd⟩; have HB6 := Lib.hid (below_join HB5.out hd.below); clear hd))
      go_ret
      exact ⟨rfl, below_join HB2.out HB6.out⟩
end Go.Proofs.Ytbogemlkdncafaa
