/- halidelaw9.known: the walk. -/
import Derived.Test.YtdcpeeolfgohmaaKnown
namespace Go.Proofs.Ytdcpeeolfgohmaa
open Go.RowKit Go.Proofs.YtdcpeeolfgohmaaW.PrintWords
set_option linter.unusedSimpArgs false
set_option linter.unusedVariables false

theorem sameTaps_yes (w : World) (A B : Option Addr) (n c d : Nat) (p q p' q' : Nat → Int) (hx : RowT w A n p q) (hy : RowT w B n p' q') (hn : n ≤ 4611686018427387904) (h : ∀ k, k < n → p k = p' k ∧ q k = q' k) :
    Calls Try.prog 15 #[.slice A n c, .slice B n d] w fun e w' => e = .returned (.bool true) ∧ Drawn0 w w' :=
  (sameTaps_calls w A B n n c d p q p' q' hx hy hn).mono fun e w' ⟨r, he, hr, hd⟩ => ⟨by rw [he, hr.2 ⟨rfl, h⟩], hd⟩
theorem ints_yes (w : World) (A B : Option Addr) (n c d : Nat) (x y : Nat → Int) (hx : RowI w A n x) (hy : RowI w B n y) (hn : n ≤ 4611686018427387904) (h : ∀ k, k < n → x k = y k) :
    Calls Try.prog 50 #[.slice A n c, .slice B n d] w fun e w' => e = .returned (.bool true) ∧ Drawn0 w w' :=
  (ints_calls w A B n n c d x y hx hy hn).mono fun e w' ⟨r, he, hr, hd⟩ => ⟨by rw [he, hr.2 ⟨rfl, h⟩], hd⟩

theorem kn_taps1 (w : World) : Calls Try.prog 47 #[.int .i64 2, .int .i64 2, .int .i64 4, .int .i64 1] w fun e w' => ∃ A c, e = .returned (.tuple #[.slice A 2 c, .int .i64 0]) ∧ RowT w' A 2 (tapP [(0, 49152), (1, 16384)]) (tapW [(0, 49152), (1, 16384)]) ∧ Below w.heap.size w w' :=
  (kTaps_told 2 2 4 1 w).mono fun e w' ⟨A, l, c, he, ht, ho, hb⟩ => by
    have e0 : tapsErr 2 2 4 1 = 0 := by decide +kernel
    have el := known1 ht
    subst el
    exact ⟨A, c, by rw [he, e0]; rfl, own_rowT ho, hb⟩
theorem kn_taps2 (w : World) : Calls Try.prog 47 #[.int .i64 3, .int .i64 2, .int .i64 4, .int .i64 1] w fun e w' => ∃ A c, e = .returned (.tuple #[.slice A 2 c, .int .i64 0]) ∧ RowT w' A 2 (tapP [(0, 52224), (1, 13312)]) (tapW [(0, 52224), (1, 13312)]) ∧ Below w.heap.size w w' :=
  (kTaps_told 3 2 4 1 w).mono fun e w' ⟨A, l, c, he, ht, ho, hb⟩ => by
    have e0 : tapsErr 3 2 4 1 = 0 := by decide +kernel
    have el := known2 ht
    subst el
    exact ⟨A, c, by rw [he, e0]; rfl, own_rowT ho, hb⟩
theorem kn_share (w : World) (A : Option Addr) (c : Nat) (h : RowI w A 3 (fun k => rd [1, 1, 1] (k : Int))) : Calls Try.prog 48 #[.slice A 3 c] w fun e w' => ∃ B, e = .returned (.tuple #[.slice B 3 3, .int .i64 0]) ∧ RowI w' B 3 (fun k => rd [21846, 21845, 21845] (k : Int)) ∧ Below w.heap.size w w' :=
  (kShare_told w 3 c _ A h (by decide)).mono fun e w' ⟨B, m, y, er, he, hs, hr, _, hb⟩ => by
    obtain ⟨rfl, rfl, hy⟩ := known3 hs
    refine ⟨B, he, fun hn => ?_, hb⟩
    obtain ⟨ad, e, hc⟩ := hr hn
    exact ⟨ad, e, fun i hi => by rw [hc i hi, hy i hi]⟩
theorem kn_bin (w : World) : Calls Try.prog 49 #[.int .i64 2] w fun e w' => ∃ A c, e = .returned (.tuple #[.slice A 5 c, .int .i64 0]) ∧ RowI w' A 5 (fun k => rd [1, 4, 6, 4, 1] (k : Int)) ∧ Below w.heap.size w w' :=
  (kBinomial_calls 2 w).mono fun e w' ⟨A, c, he, ho, hb⟩ => by
    rw [known4.1, known4.2] at *
    exact ⟨A, c, he, own_rowI ho, hb⟩

theorem below_of_alloc {w w' : World} {o : Obj} (h : Below (w.alloc o).heap.size (w.alloc o) w') : Below w.heap.size w w' := by
  have h0 : Below w.heap.size w (w.alloc o) := (Below.refl _ _).alloc (Nat.le_refl _) _
  exact h0.trans (h.mono h0.size)
theorem below_join {w w1 w2 : World} (h : Below w.heap.size w w1) (h' : Below w1.heap.size w1 w2) : Below w.heap.size w w2 := h.trans (h'.mono h.size)

set_option maxHeartbeats 3200000 in
set_option maxRecDepth 100000 in
theorem known_calls (w : World) :
    Calls Try.prog 12 #[] w fun e w' => e = .returned (.bool true) ∧ Below w.heap.size w w' := by
  have HS := Lib.hid fun W (A B : Option Addr) (c d : Nat) (l : List (Int × Int)) (h1 : RowT W A 2 (tapP l) (tapW l)) (h2 : RowT W B 2 (tapP l) (tapW l)) => sameTaps_yes W A B 2 c d _ _ _ _ h1 h2 (by decide) fun k _ => ⟨rfl, rfl⟩
  have HI := Lib.hid fun W (A B : Option Addr) (n c d : Nat) (l : List Int) (hn : n ≤ 5) (h1 : RowI W A n (fun k => rd l (k : Int))) (h2 : RowI W B n (fun k => rd l (k : Int))) => ints_yes W A B n c d _ _ h1 h2 (by omega) fun k _ => rfl
  go_enter Try.func12, Try.ntmps12
  go_upto_region 2 with (go_at_call 47; refine (kn_taps1 _).mono ?_; rintro e1 w1 ⟨A1, c1, rfl, hr, hb⟩; have HR1 := Lib.hid hr; have HB1 := Lib.hid hb; clear hr hb)
  go_upto_region 3 with (go_at_call 47; refine (kn_taps2 _).mono ?_; rintro e2 w2 ⟨A2, c2, rfl, hr, hb⟩; have HR2 := Lib.hid hr; have HB2 := Lib.hid hb; have HR1' := Lib.hid (HR1.out.below hb); have HB1' := Lib.hid (HB1.out.trans (hb.mono HB1.out.size)); clear hr hb HR1 HB1)
  clear HB2
  go_upto_region 4 with (go_at_call 48; refine (kn_share _ _ _ (lit_rowI _ _ [1, 1, 1] (by decide))).mono ?_; rintro e3 w3 ⟨A3, rfl, hr, hb0⟩; have hb := below_of_alloc hb0; have HR3 := Lib.hid hr; have HQ1 := Lib.hid (HR1'.out.below hb); have HQ2 := Lib.hid (HR2.out.below hb); have HB3 := Lib.hid (below_join HB1'.out hb); clear hr hb hb0 HR2 HR1' HB1')
  go_upto_region 5 with (go_at_call 49; refine (kn_bin _).mono ?_; rintro e4 w4 ⟨A4, c4, rfl, hr, hb⟩; have HR4 := Lib.hid hr; have HP1 := Lib.hid (HQ1.out.below hb); have HP2 := Lib.hid (HQ2.out.below hb); have HP3 := Lib.hid (HR3.out.below hb); have HB4 := Lib.hid (below_join HB3.out hb); clear hr hb HR3 HQ1 HQ2 HB3)
  have HA1 : Hid (∀ W : World, Below w4.heap.size w4 W → ∀ t : TypeId, Calls Try.prog 15 #[.slice A1 2 c1, .slice (some ⟨W.heap.size, 0, none⟩) 2 2] (W.alloc (.cells #[.int .i64 0, .int .i64 49152, .int .i64 1, .int .i64 16384] t)) fun e w' => e = .returned (.bool true) ∧ Drawn0 (W.alloc (.cells #[.int .i64 0, .int .i64 49152, .int .i64 1, .int .i64 16384] t)) w') := fun W hW t => HS.out _ _ _ _ _ [(0, 49152), (1, 16384)] ((HP1.out.below hW).below ((Below.refl _ _).alloc (Nat.le_refl _) _)) (lit_rowT W t [(0, 49152), (1, 16384)] (by decide))
  have HA2 : Hid (∀ W : World, Below w4.heap.size w4 W → ∀ t : TypeId, Calls Try.prog 15 #[.slice A2 2 c2, .slice (some ⟨W.heap.size, 0, none⟩) 2 2] (W.alloc (.cells #[.int .i64 0, .int .i64 52224, .int .i64 1, .int .i64 13312] t)) fun e w' => e = .returned (.bool true) ∧ Drawn0 (W.alloc (.cells #[.int .i64 0, .int .i64 52224, .int .i64 1, .int .i64 13312] t)) w') := fun W hW t => HS.out _ _ _ _ _ [(0, 52224), (1, 13312)] ((HP2.out.below hW).below ((Below.refl _ _).alloc (Nat.le_refl _) _)) (lit_rowT W t [(0, 52224), (1, 13312)] (by decide))
  have HA3 : Hid (∀ W : World, Below w4.heap.size w4 W → ∀ t : TypeId, Calls Try.prog 50 #[.slice A3 3 3, .slice (some ⟨W.heap.size, 0, none⟩) 3 3] (W.alloc (.cells #[.int .i64 21846, .int .i64 21845, .int .i64 21845] t)) fun e w' => e = .returned (.bool true) ∧ Drawn0 (W.alloc (.cells #[.int .i64 21846, .int .i64 21845, .int .i64 21845] t)) w') := fun W hW t => HI.out _ _ _ _ _ _ [21846, 21845, 21845] (by decide) ((HP3.out.below hW).below ((Below.refl _ _).alloc (Nat.le_refl _) _)) (lit_rowI W t [21846, 21845, 21845] (by decide))
  have HA4 : Hid (∀ W : World, Below w4.heap.size w4 W → ∀ t : TypeId, Calls Try.prog 50 #[.slice A4 5 c4, .slice (some ⟨W.heap.size, 0, none⟩) 5 5] (W.alloc (.cells #[.int .i64 1, .int .i64 4, .int .i64 6, .int .i64 4, .int .i64 1] t)) fun e w' => e = .returned (.bool true) ∧ Drawn0 (W.alloc (.cells #[.int .i64 1, .int .i64 4, .int .i64 6, .int .i64 4, .int .i64 1] t)) w') := fun W hW t => HI.out _ _ _ _ _ _ [1, 4, 6, 4, 1] (by decide) ((HR4.out.below hW).below ((Below.refl _ _).alloc (Nat.le_refl _) _)) (lit_rowI W t [1, 4, 6, 4, 1] (by decide))
  have HD : Hid (∀ W W' : World, ∀ o : Obj, Below w4.heap.size w4 W → Drawn0 (W.alloc o) W' → Below w4.heap.size w4 W') := fun W W' o h hd => below_join h (below_of_alloc hd.below)
  clear HS HI HP1 HP2 HP3 HR4
  have hb0 : Aside (Below w4.heap.size w4 w4) := Below.refl _ _
  go_wp2_with (first
    | (go_at_call 15; refine (HA1.out w4 hb0.out _).mono ?_; rintro e5 w5 ⟨rfl, hd⟩; have hb5 := Lib.hid (HD.out _ _ _ hb0.out hd); clear hd hb0)
    | (go_at_call 15; refine (HA2.out w5 hb5.out _).mono ?_; rintro e6 w6 ⟨rfl, hd⟩; have hb6 := Lib.hid (HD.out _ _ _ hb5.out hd); clear hd hb5)
    | (go_at_call 50; refine (HA3.out w6 hb6.out _).mono ?_; rintro e7 w7 ⟨rfl, hd⟩; have hb7 := Lib.hid (HD.out _ _ _ hb6.out hd); clear hd hb6)
    | (go_at_call 50; refine (HA4.out w7 hb7.out _).mono ?_; rintro e8 w8 ⟨rfl, hd⟩; have hb8 := Lib.hid (HD.out _ _ _ hb7.out hd); clear hd hb7))
  go_ret
  exact ⟨rfl, below_join HB4.out hb8.out⟩
end Go.Proofs.Ytdcpeeolfgohmaa
