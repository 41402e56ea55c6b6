/- The law KernelShares: the walk. -/
import Derived.Test.YtbogemlkdncafaaKnownW
namespace Go.Proofs.Ytbogemlkdncafaa
open Go.RowKit Go.Proofs.YtbogemlkdncafaaW.PrintWords
set_option linter.unusedSimpArgs false
set_option linter.unusedVariables false

theorem rShare_told (w : World) (n c : Nat) (x : Nat → Int) (A : Option Addr) (hr : RowI w A n x) (hn64 : n ≤ 9223372036854775807) :
    Calls Try.prog 16 #[.slice A n c] w fun e w' => ShareTold w n x e w' :=
  (rShare_calls w n c x A hr hn64).mono fun _ _ h => h.told

/-- The numbers of a row, as a list. -/
def listOf (x : Nat → Int) (n : Nat) : List Int := (List.range n).map x
theorem listOf_len (x : Nat → Int) (n : Nat) : (listOf x n).length = n := by simp [listOf]
theorem listOf_rd (x : Nat → Int) (n k : Nat) (h : k < n) : rd (listOf x n) (k : Int) = x k := by
  simp [rd, listOf, List.getD_eq_getElem?_getD, h]
theorem RowI.congr {w : World} {A : Option Addr} {n : Nat} {x y : Nat → Int} (h : RowI w A n x) (he : ∀ k, k < n → x k = y k) : RowI w A n y := fun hn => by
  obtain ⟨ad, e, hc⟩ := h hn
  exact ⟨ad, e, fun i hi => by rw [hc i hi, he i hi]⟩
theorem RowI.reads {w : World} {A : Option Addr} {n : Nat} {x : Nat → Int} (h : RowI w A n x) (hn : n ≤ 9223372036854775807) : ReadsInt w .i64 A n (listOf x n) :=
  ⟨listOf_len x n, hn, fun h0 => by
    obtain ⟨ad, e, hc⟩ := h h0
    exact ⟨ad, e, fun j hj => by rw [hc j hj]; simp [listOf, List.getD_eq_getElem?_getD, hj]⟩⟩

set_option maxHeartbeats 1600000 in
set_option maxRecDepth 100000 in
theorem lawShares_calls (w : World) (n c : Nat) (x : Nat → Int) (A : Option Addr) (hr : RowI w A n x) (hn : n ≤ 9223372036854775807) :
    Calls Try.prog 7 #[.slice A n c] w fun e w' => e = .returned (.bool true) ∧ Below w.heap.size w w' := by
  have HR := Lib.hid hr
  clear hr
  by_cases hbig : 200 < n
  · have hd : decide ((200 : Int) < (n : Int)) = true := decide_eq_true (by omega)
    go_enter Try.func7, Try.ntmps7
    go_wp2_with (go_at_call 12; refine (known_calls _).mono ?_; rintro e1 w1 ⟨rfl, hb⟩; have HB := Lib.hid hb; clear hb)
    go_ret
    exact ⟨rfl, HB.out⟩
  · have hd : decide ((200 : Int) < (n : Int)) = false := decide_eq_false (by omega)
    have hn2 : n ≤ 200 := by omega
    clear hbig
    go_enter Try.func7, Try.ntmps7
    go_upto_region 5 with (go_at_call 12; refine (known_calls _).mono ?_; rintro e1 w1 ⟨rfl, hb⟩; have HR1 := Lib.hid (HR.out.below hb); have HB1 := Lib.hid hb; clear hb HR)
    clear hd
    go_upto_region 6 with (at_builtin; refine print_append_row (P := Try.prog) (w0 := w1) (W := w1) w1.heap.size rfl (.const (.slice none 0 0)) (.tmp 13) 33 3 .i64 8 rfl Try.underlying33 info_int (by decide) (.slice none 0 0) [] (listOf x n) A n c rfl rfl (own_nil _ _ _ _) (HR1.out.reads hn) (Below.refl _ _) (Nat.le_refl _) ?hl ?_; (case hl => simp; omega); intro v1 w2 hown hbel hg hat; rw [List.nil_append, listOf_len] at hown; obtain ⟨A1, q1, rfl⟩ := own_slice hown; have HL2 := Lib.hid ((own_rowI hown).congr fun k hk => listOf_rd x n k hk); have HR2 := Lib.hid (HR1.out.below hbel); have HB2 := Lib.hid (below_join HB1.out hbel); clear hown hbel hg hat HR1 HB1)
    go_upto_region 7 with (go_at_call 16; refine (rShare_told _ n c x A HR2.out hn).mono ?_; rintro e3 w3 ⟨A3, m3, y3, er3, rfl, hs, hrow, hm, hb⟩; have HS3 := Lib.hid hs; have HO3 := Lib.hid hrow; have HL3 := Lib.hid (HL2.out.below hb); have HR3 := Lib.hid (HR2.out.below hb); have HB3 := Lib.hid (below_join HB2.out hb); clear hs hrow hb HL2 HR2 HB2)
    go_upto_region 8 with (go_at_call 17; refine (kShare_told _ n q1 x A1 HL3.out hn).mono ?_; rintro e4 w4 ⟨A4, m4, y4, er4, rfl, hs, hrow, hm4, hb⟩; obtain ⟨hee, hsame⟩ := hs.unique HS3.out; subst hee; obtain ⟨hmm, hyy⟩ := hsame; subst hmm; have HY := Lib.hid hyy; have HO4 := Lib.hid (HO3.out.below hb); have HQ4 := Lib.hid hrow; have HL4 := Lib.hid (HL3.out.below hb); have HR4 := Lib.hid (HR3.out.below hb); have HB4 := Lib.hid (below_join HB3.out hb); clear hs hyy hrow hb HO3 HL3 HR3 HB3 HS3)
    have hbe : (er4 == er4) = true := beq_iff_eq.2 rfl
    go_wp2_with (first
      | (go_at_call 18; with_reducible refine (ints_yes w4 A4 A3 m4 m4 m4 y4 y3 HQ4.out HO4.out (by omega) HY.out).mono ?_; rintro e5 w5 ⟨rfl, hd⟩; have hb := hd.below; have HL5 := Lib.hid (HL4.out.below hb); have HR5 := Lib.hid (HR4.out.below hb); have HB5 := Lib.hid (below_join HB4.out hb); clear hd hb HL4 HR4 HB4)
      | (go_at_call 18; with_reducible refine (ints_yes w5 A1 A n q1 c x x HL5.out HR5.out (by omega) fun _ _ => rfl).mono ?_; rintro e6 w6 ⟨rfl, hd⟩; have HB6 := Lib.hid (below_join HB5.out hd.below); clear hd HB5))
    go_ret
    exact ⟨rfl, HB6.out⟩
end Go.Proofs.Ytbogemlkdncafaa
