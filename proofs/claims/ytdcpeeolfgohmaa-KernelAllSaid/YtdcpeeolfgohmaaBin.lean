/- kernel.Binomial. -/
import Derived.Test.YtdcpeeolfgohmaaCmp
namespace Go.Proofs.Ytdcpeeolfgohmaa
open Go.RowKit Go.Proofs.YtdcpeeolfgohmaaW.PrintWords
set_option linter.unusedSimpArgs false
set_option linter.unusedVariables false

/-- The first j of L added to those of N. -/
def addTo (N L : List Int) : Nat → List Int
  | 0 => N
  | j + 1 => (addTo N L j).set j (wrap64 (rd (addTo N L j) j + rd L j))
theorem addTo_len (N L : List Int) : ∀ j, (addTo N L j).length = N.length
  | 0 => rfl
  | j + 1 => by rw [addTo, List.length_set, addTo_len N L j]
def rowB : Nat → List Int
  | 0 => [1]
  | k + 1 => addTo (0 :: rowB k) (rowB k) (rowB k).length
theorem rowB_len : ∀ k, (rowB k).length = k + 1
  | 0 => rfl
  | k + 1 => by rw [rowB, addTo_len, List.length_cons, rowB_len k]

def binErr (r : Int) : Int := if 0 ≤ r ∧ r ≤ 8 then 0 else 91
def binRow (r : Int) : List Int := if 0 ≤ r ∧ r ≤ 8 then rowB (2 * r.toNat) else []
/-- A new row of numbers, with an error. -/
def RowErr (w : World) (L : List Int) (er : Int) (e : Ending) (w' : World) : Prop :=
  ∃ A c, e = .returned (.tuple #[.slice A L.length c, .int .i64 er]) ∧ w'.ownsRow w.heap.size 3 1 (.slice A L.length c) L.length (nums .i64 L) ∧ Below w.heap.size w w'
theorem rowErr_nil (w w' : World) (er : Int) (h : Below w.heap.size w w') : RowErr w [] er (.returned (.tuple #[.slice none 0 0, .int .i64 er])) w' :=
  ⟨none, 0, rfl, own_nil _ _ _ _, h⟩

set_option maxHeartbeats 1600000 in
set_option maxRecDepth 100000 in
theorem kBinomial_calls (r : Int) (w : World) :
    Calls Try.prog 49 #[.int .i64 r] w fun e w' => RowErr w (binRow r) (binErr r) e w' := by
  by_cases h0 : r < 0
  · have E : Hid (binErr r = 91 ∧ binRow r = []) := ⟨if_neg (by omega), if_neg (by omega)⟩
    have hd : decide (r < 0) = true := decide_eq_true h0
    clear h0
    go_enter Try.func49, Try.ntmps49
    go_wp2
    go_ret2
    rw [E.out.1, E.out.2]
    exact rowErr_nil _ _ _ (Below.refl _ _)
  · have hd : decide (r < 0) = false := decide_eq_false h0
    by_cases h8 : 8 < r
    · have E : Hid (binErr r = 91 ∧ binRow r = []) := ⟨if_neg (by omega), if_neg (by omega)⟩
      have hd8 : decide (8 < r) = true := decide_eq_true h8
      clear h0 h8
      go_enter Try.func49, Try.ntmps49
      go_wp2
      go_ret2
      rw [E.out.1, E.out.2]
      exact rowErr_nil _ _ _ (Below.refl _ _)
    · have E : Hid (binErr r = 0 ∧ binRow r = rowB (2 * r.toNat)) := ⟨if_pos (by omega), if_pos (by omega)⟩
      have hd8 : decide (8 < r) = false := decide_eq_false h8
      obtain ⟨m, rfl⟩ := Int.eq_ofNat_of_zero_le (by omega : 0 ≤ r)
      rw [Int.toNat_natCast] at E
      have W2 : IntKind.i64.wrap (2 * (m : Int)) = ((2 * m : Nat) : Int) := by rw [IntWalk.i64_in _ (by omega)]; omega
      have hm8 : m ≤ 8 := by omega
      clear h0 h8
      go_enter Try.func49, Try.ntmps49
      go_wp2
      clear hd hd8 W2
      have HL0 := own_lit w w.heap.size 3 .i64 [1] (Nat.le_refl _) (by decide)
      have HB0 : Below w.heap.size w (w.alloc (.cells #[.int .i64 1] 3)) := (Below.refl _ _).alloc (Nat.le_refl _) _
      go_loopg [4, 5, 6, 7, 17] (2 * m) (fun k v4 v5 v6 v7 v17 wr => ∃ (i g4 c4 : Nat), v17 = .int .i64 i ∧ v4 = .slice (some ⟨g4, 0, none⟩) (i + 1) c4 ∧ i ≤ 2 * m ∧ 2 * m ≤ i + k ∧ Aside (wr.ownsRow w.heap.size 3 1 (.slice (some ⟨g4, 0, none⟩) (i + 1) c4) (i + 1) (nums .i64 (rowB i))) ∧ Aside (Below w.heap.size w wr))
      case atStart => exact ⟨0, w.heap.size, 1, rfl, rfl, by omega, by omega, HL0, HB0⟩
      case round =>
        clear HL0 HB0
        obtain ⟨i, g4, c4, rfl, rfl, hi, hk, HO, HB⟩ := hrel
        by_cases hlt : i < 2 * m
        · have hltz : (i : Int) < ((2 * m : Nat) : Int) := by omega
          have hlen := rowB_len i
          obtain ⟨L, eL⟩ : ∃ L, L = rowB i := ⟨_, rfl⟩
          rw [← eL] at HO hlen
          have EL := Lib.hid eL
          have HLEN := Lib.hid hlen
          have HN : Hid (∀ o, (wr.alloc o).ownsRow w.heap.size 3 1 (.slice (some ⟨g4, 0, none⟩) (i + 1) c4) (i + 1) (nums .i64 L)) := fun o => own_alloc HO.out o
          have HL1 : Hid ((wr.alloc (.cells #[.int .i64 0] 3)).ownsRow wr.heap.size 3 1 (.slice (some ⟨wr.heap.size, 0, none⟩) 1 1) 1 (nums .i64 [0])) := own_lit wr wr.heap.size 3 .i64 [0] (Nat.le_refl _) (by decide)
          have HB1 : Hid (Below wr.heap.size wr (wr.alloc (.cells #[.int .i64 0] 3))) := (Below.refl _ _).alloc (Nat.le_refl _) _
          clear eL hlen
          go_upto_region 7 with (at_builtin; refine print_append_row (P := Try.prog) (w0 := wr) (W := wr.alloc (.cells #[.int .i64 0] 3)) wr.heap.size rfl (.tmp 19) (.tmp 20) 93 3 .i64 8 rfl Try.underlying93 info_int (by decide) (.slice (some ⟨wr.heap.size, 0, none⟩) 1 1) [0] L (some ⟨g4, 0, none⟩) (i + 1) c4 rfl rfl HL1.out (own_reads' (HN.out _)) HB1.out HB1.out.size ?hl ?_; (case hl => simp; omega); intro v1 w2 hown hbel hg hat; have hle : ([0] ++ L).length = i + 2 := (by simp [HLEN.out]); rw [hle] at hown; obtain ⟨g5, c5, rfl, hgb, _⟩ := hown.form (by omega); have HO5 := Aside0.mk hown; have HB5 := Aside0.mk hbel; clear hown hbel hg hat hle hgb)
          clear HN HL1 HB1
          go_wp2
          go_loopg [6, 7, 24] (i + 1) (fun k v6 v7 v24 wx => ∃ j : Nat, v24 = .int .i64 j ∧ j ≤ i + 1 ∧ i + 1 ≤ j + k ∧ Aside (wx.ownsRow wr.heap.size 3 1 (.slice (some ⟨g5, 0, none⟩) (i + 2) c5) (i + 2) (nums .i64 (addTo (0 :: L) L j))) ∧ Aside (Below wr.heap.size wr wx))
          case atStart => exact ⟨0, rfl, by omega, by omega, HO5.out, HB5.out⟩
          case round =>
            clear HO5 HB5
            obtain ⟨j, rfl, hj, hjk, HO5, HB5⟩ := hrel
            by_cases hlt2 : j < i + 1
            · have hltz2 : (j : Int) < ((i + 1 : Nat) : Int) := by omega
              have hltz3 : (j : Int) < ((i + 2 : Nat) : Int) := by omega
              obtain ⟨x, ex⟩ : ∃ x, x = rd L j := ⟨_, rfl⟩
              obtain ⟨y, ey⟩ : ∃ y, y = rd (addTo (0 :: L) L j) j := ⟨_, rfl⟩
              have c1 := (own_at (pw_own_below HO.out HB5.out) (j : Int) (by omega) (by omega)).1
              obtain ⟨c2, f2⟩ := own_at HO5.out (j : Int) (by omega) (by omega)
              rw [← ex, Int.toNat_natCast] at c1
              rw [← ey, Int.toNat_natCast] at c2
              rw [Int.toNat_natCast] at f2
              have EX := Lib.hid ex
              have EY := Lib.hid ey
              clear ex ey
              go_wp2
              go_roundg (i + 1 - (j + 1))
              case measure => omega
              case rel =>
                have hs := (own_store HO5.out (j : Int) (wrap64 (y + x))).1
                rw [Int.toNat_natCast] at hs
                have hgb := own_base HO5.out g5 rfl
                refine ⟨j + 1, by go_num, by omega, by omega, ?_, HB5.out.setCell (show _ ≤ g5 from hgb) _⟩
                rw [addTo, ← EX.out, ← EY.out]; exact hs
            · have hltz2 : ¬ (j : Int) < ((i + 1 : Nat) : Int) := by omega
              have e : j = i + 1 := by omega
              subst e
              go_wp2
              go_roundg (2 * m - (i + 1))
              case measure => omega
              case rel =>
                refine ⟨i + 1, g5, c5, by go_num, rfl, by omega, by omega, ?_, ?_⟩
                · rw [rowB, ← EL.out, HLEN.out]; exact own_weaken HO5.out HB.out.size
                · exact HB.out.trans ⟨HB5.out.os, HB5.out.tape, HB5.out.output, HB5.out.size, fun q hq => HB5.out.block q (Nat.lt_of_lt_of_le hq HB.out.size)⟩
        · have hltz : ¬ (i : Int) < ((2 * m : Nat) : Int) := by omega
          have e : i = 2 * m := by omega
          subst e
          go_wp2
          go_ret2
          rw [E.out.1, E.out.2]
          have hl := rowB_len (2 * m)
          refine ⟨some ⟨g4, 0, none⟩, c4, by rw [hl]; rfl, ?_, HB.out⟩
          rw [hl]; exact HO.out
end Go.Proofs.Ytdcpeeolfgohmaa
