/- halideref9.Flat, halideref9.Binomial. -/
import Derived.Test.YtbogemlkdncafaaFlat
namespace Go.Proofs.Ytbogemlkdncafaa
open Go.RowKit Go.Proofs.YtbogemlkdncafaaW.PrintWords
set_option linter.unusedSimpArgs false
set_option linter.unusedVariables false

set_option maxHeartbeats 1600000 in
set_option maxRecDepth 100000 in
theorem rFlat_calls (r : Int) (w : World) :
    Calls Try.prog 22 #[.int .i64 r] w fun e w' => RowErr w (flatRow r) (flatErr r) e w' := by
  by_cases h0 : r < 0
  · have E : Hid (flatErr r = 91 ∧ flatRow r = []) := ⟨if_neg (by omega), if_neg (by omega)⟩
    have hd : decide (r < 0) = true := decide_eq_true h0
    clear h0
    go_enter Try.func22, Try.ntmps22
    go_wp2
    go_ret2
    rw [E.out.1, E.out.2]
    exact rowErr_nil _ _ _ (Below.refl _ _)
  · have hd : decide (r < 0) = false := decide_eq_false h0
    by_cases h8 : 31 < r
    · have E : Hid (flatErr r = 91 ∧ flatRow r = []) := ⟨if_neg (by omega), if_neg (by omega)⟩
      have hd8 : decide (31 < r) = true := decide_eq_true h8
      clear h0 h8
      go_enter Try.func22, Try.ntmps22
      go_wp2
      go_ret2
      rw [E.out.1, E.out.2]
      exact rowErr_nil _ _ _ (Below.refl _ _)
    · have E : Hid (flatErr r = 0 ∧ flatRow r = List.replicate (2 * r.toNat + 1) 1) := ⟨if_pos (by omega), if_pos (by omega)⟩
      have hd8 : decide (31 < r) = false := decide_eq_false h8
      obtain ⟨m, rfl⟩ := Int.eq_ofNat_of_zero_le (by omega : 0 ≤ r)
      rw [Int.toNat_natCast] at E
      obtain ⟨n, en⟩ : ∃ n, n = 2 * m + 1 := ⟨_, rfl⟩
      have W2 : IntKind.i64.wrap (2 * (m : Int)) = 2 * (m : Int) := IntWalk.i64_in _ (by omega)
      have W3 : IntKind.i64.wrap (2 * (m : Int) + 1) = (n : Int) := by rw [IntWalk.i64_in _ (by omega)]; omega
      rw [← en] at E
      have hn : n ≤ 63 := by omega
      have EN := Lib.hid en
      clear h0 h8 en
      go_enter Try.func22, Try.ntmps22
      go_wp2
      go_loopg [4, 5] n (fun kq v4 v5 wr => ∃ (j : Nat) (A : Option Addr) (c : Nat), v5 = .int .i64 j ∧ v4 = .slice A j c ∧ j ≤ n ∧ n ≤ j + kq ∧ Aside (wr.ownsRow w.heap.size 3 1 (.slice A j c) j (nums .i64 (List.replicate j 1))) ∧ Aside (Below w.heap.size w wr))
      case atStart => exact ⟨0, none, 0, rfl, rfl, by omega, by omega, own_nil _ _ _ _, Below.refl _ _⟩
      case round =>
        obtain ⟨j, A, c, rfl, rfl, hj, hk, HO, HB⟩ := hrel
        by_cases hlt : j < n
        · have hltz : (j : Int) < (n : Int) := by omega
          have HO' : Aside (wr.ownsRow w.heap.size 3 1 (.slice A j c) (List.replicate j (1 : Int)).length (nums .i64 (List.replicate j 1))) := by rw [List.length_replicate]; exact HO
          have hl' : ((List.replicate j (1 : Int)).length + 1) * 8 ≤ 140737488355328 := by rw [List.length_replicate]; omega
          go_wp2_with (at_builtin; refine print_append_num (P := Try.prog) (w0 := w) (W := wr) w.heap.size rfl (.tmp 19) (.tmp 20) 33 3 .i64 8 rfl Try.underlying33 info_int (by decide) (.slice A j c) (List.replicate j 1) 1 rfl rfl HO'.out HB.out HB.out.size hl' ?_; intro v1 w3 hown hbel hg hat; rw [show List.replicate j (1 : Int) ++ [1] = List.replicate (j + 1) 1 from (List.replicate_succ').symm, List.length_replicate] at hown; obtain ⟨A1, q1, rfl⟩ := own_slice hown; have HO3 := Aside0.mk hown; have HB3 := Aside0.mk hbel; clear hown hbel hg hat)
          go_roundg (n - (j + 1))
          case measure => omega
          case rel => exact ⟨j + 1, A1, q1, by go_num, rfl, by omega, by omega, HO3.out, HB3.out⟩
        · have hltz : ¬ (j : Int) < (n : Int) := by omega
          have e : j = n := by omega
          subst e
          go_wp2
          go_ret2
          rw [E.out.1, E.out.2]
          refine ⟨A, c, by rw [List.length_replicate]; rfl, ?_, HB.out⟩
          rw [List.length_replicate]; exact HO.out

theorem wrap64_eq (x : Int) : wrap64 x = IntKind.i64.wrap x := (IntWalk.i64_left x).symm
def nextTo (L : List Int) : Nat → List Int
  | 0 => [1]
  | j + 1 => nextTo L j ++ [wrap64 (rd L j + rd L ((j + 1 : Nat) : Int))]
theorem nextTo_len (L : List Int) : ∀ j, (nextTo L j).length = j + 1
  | 0 => rfl
  | j + 1 => by rw [nextTo, List.length_append, nextTo_len L j]; rfl
def refB : Nat → List Int
  | 0 => [1]
  | k + 1 => nextTo (refB k) k ++ [1]
theorem refB_len : ∀ k, (refB k).length = k + 1
  | 0 => rfl
  | k + 1 => by rw [refB, List.length_append, nextTo_len]; rfl
theorem refB_row : ∀ m, m ≤ 8 → refB (2 * m) = rowB (2 * m) := by decide +kernel

set_option maxHeartbeats 1600000 in
set_option maxRecDepth 100000 in
theorem rBinomial_calls (r : Int) (w : World) :
    Calls Try.prog 20 #[.int .i64 r] w fun e w' => RowErr w (binRow r) (binErr r) e w' := by
  by_cases h0 : r < 0
  · have E : Hid (binErr r = 91 ∧ binRow r = []) := ⟨if_neg (by omega), if_neg (by omega)⟩
    have hd : decide (r < 0) = true := decide_eq_true h0
    clear h0
    go_enter Try.func20, Try.ntmps20
    go_wp2
    go_ret2
    rw [E.out.1, E.out.2]
    exact rowErr_nil _ _ _ (Below.refl _ _)
  · have hd : decide (r < 0) = false := decide_eq_false h0
    by_cases h8 : 8 < r
    · have E : Hid (binErr r = 91 ∧ binRow r = []) := ⟨if_neg (by omega), if_neg (by omega)⟩
      have hd8 : decide (8 < r) = true := decide_eq_true h8
      clear h0 h8
      go_enter Try.func20, Try.ntmps20
      go_wp2
      go_ret2
      rw [E.out.1, E.out.2]
      exact rowErr_nil _ _ _ (Below.refl _ _)
    · have hd8 : decide (8 < r) = false := decide_eq_false h8
      have E0 : binErr r = 0 ∧ binRow r = rowB (2 * r.toNat) := ⟨if_pos (by omega), if_pos (by omega)⟩
      obtain ⟨m, rfl⟩ := Int.eq_ofNat_of_zero_le (by omega : 0 ≤ r)
      rw [Int.toNat_natCast, ← refB_row m (by omega)] at E0
      have E := Lib.hid E0
      obtain ⟨n, en⟩ : ∃ n, n = 2 * m := ⟨_, rfl⟩
      rw [← en] at E
      have W2 : IntKind.i64.wrap (2 * (m : Int)) = 2 * (m : Int) := IntWalk.i64_in _ (by omega)
      have W3 : IntKind.i64.wrap (2 * (m : Int) + 1) = ((n + 1 : Nat) : Int) := by rw [IntWalk.i64_in _ (by omega)]; omega
      have hn : n ≤ 16 := by omega
      clear h0 h8 E0 en
      go_enter Try.func20, Try.ntmps20
      go_wp2
      clear hd hd8
      have HL0 := own_lit w w.heap.size 3 .i64 [1] (Nat.le_refl _) (by decide)
      have HB0 : Below w.heap.size w (w.alloc (.cells #[.int .i64 1] 3)) := (Below.refl _ _).alloc (Nat.le_refl _) _
      go_loopg [4, 5, 6] n (fun k v4 v5 v6 wr => ∃ (i g4 c4 : Nat), v4 = .slice (some ⟨g4, 0, none⟩) (i + 1) c4 ∧ i ≤ n ∧ n ≤ i + k ∧ Aside (wr.ownsRow w.heap.size 3 1 (.slice (some ⟨g4, 0, none⟩) (i + 1) c4) (i + 1) (nums .i64 (refB i))) ∧ Aside (Below w.heap.size w wr))
      case atStart => exact ⟨0, w.heap.size, 1, rfl, by omega, by omega, HL0, HB0⟩
      case round =>
        clear HL0 HB0
        obtain ⟨i, g4, c4, rfl, hi, hk, HO, HB⟩ := hrel
        by_cases hlt : i < n
        · have hltz : ((i + 1 : Nat) : Int) < ((n + 1 : Nat) : Int) := by omega
          obtain ⟨wo, rfl⟩ : ∃ wo : World, wo = wr := ⟨_, rfl⟩
          obtain ⟨L, eL⟩ : ∃ L, L = refB i := ⟨_, rfl⟩
          rw [← eL] at HO
          have EL := Lib.hid eL
          clear eL
          have HL1 : Hid ((wo.alloc (.cells #[.int .i64 1] 3)).ownsRow wo.heap.size 3 1 (.slice (some ⟨wo.heap.size, 0, none⟩) 1 1) 1 (nums .i64 [1])) := own_lit wo wo.heap.size 3 .i64 [1] (Nat.le_refl _) (by decide)
          have HB1 : Hid (Below wo.heap.size wo (wo.alloc (.cells #[.int .i64 1] 3))) := (Below.refl _ _).alloc (Nat.le_refl _) _
          have hg4 : g4 < wo.heap.size := own_lt HO.out g4 rfl
          have HC : Hid (∀ W, Below wo.heap.size wo W → ∀ q : Nat, q < i + 1 → W.cell? ⟨g4, q, none⟩ = some (.int .i64 (rd L q))) := fun W hW q hq => by
            have h := (own_at (pw_own_below HO.out hW) (q : Int) (by omega) (by omega)).1
            rwa [Int.toNat_natCast] at h
          go_wp2
          go_loopg [5, 6] i (fun k v5 v6 wr => ∃ (j c5 : Nat) (A5 : Option Addr), v6 = .int .i64 ((j + 1 : Nat) : Int) ∧ v5 = .slice A5 (j + 1) c5 ∧ j ≤ i ∧ i ≤ j + k ∧ Aside (wr.ownsRow wo.heap.size 3 1 (.slice A5 (j + 1) c5) (j + 1) (nums .i64 (nextTo L j))) ∧ Aside (Below wo.heap.size wo wr))
          case atStart => exact ⟨0, 1, _, by first | rfl | (simp; done), rfl, by omega, by omega, HL1.out, HB1.out⟩
          case round =>
            clear HL1 HB1
            obtain ⟨j, c5, A5, rfl, rfl, hj, hjk, HO5, HB5⟩ := hrel
            by_cases hlt2 : j < i
            · have hltz2 : ((j + 1 : Nat) : Int) < ((i + 1 : Nat) : Int) := by omega
              have hltz3 : (j : Int) < ((i + 1 : Nat) : Int) := by omega
              have WJ : IntKind.i64.wrap (((j + 1 : Nat) : Int) - 1) = (j : Int) := by rw [IntWalk.i64_in _ (by omega)]; omega
              have WJ2 : IntKind.i64.wrap ((j : Int) + 1 - 1) = (j : Int) := by rw [IntWalk.i64_in _ (by omega)]; omega
              have WJ10 : IntKind.i64.wrap (j : Int) = (j : Int) := IntWalk.i64_in _ (by omega)
              have WJ11 : (j : Int) < ((i + 1 : Nat) : Int) := by omega
              have WJ3 : (0 : Int) ≤ (j : Int) := by omega
              have WJ4 : (0 : Int) ≤ (j : Int) + 1 := by omega
              have WJ5 : (j : Int) + 1 < (i : Int) + 1 := by omega
              have WJ6 : (j : Int) < (i : Int) + 1 := by omega
              have WJ7 : ((j : Int) + 1).toNat = j + 1 := by omega
              have WJ8 : (0 : Int) ≤ ((j + 1 : Nat) : Int) := by omega
              have WJ9 : ((j + 1 : Nat) : Int).toNat = j + 1 := by omega
              obtain ⟨a, ea⟩ : ∃ a, a = rd L j := ⟨_, rfl⟩
              obtain ⟨b, eb⟩ : ∃ b, b = rd L ((j + 1 : Nat) : Int) := ⟨_, rfl⟩
              have hgr : ∀ W, Below wo.heap.size wo W → W.cell? ⟨g4, j, none⟩ = some (.int .i64 a) ∧ W.cell? ⟨g4, j + 1, none⟩ = some (.int .i64 b) := fun W hW => ⟨by rw [ea]; exact HC.out W hW j (by omega), by rw [eb]; exact HC.out W hW (j + 1) (by omega)⟩
              have c1 := (hgr _ HB5.out).1
              have c2 := (hgr _ HB5.out).2
              have HGR := Lib.hid hgr
              have EA := Lib.hid ea
              have EB := Lib.hid eb
              have hln := nextTo_len L j
              have HLN := Lib.hid hln
              clear ea eb hgr hln
              go_upto_region 9 with (fail)
              go_region_held3 (fun w' => w'.cell? ⟨g4, j, none⟩ = some (.int .i64 a) ∧ w'.cell? ⟨g4, j + 1, none⟩ = some (.int .i64 b)) (first | go_keep | exact HGR.out _ hbel) ((rw [show (wr.alloc (.cells #[.int .i64 (IntKind.i64.wrap (a + b))] 3)).drew = wr.drew.alloc (.cells #[.int .i64 (IntKind.i64.wrap (a + b))] 3) from rfl]; refine step_append_cells (P := Try.prog) (w0 := wo) (W := wr.drew) wo.heap.size (by rfl) (.tmp 27) (.tmp 38) 33 3 (.int .i64 0) 1 8 (by rfl) Try.underlying33 info_int rfl (by decide) (by decide) (.slice A5 (j + 1) c5) (j + 1) (nums .i64 (nextTo L j)) [.int .i64 (IntKind.i64.wrap (a + b))] (by rfl) (by rfl) rfl (by simp [Value.oneCell']) (own_drew HO5.out) HB5.out.drew HB5.out.size (by omega) ?_; intro v1 w2 hown hbel hg hat; obtain ⟨A1, q1, rfl⟩ := own_slice hown; have HO7 := Aside0.mk hown; have HB7 := Aside0.mk hbel; clear hown hg hat))
              clear hbel
              go_wp2
              go_roundg (i - (j + 1))
              case measure => omega
              case rel =>
                refine ⟨j + 1, q1, A1, by go_num, rfl, by omega, by omega, ?_, HB7.out⟩
                have e : nums .i64 (nextTo L (j + 1)) = nums .i64 (nextTo L j) ++ [.int .i64 (IntKind.i64.wrap (a + b))] := by rw [nextTo, ← EA.out, ← EB.out, wrap64_eq]; simp [nums]
                rw [e]; exact HO7.out
            · have hltz2 : ¬ ((j + 1 : Nat) : Int) < ((i + 1 : Nat) : Int) := by omega
              have e : j = i := by omega
              subst e
              have hln := nextTo_len L j
              have HO6 : Aside (wr.ownsRow wo.heap.size 3 1 (.slice A5 (j + 1) c5) (nextTo L j).length (nums .i64 (nextTo L j))) := by rw [hln]; exact HO5
              have hl' : ((nextTo L j).length + 1) * 8 ≤ 140737488355328 := by rw [hln]; omega
              have HLE : Hid ((nextTo L j ++ [1]).length = j + 2) := (show _ = _ by simp [hln])
              clear hln
              go_wp2_with (at_builtin; refine print_append_num (P := Try.prog) (w0 := wo) (W := wr) wo.heap.size rfl (.tmp 40) (.tmp 41) 33 3 .i64 8 rfl Try.underlying33 info_int (by decide) (.slice A5 (j + 1) c5) (nextTo L j) 1 rfl rfl HO6.out HB5.out HB5.out.size hl' ?_; intro v1 w3 hown hbel hg hat; rw [HLE.out] at hown; obtain ⟨g6, c6, rfl, hgb, _⟩ := hown.form (by omega); have HO3 := Aside0.mk hown; have HB3 := Aside0.mk hbel; clear hown hbel hg hat hgb)
              go_roundg (n - (j + 1))
              case measure => omega
              case rel =>
                refine ⟨j + 1, g6, c6, rfl, by omega, by omega, ?_, ?_⟩
                · rw [refB, ← EL.out]; exact own_weaken HO3.out HB.out.size
                · exact HB.out.trans ⟨HB3.out.os, HB3.out.tape, HB3.out.output, HB3.out.size, fun q hq => HB3.out.block q (Nat.lt_of_lt_of_le hq HB.out.size)⟩
        · have hltz : ¬ ((i + 1 : Nat) : Int) < ((n + 1 : Nat) : Int) := by omega
          have e : i = n := by omega
          subst e
          go_wp2
          go_ret2
          rw [E.out.1, E.out.2]
          have hl := refB_len i
          refine ⟨some ⟨g4, 0, none⟩, c4, by rw [hl]; rfl, ?_, HB.out⟩
          rw [hl]; exact HO.out
end Go.Proofs.Ytbogemlkdncafaa
