/- Contracts of the small functions of package kernel: floor, side, the kernels' weights, a place's distance. -/
import Derived.Test.YtdcpeeolfgohmaaRows
import Derived.Test.YtdcpeeolfgohmaaWrap
import Derived.WalkLawsBesides
import Derived.Lib.Hide
import Derived.Deep.QuietTactic
import Derived.BigQuiet
namespace Go.Proofs.Ytdcpeeolfgohmaa
open Go.RowKit
set_option linter.unusedSimpArgs false
set_option linter.unusedVariables false

theorem floor_eq (a n : Int) (hn : 0 < n) : (if a.tmod n < 0 then a.tdiv n - 1 else a.tdiv n) = a / n := by
  rcases Int.lt_or_le a 0 with h | h
  · have ht : a.tdiv n = -((-a) / n) := by
      have h1 : a.tdiv n = -((-a).tdiv n) := by rw [Int.neg_tdiv, Int.neg_neg]
      rw [h1, Int.tdiv_eq_ediv_of_nonneg (by omega)]
    have hm : a.tmod n = -((-a) % n) := by
      have h1 : a.tmod n = -((-a).tmod n) := by rw [Int.neg_tmod, Int.neg_neg]
      rw [h1, Int.tmod_eq_emod_of_nonneg (by omega)]
    have hd := Int.mul_ediv_add_emod (-a) n
    have hr0 := Int.emod_nonneg (-a) (by omega : n ≠ 0)
    have hr1 := Int.emod_lt_of_pos (-a) hn
    have hd2 := Int.mul_ediv_add_emod a n
    have hr20 := Int.emod_nonneg a (by omega : n ≠ 0)
    have hr21 := Int.emod_lt_of_pos a hn
    rw [ht, hm]
    generalize hq : (-a) / n = q at *
    generalize hr : (-a) % n = r at *
    generalize hq2 : a / n = q2 at *
    generalize hr2 : a % n = r2 at *
    have key : n * (q + q2) = -(r + r2) := by rw [Int.mul_add]; omega
    by_cases h0 : r = 0
    · rw [if_neg (by omega)]
      have : r2 = 0 := by
        by_cases h2 : r2 = 0
        · exact h2
        · exfalso
          have h1 : n * (q + q2) < 0 := by omega
          have h3 : q + q2 < 0 := by
            rcases Int.lt_or_le (q + q2) 0 with h' | h'
            · exact h'
            · have := Int.mul_nonneg (by omega : 0 ≤ n) h'; omega
          have h4 : n * (q + q2) ≤ n * (-1) := Int.mul_le_mul_of_nonneg_left (by omega) (by omega)
          omega
      have h1 : n * (q + q2) = 0 := by omega
      rcases Int.mul_eq_zero.1 h1 with h' | h' <;> omega
    · rw [if_pos (by omega)]
      have h3 : q + q2 < 0 := by
        rcases Int.lt_or_le (q + q2) 0 with h' | h'
        · exact h'
        · have := Int.mul_nonneg (by omega : 0 ≤ n) h'; omega
      have h4 : -1 ≤ q + q2 := by
        rcases Int.lt_or_le (q + q2) (-1) with h' | h'
        · have := Int.mul_le_mul_of_nonneg_left (by omega : q + q2 ≤ -2) (by omega : 0 ≤ n); omega
        · exact h'
      omega
  · rw [Int.tmod_eq_emod_of_nonneg h, Int.tdiv_eq_ediv_of_nonneg h, if_neg]
    have := Int.emod_nonneg a (by omega : n ≠ 0)
    omega

theorem tdiv_bd (a n : Int) (hn : 0 < n) (h1 : -4611686018427387904 ≤ a) (h2 : a ≤ 4611686018427387904) : -4611686018427387904 ≤ a.tdiv n ∧ a.tdiv n ≤ 4611686018427387904 := by
  rcases Int.lt_or_le a 0 with h | h
  · have e : a.tdiv n = -((-a).tdiv n) := by rw [Int.neg_tdiv, Int.neg_neg]
    have := Int.tdiv_le_self n (by omega : 0 ≤ -a)
    have := Int.tdiv_nonneg (by omega : 0 ≤ -a) (by omega : 0 ≤ n)
    omega
  · have := Int.tdiv_le_self n h
    have := Int.tdiv_nonneg h (by omega : 0 ≤ n)
    omega

set_option maxHeartbeats 400000 in
theorem kfloor_calls (a n : Int) (w : World) (hn : 0 < n) (h1 : -4611686018427387904 ≤ a) (h2 : a ≤ 4611686018427387904) :
    Calls Try.prog 92 #[.int .i64 a, .int .i64 n] w fun e w' => e = .returned (.int .i64 (a / n)) ∧ w = w' := by
  have hb := tdiv_bd a n hn h1 h2
  have E := Lib.hid (floor_eq a n hn)
  have hn0 : (n == 0) = false := beq_eq_false_iff_ne.2 (by omega)
  by_cases h : a.tmod n < 0
  · have hd : decide (a.tmod n < 0) = true := decide_eq_true h
    go_enter Try.func92, Try.ntmps92
    go_wp2
    go_ret
    exact ⟨ret_eq (by rw [← E.out, if_pos (by omega)]), rfl⟩
  · have hd : decide (a.tmod n < 0) = false := decide_eq_false h
    go_enter Try.func92, Try.ntmps92
    go_wp2
    go_ret
    exact ⟨ret_eq (by rw [← E.out, if_neg (by omega)]), rfl⟩

set_option maxHeartbeats 400000 in
theorem rfloor_calls (a n : Int) (w : World) (hn : 0 < n) (h1 : -4611686018427387904 ≤ a) (h2 : a ≤ 4611686018427387904) :
    Calls Try.prog 53 #[.int .i64 a, .int .i64 n] w fun e w' => e = .returned (.int .i64 (a / n)) ∧ w = w' := by
  have hb := tdiv_bd a n hn h1 h2
  have E := Lib.hid (floor_eq a n hn)
  have hn0 : (n == 0) = false := beq_eq_false_iff_ne.2 (by omega)
  by_cases h : a.tmod n < 0
  · have hd : decide (a.tmod n < 0) = true := decide_eq_true h
    go_enter Try.func53, Try.ntmps53
    go_wp2
    go_ret
    exact ⟨ret_eq (by rw [← E.out, if_pos (by omega)]), rfl⟩
  · have hd : decide (a.tmod n < 0) = false := decide_eq_false h
    go_enter Try.func53, Try.ntmps53
    go_wp2
    go_ret
    exact ⟨ret_eq (by rw [← E.out, if_neg (by omega)]), rfl⟩

/-- May a side be? -/
def sideB (n : Int) : Bool := decide (1 ≤ n) && decide (n ≤ 1024)

set_option maxHeartbeats 400000 in
theorem side_calls (n : Int) (w : World) : Calls Try.prog 90 #[.int .i64 n] w fun e w' => e = .returned (.bool (sideB n)) ∧ w = w' := by
  by_cases h : 1 ≤ n
  · have hd : decide (1 ≤ n) = true := decide_eq_true h
    go_enter Try.func90, Try.ntmps90
    go_wp2
    go_ret
    exact ⟨by simp [sideB] <;> omega, rfl⟩
  · have hd : decide (1 ≤ n) = false := decide_eq_false h
    go_enter Try.func90, Try.ntmps90
    go_wp2
    go_ret
    exact ⟨by simp [sideB] <;> omega, rfl⟩

set_option maxHeartbeats 400000 in
theorem size_calls (n : Int) (w : World) : Calls Try.prog 52 #[.int .i64 n] w fun e w' => e = .returned (.bool (sideB n)) ∧ w = w' := by
  by_cases h : 1 ≤ n
  · have hd : decide (1 ≤ n) = true := decide_eq_true h
    go_enter Try.func52, Try.ntmps52
    go_wp2
    go_ret
    exact ⟨by simp [sideB] <;> omega, rfl⟩
  · have hd : decide (1 ≤ n) = false := decide_eq_false h
    go_enter Try.func52, Try.ntmps52
    go_wp2
    go_ret
    exact ⟨by simp [sideB] <;> omega, rfl⟩

/-! ### The kernels' weights -/
def wBox (b : Int) : Int := 2 * b * b * b
def wTent (a b : Int) : Int := 2 * (b - a) * b * b
def wCubicIn (a b : Int) : Int := 3 * a * a * a - 5 * a * a * b + 2 * b * b * b
def wCubicOut (a b : Int) : Int := -a * a * a + 5 * a * a * b - 8 * a * b * b + 4 * b * b * b
def wCubic (a b : Int) : Int := if a < b then wCubicIn a b else wCubicOut a b

theorem cube_bd {a b c A B C : Int} (ha1 : -A ≤ a) (ha2 : a ≤ A) (hb1 : -B ≤ b) (hb2 : b ≤ B) (hc1 : -C ≤ c) (hc2 : c ≤ C) : -(A * B * C) ≤ a * b * c ∧ a * b * c ≤ A * B * C := by
  have h := mul_bd ha1 ha2 hb1 hb2
  exact mul_bd h.1 h.2 hc1 hc2

set_option maxHeartbeats 400000 in
theorem of1_calls (a b : Int) (w : World) (hb0 : 0 ≤ b) (hb : b ≤ 4096) :
    Calls Try.prog 120 #[.int .i64 a, .int .i64 b] w fun e w' => e = .returned (.int .i64 (wBox b)) ∧ w = w' := by
  have hc := cube_bd (a := b) (b := b) (c := b) (A := 4096) (B := 4096) (C := 4096) (by omega) hb (by omega) hb (by omega) hb
  have e : wBox b = 2 * (b * b * b) := by unfold wBox; rw [Int.mul_assoc 2, Int.mul_assoc 2]
  have E := Lib.hid e
  clear e
  go_enter Try.func120, Try.ntmps120
  go_wp2
  go_ret
  refine ⟨ret_eq (wrap64_to (by rw [wBox]; simp only [wrap64_mul_l, wrap64_mul_r, wrap64_wrap]) ?_ ?_), rfl⟩ <;> (rw [E.out]; omega)

set_option maxHeartbeats 400000 in
theorem of2_calls (a b : Int) (w : World) (ha0 : 0 ≤ a) (ha : a ≤ 8192) (hb0 : 0 ≤ b) (hb : b ≤ 4096) :
    Calls Try.prog 121 #[.int .i64 a, .int .i64 b] w fun e w' => e = .returned (.int .i64 (wTent a b)) ∧ w = w' := by
  have hc := cube_bd (a := b - a) (b := b) (c := b) (A := 8192) (B := 4096) (C := 4096) (by omega) (by omega) (by omega) hb (by omega) hb
  have e : wTent a b = 2 * ((b - a) * b * b) := by unfold wTent; rw [Int.mul_assoc 2, Int.mul_assoc 2]
  have E := Lib.hid e
  clear e
  go_enter Try.func121, Try.ntmps121
  go_wp2
  go_ret
  refine ⟨ret_eq (wrap64_to (by rw [wTent]; simp only [wrap64_mul_l, wrap64_mul_r, wrap64_sub_l, wrap64_sub_r, wrap64_wrap]) ?_ ?_), rfl⟩ <;> (rw [E.out]; omega)

theorem wCubicIn_bd (a b : Int) (ha0 : 0 ≤ a) (ha : a ≤ 8192) (hb0 : 0 ≤ b) (hb : b ≤ 4096) : -10000000000000 ≤ wCubicIn a b ∧ wCubicIn a b ≤ 10000000000000 := by
  have h1 := cube_bd (a := a) (b := a) (c := a) (A := 8192) (B := 8192) (C := 8192) (by omega) ha (by omega) ha (by omega) ha
  have h2 := cube_bd (a := a) (b := a) (c := b) (A := 8192) (B := 8192) (C := 4096) (by omega) ha (by omega) ha (by omega) hb
  have h3 := cube_bd (a := b) (b := b) (c := b) (A := 4096) (B := 4096) (C := 4096) (by omega) hb (by omega) hb (by omega) hb
  have e : wCubicIn a b = 3 * (a * a * a) - 5 * (a * a * b) + 2 * (b * b * b) := by unfold wCubicIn; simp only [Int.mul_assoc]
  omega

theorem wCubicOut_bd (a b : Int) (ha0 : 0 ≤ a) (ha : a ≤ 8192) (hb0 : 0 ≤ b) (hb : b ≤ 4096) : -10000000000000 ≤ wCubicOut a b ∧ wCubicOut a b ≤ 10000000000000 := by
  have h1 := cube_bd (a := a) (b := a) (c := a) (A := 8192) (B := 8192) (C := 8192) (by omega) ha (by omega) ha (by omega) ha
  have h2 := cube_bd (a := a) (b := a) (c := b) (A := 8192) (B := 8192) (C := 4096) (by omega) ha (by omega) ha (by omega) hb
  have h3 := cube_bd (a := a) (b := b) (c := b) (A := 8192) (B := 4096) (C := 4096) (by omega) ha (by omega) hb (by omega) hb
  have h4 := cube_bd (a := b) (b := b) (c := b) (A := 4096) (B := 4096) (C := 4096) (by omega) hb (by omega) hb (by omega) hb
  have e : wCubicOut a b = -(a * a * a) + 5 * (a * a * b) - 8 * (a * b * b) + 4 * (b * b * b) := by unfold wCubicOut; simp only [Int.mul_assoc, Int.neg_mul]
  omega

set_option maxHeartbeats 800000 in
theorem of3_calls (a b : Int) (w : World) (ha0 : 0 ≤ a) (ha : a ≤ 8192) (hb0 : 0 ≤ b) (hb : b ≤ 4096) :
    Calls Try.prog 122 #[.int .i64 a, .int .i64 b] w fun e w' => e = .returned (.int .i64 (wCubic a b)) ∧ w = w' := by
  have hI := wCubicIn_bd a b ha0 ha hb0 hb
  have hO := wCubicOut_bd a b ha0 ha hb0 hb
  by_cases h : a < b
  · have hd : decide (a < b) = true := decide_eq_true h
    have E : Hid (wCubic a b = wCubicIn a b) := Lib.hid (if_pos h)
    go_enter Try.func122, Try.ntmps122
    go_wp2
    go_ret
    refine ⟨?_, rfl⟩
    rw [E.out]
    refine ret_eq (wrap64_to ?_ (by omega) (by omega))
    rw [wCubicIn]
    simp only [wrap64_mul_l, wrap64_mul_r, wrap64_sub_l, wrap64_sub_r, wrap64_add_l, wrap64_add_r, wrap64_wrap]
  · have hd : decide (a < b) = false := decide_eq_false h
    have E : Hid (wCubic a b = wCubicOut a b) := Lib.hid (if_neg h)
    go_enter Try.func122, Try.ntmps122
    go_wp2
    go_ret
    refine ⟨?_, rfl⟩
    rw [E.out]
    refine ret_eq (wrap64_to ?_ (by omega) (by omega))
    rw [wCubicOut]
    simp only [wrap64_mul_l, wrap64_mul_r, wrap64_sub_l, wrap64_sub_r, wrap64_add_l, wrap64_add_r, wrap64_neg, wrap64_wrap]

/-- A place's distance, times b. -/
def atOf (from' to i j : Int) : Int := 2 * to * j - (2 * i + 1) * from' + to

set_option maxHeartbeats 800000 in
theorem at_calls (from' to i j : Int) (pf pt pi : Addr) (w : World) (hf : w.cell? pf = some (.int .i64 from')) (ht : w.cell? pt = some (.int .i64 to)) (hi : w.cell? pi = some (.int .i64 i))
    (hf0 : 1 ≤ from') (hf1 : from' ≤ 1024) (ht0 : 1 ≤ to) (ht1 : to ≤ 1024) (hi0 : 0 ≤ i) (hi1 : i ≤ 1024) (hj0 : -1000000000 ≤ j) (hj1 : j ≤ 1000000000) :
    Calls Try.prog 91 #[.int .i64 j, .pointer (some pt), .pointer (some pi), .pointer (some pf)] w fun e w' => e = .returned (.int .i64 (atOf from' to i j)) ∧ w = w' := by
  have h1 := mul_bd (a := to) (b := j) (A := 1024) (B := 1000000000) (by omega) (by omega) hj0 hj1
  have h2 := mul_bd (a := 2 * i + 1) (b := from') (A := 4096) (B := 1024) (by omega) (by omega) (by omega) (by omega)
  have e : atOf from' to i j = 2 * (to * j) - (2 * i + 1) * from' + to := by unfold atOf; simp only [Int.mul_assoc]
  have E := Lib.hid e
  clear e
  go_enter Try.func91, Try.ntmps91
  go_wp2
  go_ret
  refine ⟨ret_eq (wrap64_to ?_ (by rw [E.out]; omega) (by rw [E.out]; omega)), rfl⟩
  rw [atOf]
  simp only [wrap64_mul_l, wrap64_mul_r, wrap64_sub_l, wrap64_sub_r, wrap64_add_l, wrap64_add_r, wrap64_wrap]
end Go.Proofs.Ytdcpeeolfgohmaa
