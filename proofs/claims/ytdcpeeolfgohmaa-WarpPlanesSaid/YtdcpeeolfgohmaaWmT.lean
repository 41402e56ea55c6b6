/- plane.rest, Border, warp.under, from, at, size, right: the walks. -/
import Derived.Test.YtdcpeeolfgohmaaWmAC
namespace Go.Proofs.Ytdcpeeolfgohmaa
open Go.RowKit Go.Proofs.YtdcpeeolfgohmaaW.PrintWords
set_option linter.unusedSimpArgs false
set_option linter.unusedVariables false

theorem tmod_rest (i n : Int) (hn : 0 < n) : (i.tmod n + n).tmod n = i % n := by
  have h1 : 0 ≤ i.tmod n + n := by
    have := Int.lt_tmod_of_pos i hn
    omega
  rw [Int.tmod_eq_emod_of_nonneg h1, Int.add_emod_right]
  have h2 : i = n * i.tdiv n + i.tmod n := (Int.mul_tdiv_add_tmod i n).symm
  conv => rhs; rw [h2, Int.add_comm, Int.add_mul_emod_self_left]
theorem tmod_bd (i n : Int) (hn : 0 < n) : -n < i.tmod n ∧ i.tmod n < n := ⟨Int.lt_tmod_of_pos i hn, Int.tmod_lt_of_pos i hn⟩

set_option maxHeartbeats 1600000 in
set_option maxRecDepth 100000 in
theorem rest_calls (w : World) (i n : Int) (hn : 0 < n) (hn2 : n ≤ 1000000000) :
    Calls Try.prog 126 #[.int .i64 i, .int .i64 n] w fun e w' => e = .returned (.int .i64 (i % n)) ∧ w = w' := by
  have h0 : (n == 0) = false := by rw [beq_eq_false_iff_ne]; omega
  have hn0 : n ≠ 0 := by omega
  obtain ⟨b1, b2⟩ := tmod_bd i n hn
  have TM2 := tmod_rest i n hn
  have c1 := Int.emod_nonneg i hn0
  have c2 := Int.emod_lt_of_pos i hn
  obtain ⟨r, er⟩ : ∃ r, r = i % n := ⟨_, rfl⟩
  obtain ⟨t, et⟩ : ∃ t, t = i.tmod n := ⟨_, rfl⟩
  rw [← er] at TM2 c1 c2 ⊢
  rw [← et] at TM2 b1 b2
  have TM : i.tmod n = t := et.symm
  have W1 : IntKind.i64.wrap t = t := IntWalk.i64_in _ (by omega)
  have W2 : IntKind.i64.wrap (t + n) = t + n := IntWalk.i64_in _ (by omega)
  have W3 : IntKind.i64.wrap r = r := IntWalk.i64_in _ (by omega)
  clear er et
  go_enter Try.func126, Try.ntmps126
  go_wp2
  go_ret
  exact ⟨rfl, rfl⟩

/-- The place that stands for one beyond an edge; the error. -/
def borderV (kind n i : Int) : Int := if kind = 1 then min (max i 0) (n - 1) else if kind = 3 then i % n else if n = 1 then 0 else min (i % (2 * (n - 1))) (2 * (n - 1) - i % (2 * (n - 1)))
def borderE (kind n : Int) : Int := if kind < 1 ∨ 3 < kind then 53 else if n < 1 ∨ 1024 < n then 50 else 0
def borderP (kind n i : Int) : Value := .tuple #[.int .i64 (if borderE kind n = 0 then borderV kind n i else 0), .int .i64 (borderE kind n)]
theorem wret2 {a b x : Int} {v : Value} (h : v = .tuple #[.int .i64 b, .int .i64 x]) (hab : a = b) : Ending.returned (.tuple #[.int .i64 a, .int .i64 x]) = .returned v := by rw [h, hab]
set_option maxHeartbeats 3200000 in
set_option maxRecDepth 100000 in
theorem border_calls (w : World) (kind n i : Int) (hi : -4611686018427387904 ≤ i ∧ i ≤ 4611686018427387904) :
    Calls Try.prog 100 #[.int .i64 kind, .int .i64 n, .int .i64 i] w fun e w' => e = .returned (borderP kind n i) ∧ w = w' := by
  by_cases k1 : kind < 1 ∨ 3 < kind
  · have HE : Hid (borderP kind n i = .tuple #[.int .i64 0, .int .i64 53]) := (show _ = _ from by unfold borderP borderE; simp only [if_pos k1]; rfl)
    rcases k1 with k1 | k1
    · go_enter Try.func100, Try.ntmps100
      go_wp2
      go_ret2
      exact ⟨by rw [HE.out]; rfl, rfl⟩
    · have k2 : ¬ kind < 1 := by omega
      go_enter Try.func100, Try.ntmps100
      go_wp2
      go_ret2
      exact ⟨by rw [HE.out]; rfl, rfl⟩
  · have k2 : ¬ kind < 1 := by omega
    have k3 : ¬ 3 < kind := by omega
    by_cases n1 : n < 1 ∨ 1024 < n
    · have HE : Hid (borderP kind n i = .tuple #[.int .i64 0, .int .i64 50]) := (show _ = _ from by unfold borderP borderE; simp only [if_neg k1, if_pos n1]; rfl)
      clear k1
      rcases n1 with n1 | n1
      · go_enter Try.func100, Try.ntmps100
        go_wp2
        go_ret2
        exact ⟨by rw [HE.out]; rfl, rfl⟩
      · have n2 : ¬ n < 1 := by omega
        go_enter Try.func100, Try.ntmps100
        go_wp2
        go_ret2
        exact ⟨by rw [HE.out]; rfl, rfl⟩
    · have n2 : ¬ n < 1 := by omega
      have n3 : ¬ 1024 < n := by omega
      have HE : Hid (borderP kind n i = .tuple #[.int .i64 (borderV kind n i), .int .i64 0]) := (show _ = _ from by unfold borderP borderE; simp only [if_neg k1, if_neg n1]; rfl)
      have HR := Lib.hid fun W => rest_calls W i n (by omega) (by omega)
      have HR2 := Lib.hid fun (h : n ≠ 1) W => rest_calls W i (2 * (n - 1)) (by omega) (by omega)
      clear k1 n1
      rcases (show kind = 1 ∨ kind = 3 ∨ kind = 2 by omega) with rfl | rfl | rfl
      · have HV : Hid (borderV 1 n i = min (max i 0) (n - 1)) := (show _ = _ from rfl)
        have W1 : IntKind.i64.wrap (n - 1) = n - 1 := IntWalk.i64_in _ (by omega)
        clear k2 k3 HR HR2
        rcases Int.lt_or_le i 0 with h1 | h1
        · go_enter Try.func100, Try.ntmps100
          go_wp2
          all_goals
            go_ret2
            exact ⟨wret2 (by rw [HE.out, HV.out]) (by omega) , rfl⟩
        · rcases Int.lt_or_le (n - 1) i with h2 | h2
          · go_enter Try.func100, Try.ntmps100
            go_wp2
            all_goals
              go_ret2
              exact ⟨wret2 (by rw [HE.out, HV.out]) (by omega), rfl⟩
          · go_enter Try.func100, Try.ntmps100
            go_wp2
            all_goals
              go_ret2
              exact ⟨wret2 (by rw [HE.out, HV.out]) (by omega), rfl⟩
      · have HV : Hid (borderV 3 n i = i % n) := (show _ = _ from rfl)
        clear k2 k3 HR2
        obtain ⟨r, er⟩ : ∃ r, r = i % n := ⟨_, rfl⟩
        rw [← er] at HR HV
        clear er
        go_enter Try.func100, Try.ntmps100
        go_wp2_with (go_at_call 126; refine (HR.out _).mono ?_; rintro e1 w1 ⟨rfl, rfl⟩)
        go_ret2
        exact ⟨wret2 (by rw [HE.out, HV.out]) rfl, rfl⟩
      · by_cases h1 : n = 1
        · have HV : Hid (borderV 2 n i = 0) := (show _ = _ from by unfold borderV; rw [if_neg (by decide), if_neg (by decide), if_pos h1])
          have hz : (n == 1) = true := by rw [h1]; rfl
          clear k2 k3 HR HR2 h1
          go_enter Try.func100, Try.ntmps100
          go_wp2
          go_ret2
          exact ⟨wret2 (by rw [HE.out, HV.out]) rfl, rfl⟩
        · have HV : Hid (borderV 2 n i = min (i % (2 * (n - 1))) (2 * (n - 1) - i % (2 * (n - 1)))) := (show _ = _ from by unfold borderV; rw [if_neg (by decide), if_neg (by decide), if_neg h1])
          have hz : (n == 1) = false := by rw [beq_eq_false_iff_ne]; exact h1
          have HR3 := Lib.hid (HR2.out h1)
          have c1 := Int.emod_nonneg i (show (2 * (n - 1)) ≠ 0 by omega)
          have c2 := Int.emod_lt_of_pos i (show 0 < 2 * (n - 1) by omega)
          obtain ⟨m, em⟩ : ∃ r, r = i % (2 * (n - 1)) := ⟨_, rfl⟩
          rw [← em] at HR3 HV c1 c2
          have W1 : IntKind.i64.wrap (n - 1) = n - 1 := IntWalk.i64_in _ (by omega)
          have W2 : IntKind.i64.wrap (2 * (n - 1)) = 2 * (n - 1) := IntWalk.i64_in _ (by omega)
          have W3 : IntKind.i64.wrap (2 * (n - 1) - m) = 2 * (n - 1) - m := IntWalk.i64_in _ (by omega)
          clear em HR HR2 h1 k2 k3
          rcases Int.lt_or_le (2 * (n - 1) - m) m with h2 | h2
          · go_enter Try.func100, Try.ntmps100
            go_wp2_with (go_at_call 126; refine (HR3.out _).mono ?_; rintro e1 w1 ⟨rfl, rfl⟩)
            all_goals
              go_ret2
              exact ⟨wret2 (by rw [HE.out, HV.out]) (by omega), rfl⟩
          · go_enter Try.func100, Try.ntmps100
            go_wp2_with (go_at_call 126; refine (HR3.out _).mono ?_; rintro e1 w1 ⟨rfl, rfl⟩)
            all_goals
              go_ret2
              exact ⟨wret2 (by rw [HE.out, HV.out]) (by omega), rfl⟩

theorem under_div (n q : Int) (hq : 0 < q) : (n - n % q).tdiv q = n / q := by
  have h := Int.mul_ediv_add_emod n q
  have h2 : n - n % q = q * (n / q) := by omega
  rw [h2]
  exact Int.mul_tdiv_cancel_left _ (by omega)
set_option maxHeartbeats 1600000 in
set_option maxRecDepth 100000 in
theorem under_calls (w : World) (n q : Int) (hn : -1152921504606846976 ≤ n ∧ n ≤ 1152921504606846976) (hq : 0 < q) (hq2 : q ≤ 1000000000) :
    Calls Try.prog 104 #[.int .i64 n, .int .i64 q] w fun e w' => e = .returned (.tuple #[.int .i64 (n / q), .int .i64 (n % q)]) ∧ w = w' := by
  have h0 : (q == 0) = false := by rw [beq_eq_false_iff_ne]; omega
  have hn0 : q ≠ 0 := by omega
  obtain ⟨b1, b2⟩ := tmod_bd n q hq
  have TM2 := tmod_rest n q hq
  have TD := under_div n q hq
  have c1 := Int.emod_nonneg n hn0
  have c2 := Int.emod_lt_of_pos n hq
  have d1 : (n / q).natAbs ≤ n.natAbs := Int.natAbs_ediv_le_natAbs n q
  obtain ⟨r, er⟩ : ∃ r, r = n % q := ⟨_, rfl⟩
  obtain ⟨d, ed⟩ : ∃ r, r = n / q := ⟨_, rfl⟩
  obtain ⟨t, et⟩ : ∃ t, t = n.tmod q := ⟨_, rfl⟩
  rw [← er] at TM2 TD c1 c2 ⊢
  rw [← ed] at TD d1 ⊢
  rw [← et] at TM2 b1 b2
  have TM : n.tmod q = t := et.symm
  have W1 : IntKind.i64.wrap t = t := IntWalk.i64_in _ (by omega)
  have W2 : IntKind.i64.wrap (t + q) = t + q := IntWalk.i64_in _ (by omega)
  have W3 : IntKind.i64.wrap r = r := IntWalk.i64_in _ (by omega)
  have W4 : IntKind.i64.wrap (n - r) = n - r := IntWalk.i64_in _ (by omega)
  have W5 : IntKind.i64.wrap d = d := IntWalk.i64_in _ (by omega)
  clear er ed et d1
  go_enter Try.func104, Try.ntmps104
  go_wp2
  go_ret2
  exact ⟨rfl, rfl⟩

def sizeB (a b : Int) : Bool := decide (1 ≤ a ∧ a ≤ 1024 ∧ 1 ≤ b ∧ b ≤ 1024 ∧ a * b ≤ 65536)
set_option maxHeartbeats 1600000 in
set_option maxRecDepth 100000 in
theorem wsize_calls (w : World) (a b : Int) : Calls Try.prog 72 #[.int .i64 a, .int .i64 b] w fun e w' => e = .returned (.bool (sizeB a b)) ∧ w = w' := by
  by_cases h1 : 1 ≤ a
  · by_cases h2 : a ≤ 1024
    · by_cases h3 : 1 ≤ b
      · by_cases h4 : b ≤ 1024
        · obtain ⟨p, ep, M, bp⟩ := mulp a b (by omega) (by omega)
          by_cases h5 : p ≤ 65536
          · have HF : Hid (sizeB a b = true) := (show _ = _ from decide_eq_true ⟨h1, h2, h3, h4, by rw [ep]; exact h5⟩)
            clear ep
            go_enter Try.func72, Try.ntmps72
            go_wp2
            go_ret
            exact ⟨by rw [HF.out]; rfl, rfl⟩
          · have HF : Hid (sizeB a b = false) := (show _ = _ from decide_eq_false (fun h => by rw [ep] at h; omega))
            clear ep
            go_enter Try.func72, Try.ntmps72
            go_wp2
            go_ret
            exact ⟨by rw [HF.out]; rfl, rfl⟩
        · have HF : Hid (sizeB a b = false) := (show _ = _ from decide_eq_false (fun h => by omega))
          go_enter Try.func72, Try.ntmps72
          go_wp2
          go_ret
          exact ⟨by rw [HF.out]; rfl, rfl⟩
      · have HF : Hid (sizeB a b = false) := (show _ = _ from decide_eq_false (fun h => by omega))
        go_enter Try.func72, Try.ntmps72
        go_wp2
        go_ret
        exact ⟨by rw [HF.out]; rfl, rfl⟩
    · have HF : Hid (sizeB a b = false) := (show _ = _ from decide_eq_false (fun h => by omega))
      go_enter Try.func72, Try.ntmps72
      go_wp2
      go_ret
      exact ⟨by rw [HF.out]; rfl, rfl⟩
  · have HF : Hid (sizeB a b = false) := (show _ = _ from decide_eq_false (fun h => by omega))
    go_enter Try.func72, Try.ntmps72
    go_wp2
    go_ret
    exact ⟨by rw [HF.out]; rfl, rfl⟩
set_option maxHeartbeats 1600000 in
set_option maxRecDepth 100000 in
theorem psize_calls (w : World) (a b : Int) : Calls Try.prog 111 #[.int .i64 a, .int .i64 b] w fun e w' => e = .returned (.bool (sizeB a b)) ∧ w = w' := by
  by_cases h1 : 1 ≤ a
  · by_cases h3 : 1 ≤ b
    · by_cases h2 : a ≤ 1024
      · by_cases h4 : b ≤ 1024
        · obtain ⟨p, ep, M, bp⟩ := mulp a b (by omega) (by omega)
          by_cases h5 : p ≤ 65536
          · have HF : Hid (sizeB a b = true) := (show _ = _ from decide_eq_true ⟨h1, h2, h3, h4, by rw [ep]; exact h5⟩)
            clear ep
            go_enter Try.func111, Try.ntmps111
            go_wp2
            go_ret
            exact ⟨by rw [HF.out]; rfl, rfl⟩
          · have HF : Hid (sizeB a b = false) := (show _ = _ from decide_eq_false (fun h => by rw [ep] at h; omega))
            clear ep
            go_enter Try.func111, Try.ntmps111
            go_wp2
            go_ret
            exact ⟨by rw [HF.out]; rfl, rfl⟩
        · have HF : Hid (sizeB a b = false) := (show _ = _ from decide_eq_false (fun h => by omega))
          go_enter Try.func111, Try.ntmps111
          go_wp2
          go_ret
          exact ⟨by rw [HF.out]; rfl, rfl⟩
      · have HF : Hid (sizeB a b = false) := (show _ = _ from decide_eq_false (fun h => by omega))
        go_enter Try.func111, Try.ntmps111
        go_wp2
        go_ret
        exact ⟨by rw [HF.out]; rfl, rfl⟩
    · have HF : Hid (sizeB a b = false) := (show _ = _ from decide_eq_false (fun h => by omega))
      go_enter Try.func111, Try.ntmps111
      go_wp2
      go_ret
      exact ⟨by rw [HF.out]; rfl, rfl⟩
  · have HF : Hid (sizeB a b = false) := (show _ = _ from decide_eq_false (fun h => by omega))
    go_enter Try.func111, Try.ntmps111
    go_wp2
    go_ret
    exact ⟨by rw [HF.out]; rfl, rfl⟩

def wayC (kind border : Int) (t : Wp) (pw' ph : Int) : Array Value := #[.int .i64 kind, .int .i64 border, .int .i64 t.A, .int .i64 t.B, .int .i64 t.C, .int .i64 t.D, .int .i64 t.E, .int .i64 t.F, .int .i64 t.Q, .int .i64 pw', .int .i64 ph]
def wayV (kind border : Int) (t : Wp) (pw' ph : Int) : Value := .agg (wayC kind border t pw' ph)
/-- Where a place comes from, times Q. -/
def fromU (t : Wp) (x y : Int) : Int := t.A * x + t.B * y + t.C
def fromV (t : Wp) (x y : Int) : Int := t.D * x + t.E * y + t.F
set_option maxHeartbeats 3200000 in
set_option maxRecDepth 100000 in
theorem from_calls (w : World) (kind border : Int) (t : Wp) (pw' ph x y : Int) (ht : WpIn t 16777216) (hx : 0 ≤ x ∧ x ≤ 1024) (hy : 0 ≤ y ∧ y ≤ 1024) :
    Calls Try.prog 103 #[wayV kind border t pw' ph, .int .i64 x, .int .i64 y] w fun e w' => e = .returned (.tuple #[.int .i64 (fromU t x y), .int .i64 (fromV t x y)]) ∧ Below w.heap.size w w' := by
  obtain ⟨hA, hB, hC, hD, hE, hF, hQ⟩ := ht
  obtain ⟨p1, e1, M1, b1⟩ := mulp t.A x (by omega) (by omega)
  obtain ⟨p2, e2, M2, b2⟩ := mulp t.B y (by omega) (by omega)
  obtain ⟨p3, e3, M3, b3⟩ := mulp t.D x (by omega) (by omega)
  obtain ⟨p4, e4, M4, b4⟩ := mulp t.E y (by omega) (by omega)
  have HU : Hid (fromU t x y = p1 + p2 + t.C ∧ fromV t x y = p3 + p4 + t.F) := (show _ ∧ _ from by unfold fromU fromV; rw [e1, e2, e3, e4]; exact ⟨rfl, rfl⟩)
  have W1 : IntKind.i64.wrap (p1 + p2) = p1 + p2 := IntWalk.i64_in _ (by omega)
  have W2 : IntKind.i64.wrap (p1 + p2 + t.C) = p1 + p2 + t.C := IntWalk.i64_in _ (by omega)
  have W3 : IntKind.i64.wrap (p3 + p4) = p3 + p4 := IntWalk.i64_in _ (by omega)
  have W4 : IntKind.i64.wrap (p3 + p4 + t.F) = p3 + p4 + t.F := IntWalk.i64_in _ (by omega)
  clear e1 e2 e3 e4
  unfold wayV wayC
  go_enter Try.func103, Try.ntmps103
  go_wp2
  go_quiet (fail)
  go_wp2
  go_ret2
  exact ⟨by rw [HU.out.1, HU.out.2]; rfl, pw_below_drewN ((Below.refl _ _).alloc (Nat.le_refl _) _) _⟩

set_option maxHeartbeats 3200000 in
set_option maxRecDepth 100000 in
theorem spotat_calls (w : World) (kind border : Int) (t : Wp) (pw' ph i j n : Int) (h1 : borderE border pw' = 0) (h2 : borderE border ph = 0) (hi : -4611686018427387904 ≤ i ∧ i ≤ 4611686018427387904) (hj : -4611686018427387904 ≤ j ∧ j ≤ 4611686018427387904) :
    Calls Try.prog 105 #[wayV kind border t pw' ph, .int .i64 i, .int .i64 j, .int .i64 n] w fun e w' => WGives w (.agg #[.int .i64 (borderV border pw' i), .int .i64 (borderV border ph j), .int .i64 n]) e w' := by
  have H1 : Hid (∀ W, Calls Try.prog 100 #[.int .i64 border, .int .i64 pw', .int .i64 i] W fun e w' => e = .returned (.tuple #[.int .i64 (borderV border pw' i), .int .i64 0]) ∧ W = w') := (show ∀ W, _ from fun W => (border_calls W border pw' i hi).mono fun e w' h => ⟨by rw [h.1]; unfold borderP; rw [h1]; rfl, h.2⟩)
  have H2 : Hid (∀ W, Calls Try.prog 100 #[.int .i64 border, .int .i64 ph, .int .i64 j] W fun e w' => e = .returned (.tuple #[.int .i64 (borderV border ph j), .int .i64 0]) ∧ W = w') := (show ∀ W, _ from fun W => (border_calls W border ph j hj).mono fun e w' h => ⟨by rw [h.1]; unfold borderP; rw [h2]; rfl, h.2⟩)
  obtain ⟨a, ea⟩ : ∃ a, a = borderV border pw' i := ⟨_, rfl⟩
  obtain ⟨b, eb⟩ : ∃ a, a = borderV border ph j := ⟨_, rfl⟩
  rw [← ea] at H1 ⊢
  rw [← eb] at H2 ⊢
  clear ea eb h1 h2
  unfold wayV wayC WGives
  go_enter Try.func105, Try.ntmps105
  go_wp2_with (first
    | (go_at_call 100; (with_reducible refine (H1.out _).mono ?_); rintro e1 w1 ⟨rfl, rfl⟩)
    | (go_at_call 100; (with_reducible refine (H2.out _).mono ?_); rintro e1 w1 ⟨rfl, rfl⟩))
  refine bodyPost_ret (results_cell_row rfl _ _ (w.heap.size + 1) 51 _ (0, 0) _ rfl (heap_alloc2_new w _ _) Try.underlying51 rfl (by kernel_rfl)) rfl ?_
  exact ⟨rfl, below_two _ _ _⟩

/-- Why a way can't be asked. -/
def rightE (kind border : Int) (t : Wp) (pw' ph : Int) : Int :=
  if wpOk t = false then 280 else if ¬ (kind = 1 ∨ kind = 2) then 281 else if borderE border 1 ≠ 0 then borderE border 1 else if sizeB pw' ph = false then 282 else 0
set_option maxHeartbeats 3200000 in
set_option maxRecDepth 100000 in
theorem right_calls (w : World) (kind border : Int) (t : Wp) (pw' ph : Int) :
    Calls Try.prog 66 #[wayV kind border t pw' ph] w fun e w' => WGives w (.int .i64 (rightE kind border t pw' ph)) e w' := by
  have HC : Hid (∀ W, Calls Try.prog 19 #[.agg #[.int .i64 t.A, .int .i64 t.B, .int .i64 t.C, .int .i64 t.D, .int .i64 t.E, .int .i64 t.F, .int .i64 t.Q]] W fun e w' => e = .returned (.int .i64 (wpErr t)) ∧ Below W.heap.size W w') := (show ∀ W, _ from fun W => check_calls W t)
  have HBD := Lib.hid fun W => border_calls W border 1 0 (by decide)
  have HS := Lib.hid fun W => wsize_calls W pw' ph
  have hb0 : Hid (Below w.heap.size w (w.alloc (.cells #[.int .i64 kind, .int .i64 border, .int .i64 t.A, .int .i64 t.B, .int .i64 t.C, .int .i64 t.D, .int .i64 t.E, .int .i64 t.F, .int .i64 t.Q, .int .i64 pw', .int .i64 ph] 115))) := (show Below _ _ _ from (Below.refl _ _).alloc (Nat.le_refl _) _)
  have hblk : Hid ((w.alloc (.cells #[.int .i64 kind, .int .i64 border, .int .i64 t.A, .int .i64 t.B, .int .i64 t.C, .int .i64 t.D, .int .i64 t.E, .int .i64 t.F, .int .i64 t.Q, .int .i64 pw', .int .i64 ph] 115)).heap[w.heap.size]? = some (.cells #[.int .i64 kind, .int .i64 border, .int .i64 t.A, .int .i64 t.B, .int .i64 t.C, .int .i64 t.D, .int .i64 t.E, .int .i64 t.F, .int .i64 t.Q, .int .i64 pw', .int .i64 ph] 115)) := (show _ = _ from heap_alloc_new w _)
  unfold wayV wayC WGives
  cases hok : wpOk t with
  | false =>
    rw [wpErr_not hok] at HC
    have HF : Hid (rightE kind border t pw' ph = 280) := (show _ = _ from if_pos hok)
    clear hok
    as_aux_lemma =>
      go_enter Try.func66, Try.ntmps66
      go_wp2_with (go_at_call 19; refine (HC.out _).mono ?_; rintro e1 w1 ⟨rfl, hb⟩; have HB1 := Lib.hid (ujoin hb0.out hb); clear hb)
      go_ret
      exact ⟨wret HF.out.symm, HB1.out⟩
  | true =>
    rw [wpErr_ok hok] at HC
    have hok2 : ¬ (wpOk t = false) := by rw [hok]; decide
    by_cases hk : kind = 1 ∨ kind = 2
    · by_cases hbd : borderE border 1 = 0
      · have HB2 : Hid (∀ W, Calls Try.prog 100 #[.int .i64 border, .int .i64 1, .int .i64 0] W fun e w' => e = .returned (.tuple #[.int .i64 (borderV border 1 0), .int .i64 0]) ∧ W = w') := (show ∀ W, _ from fun W => (HBD.out W).mono fun e w' h => ⟨by rw [h.1]; unfold borderP; rw [hbd]; rfl, h.2⟩)
        have HF : Hid (rightE kind border t pw' ph = if sizeB pw' ph = false then 282 else 0) := (show _ = _ from by unfold rightE; rw [if_neg hok2, if_neg (fun h => h hk), if_neg (fun h => h hbd)])
        obtain ⟨v0, ev0⟩ : ∃ v, v = borderV border 1 0 := ⟨_, rfl⟩
        rw [← ev0] at HB2
        clear hok hok2 hbd HBD ev0
        cases hs : sizeB pw' ph with
        | false =>
          rw [hs] at HS HF
          clear hs
          rcases hk with rfl | rfl
          all_goals
            go_enter Try.func66, Try.ntmps66
            go_wp2_with (first
              | (go_at_call 19; refine (HC.out _).mono ?_; rintro e1 w1 ⟨rfl, hb⟩; have HB1 := Lib.hid (ujoin hb0.out hb); have HK := Lib.hid ((hb.block _ (Array.getElem?_eq_some_iff.1 hblk.out).1).trans hblk.out); have x0 := ucell HK.out 0; have x1 : w1.cell? ⟨w.heap.size, 1, none⟩ = some (.int .i64 border) := ucell HK.out 1; have x9 : w1.cell? ⟨w.heap.size, 9, none⟩ = some (.int .i64 pw') := ucell HK.out 9; have x10 : w1.cell? ⟨w.heap.size, 10, none⟩ = some (.int .i64 ph) := ucell HK.out 10; clear hb)
              | (go_at_call 100; refine (HB2.out _).mono ?_; rintro e1 w2 ⟨rfl, rfl⟩)
              | (go_at_call 72; refine (HS.out _).mono ?_; rintro e1 w2 ⟨rfl, rfl⟩))
            go_ret
            exact ⟨wret HF.out.symm, HB1.out⟩
        | true =>
          rw [hs] at HS HF
          clear hs
          rcases hk with rfl | rfl
          all_goals
            go_enter Try.func66, Try.ntmps66
            go_wp2_with (first
              | (go_at_call 19; refine (HC.out _).mono ?_; rintro e1 w1 ⟨rfl, hb⟩; have HB1 := Lib.hid (ujoin hb0.out hb); have HK := Lib.hid ((hb.block _ (Array.getElem?_eq_some_iff.1 hblk.out).1).trans hblk.out); have x0 := ucell HK.out 0; have x1 : w1.cell? ⟨w.heap.size, 1, none⟩ = some (.int .i64 border) := ucell HK.out 1; have x9 : w1.cell? ⟨w.heap.size, 9, none⟩ = some (.int .i64 pw') := ucell HK.out 9; have x10 : w1.cell? ⟨w.heap.size, 10, none⟩ = some (.int .i64 ph) := ucell HK.out 10; clear hb)
              | (go_at_call 100; refine (HB2.out _).mono ?_; rintro e1 w2 ⟨rfl, rfl⟩)
              | (go_at_call 72; refine (HS.out _).mono ?_; rintro e1 w2 ⟨rfl, rfl⟩))
            go_ret
            exact ⟨wret HF.out.symm, HB1.out⟩
      · have HB2 : Hid (∀ W, Calls Try.prog 100 #[.int .i64 border, .int .i64 1, .int .i64 0] W fun e w' => e = .returned (.tuple #[.int .i64 0, .int .i64 (borderE border 1)]) ∧ W = w') := (show ∀ W, _ from fun W => (HBD.out W).mono fun e w' h => ⟨by rw [h.1]; unfold borderP; rw [if_neg hbd], h.2⟩)
        have HF : Hid (rightE kind border t pw' ph = borderE border 1) := (show _ = _ from by unfold rightE; rw [if_neg hok2, if_neg (fun h => h hk), if_pos hbd])
        have hz : (borderE border 1 != 0) = true := by rw [bne_iff_ne]; exact hbd
        obtain ⟨v0, ev0⟩ : ∃ v, v = borderE border 1 := ⟨_, rfl⟩
        rw [← ev0] at HB2 HF hz
        clear hok hok2 hbd HBD ev0
        rcases hk with rfl | rfl
        all_goals
          go_enter Try.func66, Try.ntmps66
          go_wp2_with (first
            | (go_at_call 19; refine (HC.out _).mono ?_; rintro e1 w1 ⟨rfl, hb⟩; have HB1 := Lib.hid (ujoin hb0.out hb); have HK := Lib.hid ((hb.block _ (Array.getElem?_eq_some_iff.1 hblk.out).1).trans hblk.out); have x0 := ucell HK.out 0; have x1 : w1.cell? ⟨w.heap.size, 1, none⟩ = some (.int .i64 border) := ucell HK.out 1; have x9 : w1.cell? ⟨w.heap.size, 9, none⟩ = some (.int .i64 pw') := ucell HK.out 9; have x10 : w1.cell? ⟨w.heap.size, 10, none⟩ = some (.int .i64 ph) := ucell HK.out 10; clear hb)
            | (go_at_call 100; refine (HB2.out _).mono ?_; rintro e1 w2 ⟨rfl, rfl⟩))
          go_ret
          exact ⟨wret HF.out.symm, HB1.out⟩
    · have HF : Hid (rightE kind border t pw' ph = 281) := (show _ = _ from by unfold rightE; rw [if_neg hok2, if_pos hk])
      have k1 : (kind != 1) = true := by rw [bne_iff_ne]; intro h; exact hk (.inl h)
      have k2 : (kind != 2) = true := by rw [bne_iff_ne]; intro h; exact hk (.inr h)
      clear hok hok2 hk HBD HS
      go_enter Try.func66, Try.ntmps66
      go_wp2_with (go_at_call 19; refine (HC.out _).mono ?_; rintro e1 w1 ⟨rfl, hb⟩; have HB1 := Lib.hid (ujoin hb0.out hb); have HK := Lib.hid ((hb.block _ (Array.getElem?_eq_some_iff.1 hblk.out).1).trans hblk.out); have x0 := ucell HK.out 0; have x1 : w1.cell? ⟨w.heap.size, 1, none⟩ = some (.int .i64 border) := ucell HK.out 1; have x9 : w1.cell? ⟨w.heap.size, 9, none⟩ = some (.int .i64 pw') := ucell HK.out 9; have x10 : w1.cell? ⟨w.heap.size, 10, none⟩ = some (.int .i64 ph) := ucell HK.out 10; clear hb)
      go_ret
      exact ⟨wret HF.out.symm, HB1.out⟩
end Go.Proofs.Ytdcpeeolfgohmaa
