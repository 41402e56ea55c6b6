/- warp.common, numbers, Check, lowest, told: the walks. warp.told, Normal, Then, Back: the walks. warp.Then: the walk. -/
import Derived.Test.YtdcpeeolfgohmaaU
import Derived.BigQuiet
import Derived.BigRegion
import Derived.StillTailTactics
import Derived.Laws.ResultCell
namespace Go.Proofs.Ytdcpeeolfgohmaa
open Go.RowKit Go.Proofs.YtdcpeeolfgohmaaW.PrintWords
set_option linter.unusedSimpArgs false
set_option linter.unusedVariables false

theorem wret {k : IntKind} {a b : Int} (h : a = b) : Ending.returned (.int k a) = .returned (.int k b) := by rw [h]
/-- A warp's seven numbers. -/
structure Wp where
  A : Int
  B : Int
  C : Int
  D : Int
  E : Int
  F : Int
  Q : Int
def wpC (t : Wp) : Array Value := #[.int .i64 t.A, .int .i64 t.B, .int .i64 t.C, .int .i64 t.D, .int .i64 t.E, .int .i64 t.F, .int .i64 t.Q]
def wpV (t : Wp) : Value := .agg (wpC t)
def wpN (t : Wp) (k : Nat) : Int := match k with | 0 => t.A | 1 => t.B | 2 => t.C | 3 => t.D | 4 => t.E | 5 => t.F | _ => t.Q
/-- Each is at most 2^61 in size. -/
structure WpIn (t : Wp) (M : Int) : Prop where
  A : -M ≤ t.A ∧ t.A ≤ M
  B : -M ≤ t.B ∧ t.B ≤ M
  C : -M ≤ t.C ∧ t.C ≤ M
  D : -M ≤ t.D ∧ t.D ≤ M
  E : -M ≤ t.E ∧ t.E ≤ M
  F : -M ≤ t.F ∧ t.F ≤ M
  Q : -M ≤ t.Q ∧ t.Q ≤ M
theorem WpIn.num {t : Wp} {M : Int} (h : WpIn t M) (k : Nat) (hk : k < 7) : -M ≤ wpN t k ∧ wpN t k ≤ M := by
  rcases (show k = 0 ∨ k = 1 ∨ k = 2 ∨ k = 3 ∨ k = 4 ∨ k = 5 ∨ k = 6 by omega) with rfl | rfl | rfl | rfl | rfl | rfl | rfl
  · exact h.A
  · exact h.B
  · exact h.C
  · exact h.D
  · exact h.E
  · exact h.F
  · exact h.Q

/-! ### The greatest common divisor -/
theorem gcd_step (x y : Int) (h : y ≠ 0) : Int.gcd y (x.tmod y) = Int.gcd x y := by
  unfold Int.gcd
  rw [Int.natAbs_tmod, Nat.gcd_comm, ← Nat.gcd_rec, Nat.gcd_comm]
theorem tmod_small (x y : Int) (h : y ≠ 0) : (x.tmod y).natAbs < y.natAbs := by
  rw [Int.natAbs_tmod]
  exact Nat.mod_lt _ (by omega)
set_option maxHeartbeats 1600000 in
set_option maxRecDepth 100000 in
theorem common_calls (w : World) (a b : Int) (ha : -2305843009213693952 ≤ a ∧ a ≤ 2305843009213693952) (hb : -2305843009213693952 ≤ b ∧ b ≤ 2305843009213693952) :
    Calls Try.prog 95 #[.int .i64 a, .int .i64 b] w fun e w' => e = .returned (.int .i64 ((Int.gcd a b : Nat) : Int)) ∧ Drawn0 w w' := by
  obtain ⟨g, eg⟩ : ∃ g, g = Int.gcd a b := ⟨_, rfl⟩
  rw [← eg]
  have EG := Lib.hid eg
  clear eg
  go_enter Try.func95, Try.ntmps95
  go_wp2
  go_loopg [0, 1] b.natAbs (fun kq v0 v1 wr => ∃ x y : Int, v0 = .int .i64 x ∧ v1 = .int .i64 y ∧ Hid (g = Int.gcd x y) ∧ y.natAbs ≤ kq ∧ (-2305843009213693952 ≤ x ∧ x ≤ 2305843009213693952) ∧ (-2305843009213693952 ≤ y ∧ y ≤ 2305843009213693952) ∧ Aside (Drawn0 w wr))
  case atStart => exact ⟨a, b, rfl, rfl, EG.out, Nat.le_refl _, ha, hb, Drawn0.refl _⟩
  case round =>
    obtain ⟨x, y, rfl, rfl, HG, hk, hx, hy, HD⟩ := hrel
    clear EG
    by_cases h : y = 0
    · have hz : (y != 0) = false := by rw [h]; rfl
      have E : Hid ((max x (-x) : Int) = (g : Int)) := (show _ = _ by rw [HG.out, h]; unfold Int.gcd; rw [Int.natAbs_zero, Nat.gcd_zero_right]; omega)
      have W1 : IntKind.i64.wrap (-x) = -x := IntWalk.i64_in _ (by omega)
      clear h hk hy HG
      rcases Int.lt_or_le x 0 with hneg | hpos
      · go_wp2
        go_ret
        exact ⟨wret (by rw [← E.out]; omega), HD.out⟩
      · go_wp2
        go_ret
        exact ⟨wret (by rw [← E.out]; omega), HD.out⟩
    · have hz : (y != 0) = true := by rw [bne_iff_ne]; exact h
      have hz2 : (y == 0) = false := by rw [beq_eq_false_iff_ne]; exact h
      obtain ⟨r, er⟩ : ∃ r, r = x.tmod y := ⟨_, rfl⟩
      have TM : x.tmod y = r := er.symm
      have hr := tmod_small x y h
      have HG2 : Hid (g = Int.gcd y r) := (show _ = _ by rw [HG.out, ← gcd_step x y h, ← er])
      rw [← er] at hr
      have hrb : -2305843009213693952 ≤ r ∧ r ≤ 2305843009213693952 := by omega
      have W1 : IntKind.i64.wrap r = r := IntWalk.i64_in _ (by omega)
      clear er HG h
      go_wp2
      go_quiet (fail)
      go_wp2
      go_roundg r.natAbs
      case measure => omega
      case rel => exact ⟨y, r, rfl, rfl, HG2.out, Nat.le_refl _, hy, hrb, by first | exact HD.out.step _ | exact HD.out⟩

def WGives (w : World) (v : Value) (e : Ending) (w' : World) : Prop := e = .returned v ∧ Below w.heap.size w w'
/-- What a call of no effect that is told leaves: two blocks. -/
theorem below_two (w : World) (o o' : Obj) : Below w.heap.size w ((w.alloc o).alloc o') := ((Below.refl _ _).alloc (Nat.le_refl _) _).alloc (by simp) _
set_option maxHeartbeats 1600000 in
set_option maxRecDepth 100000 in
theorem numbers_calls (w : World) (t : Wp) : Calls Try.prog 60 #[wpV t] w fun e w' => WGives w (.agg (wpC t)) e w' := by
  unfold wpV wpC
  go_enter Try.func60, Try.ntmps60
  go_wp2
  refine bodyPost_ret (results_cell_row rfl _ _ (w.heap.size + 1) 109 _ (0, 0) _ rfl (by
    have := heap_alloc_new (w.alloc (.cells #[Value.int .i64 t.A, .int .i64 t.B, .int .i64 t.C, .int .i64 t.D, .int .i64 t.E, .int .i64 t.F, .int .i64 t.Q] 32)) (.cells #[.int .i64 t.A, .int .i64 t.B, .int .i64 t.C, .int .i64 t.D, .int .i64 t.E, .int .i64 t.F, .int .i64 t.Q] 109)
    rw [show (w.alloc (.cells #[Value.int .i64 t.A, .int .i64 t.B, .int .i64 t.C, .int .i64 t.D, .int .i64 t.E, .int .i64 t.F, .int .i64 t.Q] 32)).heap.size = w.heap.size + 1 by simp] at this
    exact this) Try.underlying109 rfl (by kernel_rfl)) rfl ?_
  exact ⟨rfl, below_two _ _ _⟩

theorem run_index7 {cs : Array Value} {k : Nat} {x : Int} (hk : k < 7) (h : cs[k]? = some (.int .i64 x)) (W : World) : (Instr.index 109 (.agg cs) (.int .i64 (k : Int))).run Try.prog W = .ok (.int .i64 x) W := by
  have hi : (Try.prog.info? 3).map (·.size) = some 1 := by kernel_rfl
  have h2 : (0 : Int) ≤ (k : Int) ∧ (k : Int) < (7 : Nat) := by omega
  cases hq : Try.prog.info? 3 with
  | none => simp [hq] at hi
  | some i =>
    have hs : i.size = 1 := by simpa [hq] using hi
    have hagg : (isAgg 3).run Try.prog W = .ok false W := by
      unfold isAgg
      rw [Sem.run_bind, run_underlying Try.underlying3 W]
      simp
    have hk2 : (k : Int) < 7 := by omega
    simp [Instr.index, asIntOf, Sem.run_bind, run_underlying Try.underlying109, hk2, sizeOf, typeInfo, hq, hs, part, hagg, h]
    omega
/-- Whether a warp is one. -/
def wpOk (t : Wp) : Bool := decide (1 ≤ t.Q ∧ t.Q ≤ 4096) && (List.range 7).all fun k => decide (-16777216 ≤ wpN t k ∧ wpN t k ≤ 16777216)
def wpErr (t : Wp) : Int := if wpOk t then 0 else 280
theorem wpC_get (t : Wp) (k : Nat) (hk : k < 7) : (wpC t)[k]? = some (.int .i64 (wpN t k)) := by
  rcases (show k = 0 ∨ k = 1 ∨ k = 2 ∨ k = 3 ∨ k = 4 ∨ k = 5 ∨ k = 6 by omega) with rfl | rfl | rfl | rfl | rfl | rfl | rfl <;> rfl
theorem wpOk_in {t : Wp} (h : wpOk t = true) : WpIn t 16777216 ∧ 1 ≤ t.Q ∧ t.Q ≤ 4096 := by
  unfold wpOk at h
  simp only [Bool.and_eq_true, List.all_eq_true, decide_eq_true_eq, List.mem_range] at h
  obtain ⟨h1, h2⟩ := h
  exact ⟨⟨h2 0 (by decide), h2 1 (by decide), h2 2 (by decide), h2 3 (by decide), h2 4 (by decide), h2 5 (by decide), h2 6 (by decide)⟩, h1⟩
set_option maxHeartbeats 1600000 in
set_option maxRecDepth 100000 in
theorem check_calls (w : World) (t : Wp) : Calls Try.prog 19 #[wpV t] w fun e w' => WGives w (.int .i64 (wpErr t)) e w' := by
  have HG := Lib.hid (wpC_get t)
  have HN : Hid (∀ W, Calls Try.prog 60 #[wpV t] W fun e w' => WGives W (.agg (wpC t)) e w') := (show ∀ W, _ from fun W => numbers_calls W t)
  obtain ⟨cs, ecs⟩ : ∃ cs, cs = wpC t := ⟨_, rfl⟩
  have hsz : cs.size = 7 := by rw [ecs]; rfl
  rw [← ecs] at HN HG
  clear ecs
  unfold wpV wpC at HN ⊢
  unfold WGives at HN ⊢
  have HB0 : Hid (Below w.heap.size w (w.alloc (.cells #[.int .i64 t.A, .int .i64 t.B, .int .i64 t.C, .int .i64 t.D, .int .i64 t.E, .int .i64 t.F, .int .i64 t.Q] 32))) := (show Below _ _ _ from (Below.refl _ _).alloc (Nat.le_refl _) _)
  by_cases hq : 1 ≤ t.Q ∧ t.Q ≤ 4096
  · obtain ⟨q1, q2⟩ := hq
    have d1 : ¬ t.Q < 1 := by omega
    have d2 : ¬ (4096 : Int) < t.Q := by omega
    have HQ : Hid (decide (1 ≤ t.Q ∧ t.Q ≤ 4096) = true) := (show _ = _ from decide_eq_true ⟨q1, q2⟩)
    clear q1 q2
    go_enter Try.func19, Try.ntmps19
    go_wp2_with (first
      | (go_at_call 60; refine (HN.out _).mono ?_; rintro e1 w1 ⟨rfl, hb⟩; have HB1 := Lib.hid (ujoin HB0.out hb); clear hb))
    go_loopg [15] 7 (fun kq v15 wr => ∃ k : Nat, v15 = .int .i64 (k : Int) ∧ k ≤ 7 ∧ 7 ≤ k + kq ∧ Hid (∀ j, j < k → -16777216 ≤ wpN t j ∧ wpN t j ≤ 16777216) ∧ wr = w1)
    case atStart => exact ⟨0, rfl, by omega, by omega, fun j h => absurd h (Nat.not_lt_zero _), rfl⟩
    case round =>
      obtain ⟨k, rfl, hk, hkq, HA, rfl⟩ := hrel
      by_cases hlt : k < 7
      · have hltz : (k : Int) < 7 := by omega
        have hk0 : (0 : Int) ≤ (k : Int) := by omega
        have c1 := HG.out k hlt
        obtain ⟨x, ex⟩ : ∃ x, x = wpN t k := ⟨_, rfl⟩
        rw [← ex] at c1
        have hidx := run_index7 hlt c1
        have HX : Hid (x = wpN t k) := (show _ = _ from ex)
        clear c1 ex
        by_cases h1 : x < -16777216
        · have HF : Hid (wpErr t = 280) := (show _ = _ by
            unfold wpErr
            rw [if_neg]
            intro h
            have := (wpOk_in h).1.num k hlt
            rw [← HX.out] at this
            omega)
          go_wp2
          go_ret
          exact ⟨wret HF.out.symm, HB1.out⟩
        · by_cases h2 : 16777216 < x
          · have HF : Hid (wpErr t = 280) := (show _ = _ by
              unfold wpErr
              rw [if_neg]
              intro h
              have := (wpOk_in h).1.num k hlt
              rw [← HX.out] at this
              omega)
            go_wp2
            go_ret
            exact ⟨wret HF.out.symm, HB1.out⟩
          · have HA2 : Hid (∀ j, j < k + 1 → -16777216 ≤ wpN t j ∧ wpN t j ≤ 16777216) := (show ∀ j, _ → _ from fun j hj => by
              by_cases e : j = k
              · rw [e, ← HX.out]; omega
              · exact HA.out j (by omega))
            go_wp2
            go_roundg (7 - (k + 1))
            case measure => omega
            case rel => exact ⟨k + 1, by go_num, by omega, by omega, HA2.out, rfl⟩
      · have hltz : ¬ (k : Int) < 7 := by omega
        have HF : Hid (wpErr t = 0) := (show _ = _ by
          unfold wpErr
          rw [if_pos]
          unfold wpOk
          rw [HQ.out, Bool.true_and, List.all_eq_true]
          intro j hj
          rw [List.mem_range] at hj
          exact decide_eq_true (HA.out j (by omega)))
        go_wp2
        go_ret
        exact ⟨wret HF.out.symm, HB1.out⟩
  · have HF : Hid (wpErr t = 280) := (show _ = _ by
      unfold wpErr
      rw [if_neg]
      intro h
      exact hq ⟨(wpOk_in h).2.1, (wpOk_in h).2.2⟩)
    rw [HF.out]
    by_cases h1 : t.Q < 1
    · clear hq
      go_enter Try.func19, Try.ntmps19
      go_wp2
      go_ret
      exact ⟨rfl, HB0.out⟩
    · have h2 : (4096 : Int) < t.Q := by omega
      clear hq
      go_enter Try.func19, Try.ntmps19
      go_wp2
      go_ret
      exact ⟨rfl, HB0.out⟩

/-! ### Lowest numbers -/
def gcdTo (t : Wp) : Nat → Nat
  | 0 => 0
  | k + 1 => Int.gcd (gcdTo t k : Int) (wpN t k)
def gcd7 (t : Wp) : Nat := gcdTo t 7
/-- The divisor, its sign that of Q. -/
def lowG (t : Wp) : Int := if t.Q < 0 then -(gcd7 t : Int) else (gcd7 t : Int)
def wpDiv (t : Wp) (g : Int) : Wp := ⟨t.A.tdiv g, t.B.tdiv g, t.C.tdiv g, t.D.tdiv g, t.E.tdiv g, t.F.tdiv g, t.Q.tdiv g⟩
def lowW (t : Wp) : Wp := wpDiv t (lowG t)
theorem gcdTo_dvd (t : Wp) : ∀ k, ∀ j, j < k → ((gcdTo t k : Nat) : Int) ∣ wpN t j
  | 0, j, h => absurd h (Nat.not_lt_zero _)
  | k + 1, j, h => by
    rw [gcdTo]
    by_cases e : j = k
    · rw [e]; exact Int.gcd_dvd_right _ _
    · exact Int.dvd_trans (Int.gcd_dvd_left _ _) (gcdTo_dvd t k j (by omega))
theorem gcd7_pos {t : Wp} (h : t.Q ≠ 0) : 1 ≤ gcd7 t := by
  rcases Nat.eq_zero_or_pos (gcd7 t) with h0 | h0
  · have h1 := gcdTo_dvd t 7 6 (by decide)
    have h2 : ((gcdTo t 7 : Nat) : Int) = 0 := by show ((gcd7 t : Nat) : Int) = 0; rw [h0]; rfl
    rw [h2, Int.zero_dvd] at h1
    exact absurd h1 h
  · exact h0
theorem gcdTo_le (t : Wp) (M : Int) (h : WpIn t M) (h0 : 0 ≤ M) : ∀ k, k ≤ 7 → ((gcdTo t k : Nat) : Int) ≤ M
  | 0, _ => h0
  | k + 1, hk => by
    rw [gcdTo]
    have ih := gcdTo_le t M h h0 k (by omega)
    have hn := h.num k (by omega)
    by_cases e : wpN t k = 0
    · rw [e, Int.gcd_zero_right, Int.natAbs_natCast]; exact ih
    · have := Int.gcd_le_natAbs_right (gcdTo t k : Int) (b := wpN t k) e
      omega

theorem wtdiv_bd {x g M : Int} (hx : -M ≤ x ∧ x ≤ M) (hg : g ≠ 0) : -M ≤ x.tdiv g ∧ x.tdiv g ≤ M := by
  have h : (x.tdiv g).natAbs ≤ x.natAbs := by rw [Int.natAbs_tdiv]; exact Nat.div_le_self _ _
  generalize x.tdiv g = d at h ⊢
  omega
theorem wpDiv_in {t : Wp} {M g : Int} (h : WpIn t M) (hg : g ≠ 0) : WpIn (wpDiv t g) M :=
  ⟨wtdiv_bd h.A hg, wtdiv_bd h.B hg, wtdiv_bd h.C hg, wtdiv_bd h.D hg, wtdiv_bd h.E hg, wtdiv_bd h.F hg, wtdiv_bd h.Q hg⟩
theorem wbelow_setRow {B g : Nat} {w0 w : World} (hb : Below B w0 w) (hBg : B ≤ g) (cs : Array Value) : Below B w0 (w.setRow g cs) :=
  ⟨hb.os, hb.tape, hb.output, by rw [setRow_size]; exact hb.size, fun k hk => (setRow_other _ _ _ _ (by omega)).trans (hb.block k hk)⟩
/-- What lowest leaves: a block told. -/
def LowEnd (w : World) (t : Wp) (e : Ending) (w' : World) : Prop := e = .returned (wpV (lowW t)) ∧ Below w.heap.size w w'
set_option maxHeartbeats 3200000 in
set_option maxRecDepth 100000 in
theorem lowest_calls (w : World) (t : Wp) (hM : WpIn t 2305843009213693952) (hq : t.Q ≠ 0) : Calls Try.prog 58 #[wpV t] w fun e w' => LowEnd w t e w' := by
  have HG := Lib.hid (wpC_get t)
  have HM := Lib.hid hM
  have HN : Hid (∀ W, Calls Try.prog 60 #[wpV t] W fun e w' => WGives W (.agg (wpC t)) e w') := (show ∀ W, _ from fun W => numbers_calls W t)
  have HC : Hid (∀ k, k < 7 → ∀ W, Calls Try.prog 95 #[.int .i64 (gcdTo t k : Int), .int .i64 (wpN t k)] W fun e w' => e = .returned (.int .i64 (gcdTo t (k + 1) : Int)) ∧ Drawn0 W w') := (show ∀ k, _ → _ from fun k hk W => common_calls W _ _ ⟨by omega, gcdTo_le t _ hM (by decide) k (by omega)⟩ (hM.num k hk))
  have hgl := gcdTo_le t _ hM (by decide) 7 (by decide)
  have hgp := gcd7_pos hq
  obtain ⟨gg, egg⟩ : ∃ gg, gg = gcdTo t 7 := ⟨_, rfl⟩
  have EGG := Lib.hid egg
  have hgp2 : 1 ≤ gg := by rw [egg]; exact hgp
  rw [← egg] at hgl
  clear egg hgp
  obtain ⟨cs, ecs⟩ : ∃ cs, cs = wpC t := ⟨_, rfl⟩
  rw [← ecs] at HN HG
  clear ecs
  unfold wpV wpC WGives at HN
  unfold LowEnd
  rw [show wpV t = .agg #[.int .i64 t.A, .int .i64 t.B, .int .i64 t.C, .int .i64 t.D, .int .i64 t.E, .int .i64 t.F, .int .i64 t.Q] from rfl]
  have hblk : Hid ((((w.alloc (.cells #[.int .i64 t.A, .int .i64 t.B, .int .i64 t.C, .int .i64 t.D, .int .i64 t.E, .int .i64 t.F, .int .i64 t.Q] 32)).alloc (.cells #[.int .i64 0, .int .i64 0, .int .i64 0, .int .i64 0, .int .i64 0, .int .i64 0, .int .i64 0] 32)).heap[w.heap.size]? = some (.cells #[.int .i64 t.A, .int .i64 t.B, .int .i64 t.C, .int .i64 t.D, .int .i64 t.E, .int .i64 t.F, .int .i64 t.Q] 32)) ∧ (((w.alloc (.cells #[.int .i64 t.A, .int .i64 t.B, .int .i64 t.C, .int .i64 t.D, .int .i64 t.E, .int .i64 t.F, .int .i64 t.Q] 32)).alloc (.cells #[.int .i64 0, .int .i64 0, .int .i64 0, .int .i64 0, .int .i64 0, .int .i64 0, .int .i64 0] 32)).heap[w.heap.size + 1]? = some (.cells #[.int .i64 0, .int .i64 0, .int .i64 0, .int .i64 0, .int .i64 0, .int .i64 0, .int .i64 0] 32))) :=
    (show _ ∧ _ from ⟨(Below.heap_alloc _ _ _ (by simp)).trans (heap_alloc_new w _), heap_alloc2_new w _ _⟩)
  have hbl0 : Hid (Below w.heap.size w ((w.alloc (.cells #[.int .i64 t.A, .int .i64 t.B, .int .i64 t.C, .int .i64 t.D, .int .i64 t.E, .int .i64 t.F, .int .i64 t.Q] 32)).alloc (.cells #[.int .i64 0, .int .i64 0, .int .i64 0, .int .i64 0, .int .i64 0, .int .i64 0, .int .i64 0] 32))) := (show Below _ _ _ from below_two _ _ _)
  clear hM
  go_enter Try.func58, Try.ntmps58
  go_wp2_with (first
    | (go_at_call 60; refine (HN.out _).mono ?_; rintro e1 w1 ⟨rfl, hb⟩; have HB1 := Lib.hid (ujoin hbl0.out hb); have HK1 := Lib.hid ((hb.block _ (Array.getElem?_eq_some_iff.1 hblk.out.1).1).trans hblk.out.1); have HK2 := Lib.hid ((hb.block _ (Array.getElem?_eq_some_iff.1 hblk.out.2).1).trans hblk.out.2); clear hb))
  go_loopg [3, 5, 8] 7 (fun kq v3 v5 v8 wr => ∃ k : Nat, v8 = .int .i64 (k : Int) ∧ v3 = .int .i64 (gcdTo t k : Int) ∧ k ≤ 7 ∧ 7 ≤ k + kq ∧ Aside (Drawn0 w1 wr))
  case atStart => exact ⟨0, rfl, rfl, by omega, by omega, Drawn0.refl _⟩
  case round =>
    obtain ⟨k, rfl, rfl, hk, hkq, HD⟩ := hrel
    by_cases hlt : k < 7
    · have hltz : (k : Int) < 7 := by omega
      have hk0 : (0 : Int) ≤ (k : Int) := by omega
      have c1 := HG.out k hlt
      have HC1 := Lib.hid (HC.out k hlt)
      obtain ⟨x, ex⟩ : ∃ x, x = wpN t k := ⟨_, rfl⟩
      obtain ⟨y, ey⟩ : ∃ x, x = gcdTo t k := ⟨_, rfl⟩
      obtain ⟨z, ez⟩ : ∃ x, x = gcdTo t (k + 1) := ⟨_, rfl⟩
      rw [← ex] at c1
      rw [← ex, ← ey, ← ez] at HC1
      rw [← ey]
      have EZ := Lib.hid ez
      have hidx := run_index7 hlt c1
      clear ex ey ez c1
      go_wp2_with (go_at_call 95; refine (HC1.out _).mono ?_; rintro e1 w2 ⟨rfl, hd⟩; have HD2 := Lib.hid (show Drawn0 w1 w2 by obtain ⟨n1, e1⟩ := HD.out; obtain ⟨n2, e2⟩ := hd; exact ⟨n1 + n2, by rw [e2, e1, World.drewN_drewN]⟩); clear hd)
      go_roundg (7 - (k + 1))
      case measure => omega
      case rel => exact ⟨k + 1, by go_num, by rw [EZ.out], by omega, by omega, HD2.out⟩
    · have hltz : ¬ (k : Int) < 7 := by omega
      have hk7 : k = 7 := by omega
      have HK1' : Hid (wr.heap[w.heap.size]? = some (.cells #[.int .i64 t.A, .int .i64 t.B, .int .i64 t.C, .int .i64 t.D, .int .i64 t.E, .int .i64 t.F, .int .i64 t.Q] 32)) := (show _ = _ from (HD.out.below.block _ (Array.getElem?_eq_some_iff.1 HK1.out).1).trans HK1.out)
      have HK2' : Hid (wr.heap[w.heap.size + 1]? = some (.cells #[.int .i64 0, .int .i64 0, .int .i64 0, .int .i64 0, .int .i64 0, .int .i64 0, .int .i64 0] 32)) := (show _ = _ from (HD.out.below.block _ (Array.getElem?_eq_some_iff.1 HK2.out).1).trans HK2.out)
      have HB2 := Lib.hid (ujoin HB1.out HD.out.below)
      rw [show gcdTo t k = gg by rw [hk7, EGG.out]]
      have HF : Hid (∀ G : Int, lowG t = G → ∀ q0 q1 q2 q3 q4 q5 q6, t.A.tdiv G = q0 → t.B.tdiv G = q1 → t.C.tdiv G = q2 → t.D.tdiv G = q3 → t.E.tdiv G = q4 → t.F.tdiv G = q5 → t.Q.tdiv G = q6 → wpV (lowW t) = .agg #[.int .i64 q0, .int .i64 q1, .int .i64 q2, .int .i64 q3, .int .i64 q4, .int .i64 q5, .int .i64 q6]) := (show ∀ G : Int, _ from by
        rintro G rfl q0 q1 q2 q3 q4 q5 q6 rfl rfl rfl rfl rfl rfl rfl
        rfl)
      have HDI : Hid (∀ G : Int, G ≠ 0 → WpIn (wpDiv t G) 2305843009213693952) := (show ∀ G : Int, _ from fun G hG => wpDiv_in HM.out hG)
      have HG9 : Hid (lowG t = if t.Q < 0 then -(gg : Int) else (gg : Int)) := (show _ = _ by unfold lowG gcd7; rw [← EGG.out])
      have W0 : IntKind.i64.wrap (-(gg : Int)) = -(gg : Int) := IntWalk.i64_in _ (by omega)
      have y6 : wr.cell? ⟨w.heap.size, 6, none⟩ = some (.int .i64 t.Q) := ucell HK1'.out 6
      clear HB1 HD HK1 HK2 HC HG HN hq hblk hbl0 HM EGG
      have fin : ∀ G : Int, G ≠ 0 → lowG t = G → ∃ q0 q1 q2 q3 q4 q5 q6 : Int, (t.A.tdiv G = q0 ∧ t.B.tdiv G = q1 ∧ t.C.tdiv G = q2 ∧ t.D.tdiv G = q3 ∧ t.E.tdiv G = q4 ∧ t.F.tdiv G = q5 ∧ t.Q.tdiv G = q6) ∧ (IntKind.i64.wrap q0 = q0 ∧ IntKind.i64.wrap q1 = q1 ∧ IntKind.i64.wrap q2 = q2 ∧ IntKind.i64.wrap q3 = q3 ∧ IntKind.i64.wrap q4 = q4 ∧ IntKind.i64.wrap q5 = q5 ∧ IntKind.i64.wrap q6 = q6) ∧ Hid (wpV (lowW t) = .agg #[.int .i64 q0, .int .i64 q1, .int .i64 q2, .int .i64 q3, .int .i64 q4, .int .i64 q5, .int .i64 q6]) := fun G hG hl => by
        have h := HDI.out G hG
        have b0 := h.A
        have b1 := h.B
        have b2 := h.C
        have b3 := h.D
        have b4 := h.E
        have b5 := h.F
        have b6 := h.Q
        dsimp only [wpDiv] at b0 b1 b2 b3 b4 b5 b6
        exact ⟨_, _, _, _, _, _, _, ⟨rfl, rfl, rfl, rfl, rfl, rfl, rfl⟩, ⟨IntWalk.i64_in _ (by omega), IntWalk.i64_in _ (by omega), IntWalk.i64_in _ (by omega), IntWalk.i64_in _ (by omega), IntWalk.i64_in _ (by omega), IntWalk.i64_in _ (by omega), IntWalk.i64_in _ (by omega)⟩, HF.out G hl _ _ _ _ _ _ _ rfl rfl rfl rfl rfl rfl rfl⟩
      have HFIN := Lib.hid fin
      clear fin HF HDI
      have x0 : wr.cell? ⟨w.heap.size, 0, none⟩ = some (.int .i64 t.A) := ucell HK1'.out 0
      have x1 : wr.cell? ⟨w.heap.size, 1, none⟩ = some (.int .i64 t.B) := ucell HK1'.out 1
      have x2 : wr.cell? ⟨w.heap.size, 2, none⟩ = some (.int .i64 t.C) := ucell HK1'.out 2
      have x3 : wr.cell? ⟨w.heap.size, 3, none⟩ = some (.int .i64 t.D) := ucell HK1'.out 3
      have x4 : wr.cell? ⟨w.heap.size, 4, none⟩ = some (.int .i64 t.E) := ucell HK1'.out 4
      have x5 : wr.cell? ⟨w.heap.size, 5, none⟩ = some (.int .i64 t.F) := ucell HK1'.out 5
      rcases Int.lt_or_le t.Q 0 with hneg | hpos
      · go_upto_region 9 with fail
        obtain ⟨G, eG⟩ : ∃ G : Int, G = -(gg : Int) := ⟨_, rfl⟩
        have hG0 : G ≠ 0 := by omega
        have hGz : (G == 0) = false := by rw [beq_eq_false_iff_ne]; exact hG0
        have hlG : lowG t = G := by rw [HG9.out, if_pos hneg, eG]
        rw [← eG]
        obtain ⟨q0, q1, q2, q3, q4, q5, q6, ⟨T0, T1, T2, T3, T4, T5, T6⟩, ⟨V0, V1, V2, V3, V4, V5, V6⟩, HV⟩ := HFIN.out G hG0 hlG
        clear eG hlG hneg W0
        go_still_tail 28, (by kernel_rfl)
        change wpList _ _ _ _ _ wr.drew
        go_wp2_with (refine wpList_store_row rfl 32 _ _ rfl (w.heap.size + 1) #[.int .i64 q0, .int .i64 q1, .int .i64 q2, .int .i64 q3, .int .i64 q4, .int .i64 q5, .int .i64 q6] rfl rfl 32 _ (show wr.drew.heap[w.heap.size + 1]? = _ from HK2'.out) (by kernel_rfl) rfl (by kernel_rfl) ?_)
        refine bodyPost_ret (results_cell_row rfl _ _ (w.heap.size + 1) 32 _ (0, 0) _ rfl (setRow_heap _ _ _ _ _ _ (show wr.drew.heap[w.heap.size + 1]? = _ from HK2'.out)) Try.underlying32 rfl (by kernel_rfl)) rfl ?_
        exact ⟨by rw [HV.out], wbelow_setRow HB2.out.drew (Nat.le_succ _) _⟩
      · go_upto_region 9 with fail
        obtain ⟨G, eG⟩ : ∃ G : Int, G = (gg : Int) := ⟨_, rfl⟩
        have hG0 : G ≠ 0 := by omega
        have hGz : (G == 0) = false := by rw [beq_eq_false_iff_ne]; exact hG0
        have hlG : lowG t = G := by rw [HG9.out, if_neg (by omega), eG]
        rw [← eG]
        obtain ⟨q0, q1, q2, q3, q4, q5, q6, ⟨T0, T1, T2, T3, T4, T5, T6⟩, ⟨V0, V1, V2, V3, V4, V5, V6⟩, HV⟩ := HFIN.out G hG0 hlG
        clear eG hlG hpos W0
        go_still_tail 28, (by kernel_rfl)
        change wpList _ _ _ _ _ wr.drew
        go_wp2_with (refine wpList_store_row rfl 32 _ _ rfl (w.heap.size + 1) #[.int .i64 q0, .int .i64 q1, .int .i64 q2, .int .i64 q3, .int .i64 q4, .int .i64 q5, .int .i64 q6] rfl rfl 32 _ (show wr.drew.heap[w.heap.size + 1]? = _ from HK2'.out) (by kernel_rfl) rfl (by kernel_rfl) ?_)
        refine bodyPost_ret (results_cell_row rfl _ _ (w.heap.size + 1) 32 _ (0, 0) _ rfl (setRow_heap _ _ _ _ _ _ (show wr.drew.heap[w.heap.size + 1]? = _ from HK2'.out)) Try.underlying32 rfl (by kernel_rfl)) rfl ?_
        exact ⟨by rw [HV.out], wbelow_setRow HB2.out.drew (Nat.le_succ _) _⟩

theorem ret_warp {fn : Func} {p u : Tmp} (h : fn.results = #[.cell p 32, .tmp u]) (tmps : Array Value) (w : World) (g : Nat) (cs : Array Value) (hp : tmps.getD p undef = .pointer (some ⟨g, 0, none⟩)) (hg : w.heap[g]? = some (.cells cs 32 (0, 0))) (hi : cs.size = 7) :
    (results fn tmps).run Try.prog w = .ok (.tuple #[.agg cs, tmps.getD u undef]) w := by
  have hs : (Try.prog.info? 32).map (·.size) = some 7 := by kernel_rfl
  have hl := run_loadVar_row (P := Try.prog) w g 32 32 cs (0, 0) _ hg Try.underlying32 rfl (by rw [hi]; exact hs)
  rw [results_cell_tmp h, hp]
  simp [asAddr, hl, Result.andThen]
def wpZ : Wp := ⟨0, 0, 0, 0, 0, 0, 0⟩
/-- A warp in its lowest numbers, if it is one. -/
def toldW' (t : Wp) : Wp × Int := if t.Q = 0 ∨ wpOk (lowW t) = false then (wpZ, 283) else (lowW t, 0)
def wtV (x : Wp × Int) : Value := .tuple #[wpV x.1, .int .i64 x.2]
theorem lowW_in {t : Wp} {M : Int} (h : WpIn t M) (hq : t.Q ≠ 0) : WpIn (lowW t) M := wpDiv_in h (by unfold lowG; have := gcd7_pos hq; split <;> omega)

set_option maxHeartbeats 1600000 in
set_option maxRecDepth 100000 in
theorem told_calls' (w : World) (t : Wp) (hM : WpIn t 2305843009213693952) : Calls Try.prog 62 #[wpV t] w fun e w' => WGives w (wtV (toldW' t)) e w' := by
  have HL := Lib.hid fun W hq => lowest_calls W t hM hq
  unfold WGives
  have hb0 : Hid (Below w.heap.size w ((w.alloc (.cells #[.int .i64 t.A, .int .i64 t.B, .int .i64 t.C, .int .i64 t.D, .int .i64 t.E, .int .i64 t.F, .int .i64 t.Q] 32)).alloc (.cells #[.int .i64 0, .int .i64 0, .int .i64 0, .int .i64 0, .int .i64 0, .int .i64 0, .int .i64 0] 32))) := (show Below _ _ _ from below_two _ _ _)
  by_cases hq : t.Q = 0
  · have hz : (t.Q == 0) = true := by rw [hq]; rfl
    have HF : Hid (toldW' t = (wpZ, 283)) := (show _ = _ from if_pos (.inl hq))
    clear hq
    unfold wpV wpC
    go_enter Try.func62, Try.ntmps62
    go_wp2
    refine bodyPost_ret (ret_warp rfl _ _ (w.heap.size + 1) _ rfl (heap_alloc2_new w _ _) rfl) rfl ?_
    exact ⟨by rw [HF.out]; rfl, hb0.out⟩
  · have hz : (t.Q == 0) = false := by rw [beq_eq_false_iff_ne]; exact hq
    obtain ⟨r, er⟩ : ∃ r, r = lowW t := ⟨_, rfl⟩
    have HL2 : Hid (∀ W, Calls Try.prog 58 #[.agg #[.int .i64 t.A, .int .i64 t.B, .int .i64 t.C, .int .i64 t.D, .int .i64 t.E, .int .i64 t.F, .int .i64 t.Q]] W fun e w' => e = .returned (.agg #[.int .i64 r.A, .int .i64 r.B, .int .i64 r.C, .int .i64 r.D, .int .i64 r.E, .int .i64 r.F, .int .i64 r.Q]) ∧ Below W.heap.size W w') := (show ∀ W, _ from fun W => by rw [er]; exact HL.out W hq)
    obtain ⟨c, ec⟩ : ∃ c, c = wpErr r := ⟨_, rfl⟩
    have HC : Hid (∀ W, Calls Try.prog 19 #[.agg #[.int .i64 r.A, .int .i64 r.B, .int .i64 r.C, .int .i64 r.D, .int .i64 r.E, .int .i64 r.F, .int .i64 r.Q]] W fun e w' => e = .returned (.int .i64 c) ∧ Below W.heap.size W w') := (show ∀ W, _ from fun W => by rw [ec]; exact check_calls W r)
    have hblk : Hid ((((w.alloc (.cells #[.int .i64 t.A, .int .i64 t.B, .int .i64 t.C, .int .i64 t.D, .int .i64 t.E, .int .i64 t.F, .int .i64 t.Q] 32)).alloc (.cells #[.int .i64 0, .int .i64 0, .int .i64 0, .int .i64 0, .int .i64 0, .int .i64 0, .int .i64 0] 32)).heap[w.heap.size]? = some (.cells #[.int .i64 t.A, .int .i64 t.B, .int .i64 t.C, .int .i64 t.D, .int .i64 t.E, .int .i64 t.F, .int .i64 t.Q] 32)) ∧ (((w.alloc (.cells #[.int .i64 t.A, .int .i64 t.B, .int .i64 t.C, .int .i64 t.D, .int .i64 t.E, .int .i64 t.F, .int .i64 t.Q] 32)).alloc (.cells #[.int .i64 0, .int .i64 0, .int .i64 0, .int .i64 0, .int .i64 0, .int .i64 0, .int .i64 0] 32)).heap[w.heap.size + 1]? = some (.cells #[.int .i64 0, .int .i64 0, .int .i64 0, .int .i64 0, .int .i64 0, .int .i64 0, .int .i64 0] 32))) :=
      (show _ ∧ _ from ⟨(Below.heap_alloc _ _ _ (by simp)).trans (heap_alloc_new w _), heap_alloc2_new w _ _⟩)
    have HF : Hid ((wpOk r = false → toldW' t = (wpZ, 283) ∧ c = 280) ∧ (wpOk r = true → toldW' t = (r, 0) ∧ c = 0)) := (show _ ∧ _ from by
      rw [er] at ec ⊢
      refine ⟨fun h => ⟨if_pos (.inr h), ?_⟩, fun h => ⟨?_, ?_⟩⟩
      · rw [ec]; unfold wpErr; rw [h]; rfl
      · unfold toldW'; rw [if_neg]; intro h2; rcases h2 with h2 | h2
        · exact hq h2
        · rw [h] at h2; cases h2
      · rw [ec]; unfold wpErr; rw [h]; rfl)
    clear hq er ec HL hM
    have main : ∀ b : Bool, (b = false → toldW' t = (wpZ, 283) ∧ c = 280) → (b = true → toldW' t = (r, 0) ∧ c = 0) → Calls Try.prog 62 #[wpV t] w fun e w' => e = .returned (wtV (toldW' t)) ∧ Below w.heap.size w w' := fun b h1 h2 => by
      unfold wpV wpC
      have H1 := Lib.hid h1
      have H2 := Lib.hid h2
      clear h1 h2 HF
      cases b with
      | false =>
        obtain ⟨-, rfl⟩ := H1.out rfl
        have HT := Lib.hid (H1.out rfl).1
        clear H1 H2
        go_enter Try.func62, Try.ntmps62
        go_wp2_with (first
          | (go_at_call 58; refine (HL2.out _).mono ?_; rintro e1 w1 ⟨rfl, hb⟩; have HB1 := Lib.hid (ujoin hb0.out hb); have HK1 := Lib.hid ((hb.block _ (Array.getElem?_eq_some_iff.1 hblk.out.1).1).trans hblk.out.1); have HK2 := Lib.hid ((hb.block _ (Array.getElem?_eq_some_iff.1 hblk.out.2).1).trans hblk.out.2); clear hb)
          | (refine wpList_store_row rfl 32 _ _ rfl w.heap.size #[.int .i64 r.A, .int .i64 r.B, .int .i64 r.C, .int .i64 r.D, .int .i64 r.E, .int .i64 r.F, .int .i64 r.Q] rfl rfl 32 _ HK1.out (by kernel_rfl) rfl (by kernel_rfl) ?_; have HK3 := Lib.hid (setRow_heap w1 w.heap.size _ #[.int .i64 r.A, .int .i64 r.B, .int .i64 r.C, .int .i64 r.D, .int .i64 r.E, .int .i64 r.F, .int .i64 r.Q] _ _ HK1.out); have HK4 := Lib.hid ((setRow_other w1 w.heap.size (w.heap.size + 1) #[.int .i64 r.A, .int .i64 r.B, .int .i64 r.C, .int .i64 r.D, .int .i64 r.E, .int .i64 r.F, .int .i64 r.Q] (by omega)).trans HK2.out); have HB2 := Lib.hid (wbelow_setRow HB1.out (Nat.le_refl _) #[.int .i64 r.A, .int .i64 r.B, .int .i64 r.C, .int .i64 r.D, .int .i64 r.E, .int .i64 r.F, .int .i64 r.Q]); clear HK1 HK2 HB1; generalize w1.setRow w.heap.size #[.int .i64 r.A, .int .i64 r.B, .int .i64 r.C, .int .i64 r.D, .int .i64 r.E, .int .i64 r.F, .int .i64 r.Q] = w2 at HK3 HK4 HB2 ⊢)
          | (refine wpList_load_row rfl 32 _ rfl w.heap.size rfl 32 _ (0, 0) _ HK3.out Try.underlying32 rfl (by kernel_rfl) ?_)
          | (go_at_call 19; refine (HC.out _).mono ?_; rintro e1 w3 ⟨rfl, hb⟩; have HB3 := Lib.hid (ujoin HB2.out hb); have HK6 := Lib.hid ((hb.block _ (Array.getElem?_eq_some_iff.1 HK4.out).1).trans HK4.out); clear hb)
          | (refine wpList_store_row rfl 32 _ _ rfl (w.heap.size + 1) #[.int .i64 0, .int .i64 0, .int .i64 0, .int .i64 0, .int .i64 0, .int .i64 0, .int .i64 0] rfl rfl 32 _ HK6.out (by kernel_rfl) rfl (by kernel_rfl) ?_))
        refine bodyPost_ret (ret_warp rfl _ _ (w.heap.size + 1) _ rfl (setRow_heap _ _ _ _ _ _ HK6.out) rfl) rfl ?_
        exact ⟨by rw [HT.out]; rfl, wbelow_setRow HB3.out (Nat.le_succ _) _⟩
      | true =>
        obtain ⟨-, rfl⟩ := H2.out rfl
        have HT := Lib.hid (H2.out rfl).1
        clear H1 H2
        go_enter Try.func62, Try.ntmps62
        go_wp2_with (first
          | (go_at_call 58; refine (HL2.out _).mono ?_; rintro e1 w1 ⟨rfl, hb⟩; have HB1 := Lib.hid (ujoin hb0.out hb); have HK1 := Lib.hid ((hb.block _ (Array.getElem?_eq_some_iff.1 hblk.out.1).1).trans hblk.out.1); have HK2 := Lib.hid ((hb.block _ (Array.getElem?_eq_some_iff.1 hblk.out.2).1).trans hblk.out.2); clear hb)
          | (refine wpList_store_row rfl 32 _ _ rfl w.heap.size #[.int .i64 r.A, .int .i64 r.B, .int .i64 r.C, .int .i64 r.D, .int .i64 r.E, .int .i64 r.F, .int .i64 r.Q] rfl rfl 32 _ HK1.out (by kernel_rfl) rfl (by kernel_rfl) ?_; have HK3 := Lib.hid (setRow_heap w1 w.heap.size _ #[.int .i64 r.A, .int .i64 r.B, .int .i64 r.C, .int .i64 r.D, .int .i64 r.E, .int .i64 r.F, .int .i64 r.Q] _ _ HK1.out); have HK4 := Lib.hid ((setRow_other w1 w.heap.size (w.heap.size + 1) #[.int .i64 r.A, .int .i64 r.B, .int .i64 r.C, .int .i64 r.D, .int .i64 r.E, .int .i64 r.F, .int .i64 r.Q] (by omega)).trans HK2.out); have HB2 := Lib.hid (wbelow_setRow HB1.out (Nat.le_refl _) #[.int .i64 r.A, .int .i64 r.B, .int .i64 r.C, .int .i64 r.D, .int .i64 r.E, .int .i64 r.F, .int .i64 r.Q]); clear HK1 HK2 HB1; generalize w1.setRow w.heap.size #[.int .i64 r.A, .int .i64 r.B, .int .i64 r.C, .int .i64 r.D, .int .i64 r.E, .int .i64 r.F, .int .i64 r.Q] = w2 at HK3 HK4 HB2 ⊢)
          | (refine wpList_load_row rfl 32 _ rfl w.heap.size rfl 32 _ (0, 0) _ HK5.out Try.underlying32 rfl (by kernel_rfl) ?_)
          | (refine wpList_load_row rfl 32 _ rfl w.heap.size rfl 32 _ (0, 0) _ HK3.out Try.underlying32 rfl (by kernel_rfl) ?_)
          | (go_at_call 19; refine (HC.out _).mono ?_; rintro e1 w3 ⟨rfl, hb⟩; have HB3 := Lib.hid (ujoin HB2.out hb); have HK6 := Lib.hid ((hb.block _ (Array.getElem?_eq_some_iff.1 HK4.out).1).trans HK4.out); have HK5 := Lib.hid ((hb.block _ (Array.getElem?_eq_some_iff.1 HK3.out).1).trans HK3.out); clear hb)
          | (refine wpList_store_row rfl 32 _ _ rfl (w.heap.size + 1) #[.int .i64 r.A, .int .i64 r.B, .int .i64 r.C, .int .i64 r.D, .int .i64 r.E, .int .i64 r.F, .int .i64 r.Q] rfl rfl 32 _ HK6.out (by kernel_rfl) rfl (by kernel_rfl) ?_))
        refine bodyPost_ret (ret_warp rfl _ _ (w.heap.size + 1) _ rfl (setRow_heap _ _ _ _ _ _ HK6.out) rfl) rfl ?_
        exact ⟨by rw [HT.out]; rfl, wbelow_setRow HB3.out (Nat.le_succ _) _⟩
    cases hok : wpOk r with
    | false => exact main false (fun _ => HF.out.1 hok) (fun h => by cases h)
    | true => exact main true (fun h => by cases h) (fun _ => HF.out.2 hok)

def normW (t : Wp) : Wp × Int := if wpOk t then (lowW t, 0) else (wpZ, 280)
theorem wpErr_ok {t : Wp} (h : wpOk t = true) : wpErr t = 0 := if_pos h
theorem wpErr_not {t : Wp} (h : wpOk t = false) : wpErr t = 280 := if_neg (by rw [h]; decide)
theorem WpIn.more {t : Wp} {M M' : Int} (h : WpIn t M) (hM : M ≤ M') : WpIn t M' := ⟨⟨by have := h.A; omega, by have := h.A; omega⟩, ⟨by have := h.B; omega, by have := h.B; omega⟩, ⟨by have := h.C; omega, by have := h.C; omega⟩, ⟨by have := h.D; omega, by have := h.D; omega⟩, ⟨by have := h.E; omega, by have := h.E; omega⟩, ⟨by have := h.F; omega, by have := h.F; omega⟩, ⟨by have := h.Q; omega, by have := h.Q; omega⟩⟩
theorem two_blocks (w : World) (a b : Array Value) : ((w.alloc (.cells a 32)).alloc (.cells b 32)).heap[w.heap.size]? = some (.cells a 32) ∧ ((w.alloc (.cells a 32)).alloc (.cells b 32)).heap[w.heap.size + 1]? = some (.cells b 32) :=
  ⟨(Below.heap_alloc _ _ _ (by simp)).trans (heap_alloc_new w _), heap_alloc2_new w _ _⟩

set_option maxHeartbeats 1600000 in
set_option maxRecDepth 100000 in
theorem normal_calls (w : World) (t : Wp) : Calls Try.prog 17 #[wpV t] w fun e w' => WGives w (wtV (normW t)) e w' := by
  have HC : Hid (∀ W, Calls Try.prog 19 #[.agg #[.int .i64 t.A, .int .i64 t.B, .int .i64 t.C, .int .i64 t.D, .int .i64 t.E, .int .i64 t.F, .int .i64 t.Q]] W fun e w' => e = .returned (.int .i64 (wpErr t)) ∧ Below W.heap.size W w') := (show ∀ W, _ from fun W => check_calls W t)
  have hb0 : Hid (Below w.heap.size w ((w.alloc (.cells #[.int .i64 t.A, .int .i64 t.B, .int .i64 t.C, .int .i64 t.D, .int .i64 t.E, .int .i64 t.F, .int .i64 t.Q] 32)).alloc (.cells #[.int .i64 0, .int .i64 0, .int .i64 0, .int .i64 0, .int .i64 0, .int .i64 0, .int .i64 0] 32))) := (show Below _ _ _ from below_two _ _ _)
  have hblk := Lib.hid (two_blocks w #[.int .i64 t.A, .int .i64 t.B, .int .i64 t.C, .int .i64 t.D, .int .i64 t.E, .int .i64 t.F, .int .i64 t.Q] #[.int .i64 0, .int .i64 0, .int .i64 0, .int .i64 0, .int .i64 0, .int .i64 0, .int .i64 0])
  unfold WGives
  cases hok : wpOk t with
  | false =>
    rw [wpErr_not hok] at HC
    have HF : Hid (normW t = (wpZ, 280)) := (show _ = _ from if_neg (by rw [hok]; decide))
    clear hok
    unfold wpV wpC
    go_enter Try.func17, Try.ntmps17
    go_wp2_with (first
      | (go_at_call 19; refine (HC.out _).mono ?_; rintro e1 w1 ⟨rfl, hb⟩; have HB1 := Lib.hid (ujoin hb0.out hb); have HK2 := Lib.hid ((hb.block _ (Array.getElem?_eq_some_iff.1 hblk.out.2).1).trans hblk.out.2); clear hb)
      | (refine wpList_store_row rfl 32 _ _ rfl (w.heap.size + 1) #[.int .i64 0, .int .i64 0, .int .i64 0, .int .i64 0, .int .i64 0, .int .i64 0, .int .i64 0] rfl rfl 32 _ HK2.out (by kernel_rfl) rfl (by kernel_rfl) ?_))
    refine bodyPost_ret (ret_warp rfl _ _ (w.heap.size + 1) _ rfl (setRow_heap _ _ _ _ _ _ HK2.out) rfl) rfl ?_
    exact ⟨by rw [HF.out]; rfl, wbelow_setRow HB1.out (Nat.le_succ _) _⟩
  | true =>
    rw [wpErr_ok hok] at HC
    have hin := wpOk_in hok
    obtain ⟨r, er⟩ : ∃ r, r = lowW t := ⟨_, rfl⟩
    have HL : Hid (∀ W, Calls Try.prog 58 #[.agg #[.int .i64 t.A, .int .i64 t.B, .int .i64 t.C, .int .i64 t.D, .int .i64 t.E, .int .i64 t.F, .int .i64 t.Q]] W fun e w' => e = .returned (.agg #[.int .i64 r.A, .int .i64 r.B, .int .i64 r.C, .int .i64 r.D, .int .i64 r.E, .int .i64 r.F, .int .i64 r.Q]) ∧ Below W.heap.size W w') := (show ∀ W, _ from fun W => by rw [er]; exact lowest_calls W t (hin.1.more (by decide)) (by omega))
    have HF : Hid (normW t = (r, 0)) := (show _ = _ from by rw [er]; exact if_pos hok)
    clear hok hin er
    unfold wpV wpC
    go_enter Try.func17, Try.ntmps17
    go_wp2_with (first
      | (go_at_call 19; refine (HC.out _).mono ?_; rintro e1 w1 ⟨rfl, hb⟩; have HB1 := Lib.hid (ujoin hb0.out hb); have HK1 := Lib.hid ((hb.block _ (Array.getElem?_eq_some_iff.1 hblk.out.1).1).trans hblk.out.1); have HK2 := Lib.hid ((hb.block _ (Array.getElem?_eq_some_iff.1 hblk.out.2).1).trans hblk.out.2); clear hb)
      | (refine wpList_load_row rfl 32 _ rfl w.heap.size rfl 32 _ (0, 0) _ HK1.out Try.underlying32 rfl (by kernel_rfl) ?_)
      | (go_at_call 58; refine (HL.out _).mono ?_; rintro e1 w2 ⟨rfl, hb⟩; have HB2 := Lib.hid (ujoin HB1.out hb); have HK3 := Lib.hid ((hb.block _ (Array.getElem?_eq_some_iff.1 HK2.out).1).trans HK2.out); clear hb)
      | (refine wpList_store_row rfl 32 _ _ rfl (w.heap.size + 1) #[.int .i64 r.A, .int .i64 r.B, .int .i64 r.C, .int .i64 r.D, .int .i64 r.E, .int .i64 r.F, .int .i64 r.Q] rfl rfl 32 _ HK3.out (by kernel_rfl) rfl (by kernel_rfl) ?_))
    refine bodyPost_ret (ret_warp rfl _ _ (w.heap.size + 1) _ rfl (setRow_heap _ _ _ _ _ _ HK3.out) rfl) rfl ?_
    exact ⟨by rw [HF.out]; rfl, wbelow_setRow HB2.out (Nat.le_succ _) _⟩

theorem mulp (x y : Int) (hx : -16777216 ≤ x ∧ x ≤ 16777216) (hy : -16777216 ≤ y ∧ y ≤ 16777216) : ∃ p, x * y = p ∧ IntKind.i64.wrap (x * y) = p ∧ (-281474976710656 ≤ p ∧ p ≤ 281474976710656) := by
  have h1 : (x * y).natAbs ≤ 16777216 * 16777216 := by
    rw [Int.natAbs_mul]
    exact Nat.mul_le_mul (by omega) (by omega)
  obtain ⟨p, ep⟩ : ∃ p, p = x * y := ⟨_, rfl⟩
  rw [← ep] at h1 ⊢
  exact ⟨p, rfl, IntWalk.i64_in _ (by omega), by omega⟩
def backC (t : Wp) : Wp := ⟨t.E * t.Q, -t.B * t.Q, t.B * t.F - t.E * t.C, -t.D * t.Q, t.A * t.Q, t.D * t.C - t.A * t.F, t.A * t.E - t.B * t.D⟩
def backW (t : Wp) : Wp × Int := if wpOk t then toldW' (backC t) else (wpZ, 280)
set_option maxHeartbeats 3200000 in
set_option maxRecDepth 100000 in
theorem back_calls (w : World) (t : Wp) : Calls Try.prog 23 #[wpV t] w fun e w' => WGives w (wtV (backW t)) e w' := by
  have HC : Hid (∀ W, Calls Try.prog 19 #[.agg #[.int .i64 t.A, .int .i64 t.B, .int .i64 t.C, .int .i64 t.D, .int .i64 t.E, .int .i64 t.F, .int .i64 t.Q]] W fun e w' => e = .returned (.int .i64 (wpErr t)) ∧ Below W.heap.size W w') := (show ∀ W, _ from fun W => check_calls W t)
  have hb0 : Hid (Below w.heap.size w ((w.alloc (.cells #[.int .i64 t.A, .int .i64 t.B, .int .i64 t.C, .int .i64 t.D, .int .i64 t.E, .int .i64 t.F, .int .i64 t.Q] 32)).alloc (.cells #[.int .i64 0, .int .i64 0, .int .i64 0, .int .i64 0, .int .i64 0, .int .i64 0, .int .i64 0] 32))) := (show Below _ _ _ from below_two _ _ _)
  have hblk := Lib.hid (two_blocks w #[.int .i64 t.A, .int .i64 t.B, .int .i64 t.C, .int .i64 t.D, .int .i64 t.E, .int .i64 t.F, .int .i64 t.Q] #[.int .i64 0, .int .i64 0, .int .i64 0, .int .i64 0, .int .i64 0, .int .i64 0, .int .i64 0])
  unfold WGives
  cases hok : wpOk t with
  | false =>
    rw [wpErr_not hok] at HC
    have HF : Hid (backW t = (wpZ, 280)) := (show _ = _ from if_neg (by rw [hok]; decide))
    clear hok
    unfold wpV wpC
    go_enter Try.func23, Try.ntmps23
    go_wp2_with (first
      | (go_at_call 19; refine (HC.out _).mono ?_; rintro e1 w1 ⟨rfl, hb⟩; have HB1 := Lib.hid (ujoin hb0.out hb); have HK2 := Lib.hid ((hb.block _ (Array.getElem?_eq_some_iff.1 hblk.out.2).1).trans hblk.out.2); clear hb)
      | (refine wpList_store_row rfl 32 _ _ rfl (w.heap.size + 1) #[.int .i64 0, .int .i64 0, .int .i64 0, .int .i64 0, .int .i64 0, .int .i64 0, .int .i64 0] rfl rfl 32 _ HK2.out (by kernel_rfl) rfl (by kernel_rfl) ?_))
    refine bodyPost_ret (ret_warp rfl _ _ (w.heap.size + 1) _ rfl (setRow_heap _ _ _ _ _ _ HK2.out) rfl) rfl ?_
    exact ⟨by rw [HF.out]; rfl, wbelow_setRow HB1.out (Nat.le_succ _) _⟩
  | true =>
    rw [wpErr_ok hok] at HC
    obtain ⟨⟨hA, hB, hC, hD, hE, hF, hQ⟩, -, -⟩ := wpOk_in hok
    obtain ⟨p1, e1, M1, b1⟩ := mulp (t.E) (t.Q) (by omega) (by omega)
    obtain ⟨p2, e2, M2, b2⟩ := mulp (-t.B) (t.Q) (by omega) (by omega)
    obtain ⟨p3, e3, M3, b3⟩ := mulp (t.B) (t.F) (by omega) (by omega)
    obtain ⟨p4, e4, M4, b4⟩ := mulp (t.E) (t.C) (by omega) (by omega)
    obtain ⟨p5, e5, M5, b5⟩ := mulp (-t.D) (t.Q) (by omega) (by omega)
    obtain ⟨p6, e6, M6, b6⟩ := mulp (t.A) (t.Q) (by omega) (by omega)
    obtain ⟨p7, e7, M7, b7⟩ := mulp (t.D) (t.C) (by omega) (by omega)
    obtain ⟨p8, e8, M8, b8⟩ := mulp (t.A) (t.F) (by omega) (by omega)
    obtain ⟨p9, e9, M9, b9⟩ := mulp (t.A) (t.E) (by omega) (by omega)
    obtain ⟨p10, e10, M10, b10⟩ := mulp (t.B) (t.D) (by omega) (by omega)
    have hcomp : backC t = ⟨p1, p2, p3 - p4, p5, p6, p7 - p8, p9 - p10⟩ := by unfold backC; rw [e1, e2, e3, e4, e5, e6, e7, e8, e9, e10]
    obtain ⟨x, ex⟩ : ∃ x, x = toldW' (backC t) := ⟨_, rfl⟩
    have HF : Hid (backW t = x) := (show _ = _ from by rw [ex]; exact if_pos hok)
    have HT : Hid (∀ W, Calls Try.prog 62 #[.agg #[.int .i64 p1, .int .i64 p2, .int .i64 (p3 - p4), .int .i64 p5, .int .i64 p6, .int .i64 (p7 - p8), .int .i64 (p9 - p10)]] W fun e w' => e = .returned (wtV x) ∧ Below W.heap.size W w') := (show ∀ W, _ from fun W => by
      rw [ex, hcomp]
      exact told_calls' W ⟨p1, p2, p3 - p4, p5, p6, p7 - p8, p9 - p10⟩ ⟨by dsimp only; omega, by dsimp only; omega, by dsimp only; omega, by dsimp only; omega, by dsimp only; omega, by dsimp only; omega, by dsimp only; omega⟩)
    obtain ⟨r, c⟩ := x
    unfold wtV wpV wpC at HT
    dsimp only at HT
    clear hok ex hcomp e1 e2 e3 e4 e5 e6 e7 e8 e9 e10
    unfold wpV wpC
    go_enter Try.func23, Try.ntmps23
    go_wp2_with (first
      | (go_at_call 19; refine (HC.out _).mono ?_; rintro e1 w1 ⟨rfl, hb⟩; have HB1 := Lib.hid (ujoin hb0.out hb); have HK1 := Lib.hid ((hb.block _ (Array.getElem?_eq_some_iff.1 hblk.out.1).1).trans hblk.out.1); have HK2 := Lib.hid ((hb.block _ (Array.getElem?_eq_some_iff.1 hblk.out.2).1).trans hblk.out.2); have x0 : w1.cell? ⟨w.heap.size, 0, none⟩ = some (.int .i64 t.A) := ucell HK1.out 0; have x1 : w1.cell? ⟨w.heap.size, 1, none⟩ = some (.int .i64 t.B) := ucell HK1.out 1; have x2 : w1.cell? ⟨w.heap.size, 2, none⟩ = some (.int .i64 t.C) := ucell HK1.out 2; have x3 : w1.cell? ⟨w.heap.size, 3, none⟩ = some (.int .i64 t.D) := ucell HK1.out 3; have x4 : w1.cell? ⟨w.heap.size, 4, none⟩ = some (.int .i64 t.E) := ucell HK1.out 4; have x5 : w1.cell? ⟨w.heap.size, 5, none⟩ = some (.int .i64 t.F) := ucell HK1.out 5; have x6 : w1.cell? ⟨w.heap.size, 6, none⟩ = some (.int .i64 t.Q) := ucell HK1.out 6; clear hb)
      | (go_at_call 62; refine (HT.out _).mono ?_; rintro e1 w2 ⟨rfl, hb⟩; have HB2 := Lib.hid (ujoin HB1.out hb); have HK3 := Lib.hid ((hb.block _ (Array.getElem?_eq_some_iff.1 HK2.out).1).trans HK2.out); clear hb)
      | (refine wpList_store_row rfl 32 _ _ rfl (w.heap.size + 1) #[.int .i64 r.A, .int .i64 r.B, .int .i64 r.C, .int .i64 r.D, .int .i64 r.E, .int .i64 r.F, .int .i64 r.Q] rfl rfl 32 _ HK3.out (by kernel_rfl) rfl (by kernel_rfl) ?_))
    refine bodyPost_ret (ret_warp rfl _ _ (w.heap.size + 1) _ rfl (setRow_heap _ _ _ _ _ _ HK3.out) rfl) rfl ?_
    exact ⟨by rw [HF.out]; rfl, wbelow_setRow HB2.out (Nat.le_succ _) _⟩

def thenC (s t : Wp) : Wp := ⟨t.A * s.A + t.B * s.D, t.A * s.B + t.B * s.E, t.A * s.C + t.B * s.F + t.C * s.Q, t.D * s.A + t.E * s.D, t.D * s.B + t.E * s.E, t.D * s.C + t.E * s.F + t.F * s.Q, s.Q * t.Q⟩
def thenW (s t : Wp) : Wp × Int := if wpOk s = true ∧ wpOk t = true then toldW' (thenC s t) else (wpZ, 280)
theorem run_two (s t : Wp) (W : World) : (Instr.index 111 (.agg #[.int .i64 s.A, .int .i64 s.B, .int .i64 s.C, .int .i64 s.D, .int .i64 s.E, .int .i64 s.F, .int .i64 s.Q, .int .i64 t.A, .int .i64 t.B, .int .i64 t.C, .int .i64 t.D, .int .i64 t.E, .int .i64 t.F, .int .i64 t.Q]) (.int .i64 0)).run Try.prog W = .ok (.agg #[.int .i64 s.A, .int .i64 s.B, .int .i64 s.C, .int .i64 s.D, .int .i64 s.E, .int .i64 s.F, .int .i64 s.Q]) W ∧ (Instr.index 111 (.agg #[.int .i64 s.A, .int .i64 s.B, .int .i64 s.C, .int .i64 s.D, .int .i64 s.E, .int .i64 s.F, .int .i64 s.Q, .int .i64 t.A, .int .i64 t.B, .int .i64 t.C, .int .i64 t.D, .int .i64 t.E, .int .i64 t.F, .int .i64 t.Q]) (.int .i64 1)).run Try.prog W = .ok (.agg #[.int .i64 t.A, .int .i64 t.B, .int .i64 t.C, .int .i64 t.D, .int .i64 t.E, .int .i64 t.F, .int .i64 t.Q]) W := by
  constructor <;> kernel_rfl
theorem heap_lt' {W : World} {k : Nat} {o : Obj} (h : W.heap[k]? = some o) : k < W.heap.size := (Array.getElem?_eq_some_iff.1 h).1
theorem three_blocks (w : World) (a b c : Array Value) :
    (((w.alloc (.cells a 32)).alloc (.cells b 32)).alloc (.cells c 32)).heap[w.heap.size]? = some (.cells a 32) ∧
    (((w.alloc (.cells a 32)).alloc (.cells b 32)).alloc (.cells c 32)).heap[w.heap.size + 1]? = some (.cells b 32) ∧
    (((w.alloc (.cells a 32)).alloc (.cells b 32)).alloc (.cells c 32)).heap[w.heap.size + 2]? = some (.cells c 32) ∧
    Below w.heap.size w (((w.alloc (.cells a 32)).alloc (.cells b 32)).alloc (.cells c 32)) := by
  obtain ⟨h1, h2⟩ := two_blocks w a b
  have hs : ((w.alloc (.cells a 32)).alloc (.cells b 32)).heap.size = w.heap.size + 2 := by simp
  have h3 := heap_alloc_new ((w.alloc (.cells a 32)).alloc (.cells b 32)) (.cells c 32)
  rw [hs] at h3
  exact ⟨(Below.heap_alloc _ _ _ (by rw [hs]; omega)).trans h1, (Below.heap_alloc _ _ _ (by rw [hs]; omega)).trans h2, h3, (below_two w _ _).alloc (by rw [hs]; omega) _⟩

set_option maxHeartbeats 3200000 in
set_option maxRecDepth 100000 in
theorem then_calls (w : World) (s t : Wp) : Calls Try.prog 21 #[wpV s, wpV t] w fun e w' => WGives w (wtV (thenW s t)) e w' := by
  have HCS : Hid (∀ W, Calls Try.prog 19 #[.agg #[.int .i64 s.A, .int .i64 s.B, .int .i64 s.C, .int .i64 s.D, .int .i64 s.E, .int .i64 s.F, .int .i64 s.Q]] W fun e w' => e = .returned (.int .i64 (wpErr s)) ∧ Below W.heap.size W w') := (show ∀ W, _ from fun W => check_calls W s)
  have HCT : Hid (∀ W, Calls Try.prog 19 #[.agg #[.int .i64 t.A, .int .i64 t.B, .int .i64 t.C, .int .i64 t.D, .int .i64 t.E, .int .i64 t.F, .int .i64 t.Q]] W fun e w' => e = .returned (.int .i64 (wpErr t)) ∧ Below W.heap.size W w') := (show ∀ W, _ from fun W => check_calls W t)
  have hblk := Lib.hid (three_blocks w #[.int .i64 s.A, .int .i64 s.B, .int .i64 s.C, .int .i64 s.D, .int .i64 s.E, .int .i64 s.F, .int .i64 s.Q] #[.int .i64 t.A, .int .i64 t.B, .int .i64 t.C, .int .i64 t.D, .int .i64 t.E, .int .i64 t.F, .int .i64 t.Q] #[.int .i64 0, .int .i64 0, .int .i64 0, .int .i64 0, .int .i64 0, .int .i64 0, .int .i64 0])
  have hi0 := fun W => (run_two s t W).1
  have hi1 := fun W => (run_two s t W).2
  obtain ⟨W0, eW0⟩ : ∃ W0, W0 = (((w.alloc (.cells #[.int .i64 s.A, .int .i64 s.B, .int .i64 s.C, .int .i64 s.D, .int .i64 s.E, .int .i64 s.F, .int .i64 s.Q] 32)).alloc (.cells #[.int .i64 t.A, .int .i64 t.B, .int .i64 t.C, .int .i64 t.D, .int .i64 t.E, .int .i64 t.F, .int .i64 t.Q] 32)).alloc (.cells #[.int .i64 0, .int .i64 0, .int .i64 0, .int .i64 0, .int .i64 0, .int .i64 0, .int .i64 0] 32)) := ⟨_, rfl⟩
  have EW0 := Lib.hid eW0
  rw [← eW0] at hblk
  clear eW0
  have HB3 := Lib.hid hblk.out.2.2.2
  unfold WGives
  unfold wpV wpC
  go_enter Try.func21, Try.ntmps21
  go_wp2
  rw [← EW0.out]
  clear EW0
  go_loopg [7, 8, 12] 2 (fun kq v7 v8 v12 wr => ∃ k : Nat, v12 = .int .i64 (k : Int) ∧ k ≤ 2 ∧ 2 ≤ k + kq ∧ Hid (0 < k → wpOk s = true) ∧ Hid (1 < k → wpOk t = true) ∧ Aside (Below w.heap.size w wr) ∧ Aside (Below W0.heap.size W0 wr))
  case atStart => exact ⟨0, by first | rfl | go_num, by omega, by omega, fun h => absurd h (by decide), fun h => absurd h (by decide), HB3.out, Below.refl _ _⟩
  case round =>
    obtain ⟨k, rfl, hk, hkq, H1, H2, HB, HS⟩ := hrel
    have HBK : Hid (wr.heap[w.heap.size + 2]? = some (.cells #[.int .i64 0, .int .i64 0, .int .i64 0, .int .i64 0, .int .i64 0, .int .i64 0, .int .i64 0] 32)) := (show _ = _ from (HS.out.block _ (heap_lt' hblk.out.2.2.1)).trans hblk.out.2.2.1)
    rcases (show k = 0 ∨ k = 1 ∨ k = 2 by omega) with rfl | rfl | rfl
    · cases hok : wpOk s with
      | false =>
        as_aux_lemma =>
          have HC1 := HCS
          rw [wpErr_not hok] at HC1
          have HF : Hid (thenW s t = (wpZ, 280)) := (show _ = _ from if_neg (fun h => by rw [hok] at h; exact absurd h.1 (by decide)))
          clear hok
          go_wp2_with (first
            | (go_at_call 19; refine (HC1.out _).mono ?_; rintro e1 w1 ⟨rfl, hb⟩; have HB1 := Lib.hid (ujoin (HB.out.alloc HB.out.size _) hb); have HK2 := Lib.hid ((hb.block (w.heap.size + 2) (by have := heap_lt' HBK.out; simp; omega)).trans ((Below.heap_alloc _ _ _ (heap_lt' HBK.out)).trans HBK.out)); clear hb)
            | (refine wpList_store_row rfl 32 _ _ rfl (w.heap.size + 2) #[.int .i64 0, .int .i64 0, .int .i64 0, .int .i64 0, .int .i64 0, .int .i64 0, .int .i64 0] rfl rfl 32 _ HK2.out (by kernel_rfl) rfl (by kernel_rfl) ?_))
          refine bodyPost_ret (ret_warp rfl _ _ (w.heap.size + 2) _ rfl (setRow_heap _ _ _ _ _ _ HK2.out) rfl) rfl ?_
          exact ⟨by rw [HF.out]; rfl, wbelow_setRow HB1.out (by omega) _⟩
      | true =>
        have HC1 := HCS
        rw [wpErr_ok hok] at HC1
        have HOK2 := Lib.hid hok
        clear hok
        go_wp2_with (go_at_call 19; refine (HC1.out _).mono ?_; rintro e1 w1 ⟨rfl, hb⟩; have HB1 := Lib.hid (ujoin (HB.out.alloc HB.out.size _) hb); have HS1 := Lib.hid (((HS.out.alloc HS.out.size _).trans (hb.mono (by have := HS.out.size; simp; omega)))); clear hb)
        go_roundg (2 - 1)
        case measure => omega
        case rel => exact ⟨1, by first | rfl | go_num, by omega, by omega, fun _ => HOK2.out, fun h => absurd h (by decide), HB1.out, HS1.out⟩
    · cases hok : wpOk t with
      | false =>
        as_aux_lemma =>
          have HC1 := HCT
          rw [wpErr_not hok] at HC1
          have HF : Hid (thenW s t = (wpZ, 280)) := (show _ = _ from if_neg (fun h => by rw [hok] at h; exact absurd h.2 (by decide)))
          clear hok
          go_wp2_with (first
            | (go_at_call 19; refine (HC1.out _).mono ?_; rintro e1 w1 ⟨rfl, hb⟩; have HB1 := Lib.hid (ujoin (HB.out.alloc HB.out.size _) hb); have HK2 := Lib.hid ((hb.block (w.heap.size + 2) (by have := heap_lt' HBK.out; simp; omega)).trans ((Below.heap_alloc _ _ _ (heap_lt' HBK.out)).trans HBK.out)); clear hb)
            | (refine wpList_store_row rfl 32 _ _ rfl (w.heap.size + 2) #[.int .i64 0, .int .i64 0, .int .i64 0, .int .i64 0, .int .i64 0, .int .i64 0, .int .i64 0] rfl rfl 32 _ HK2.out (by kernel_rfl) rfl (by kernel_rfl) ?_))
          refine bodyPost_ret (ret_warp rfl _ _ (w.heap.size + 2) _ rfl (setRow_heap _ _ _ _ _ _ HK2.out) rfl) rfl ?_
          exact ⟨by rw [HF.out]; rfl, wbelow_setRow HB1.out (by omega) _⟩
      | true =>
        have HC1 := HCT
        rw [wpErr_ok hok] at HC1
        have HOK2 := Lib.hid hok
        clear hok
        go_wp2_with (go_at_call 19; refine (HC1.out _).mono ?_; rintro e1 w1 ⟨rfl, hb⟩; have HB1 := Lib.hid (ujoin (HB.out.alloc HB.out.size _) hb); have HS1 := Lib.hid (((HS.out.alloc HS.out.size _).trans (hb.mono (by have := HS.out.size; simp; omega)))); clear hb)
        go_roundg (2 - 2)
        case measure => omega
        case rel => exact ⟨2, by first | rfl | go_num, by omega, by omega, fun _ => H1.out (by decide), fun _ => HOK2.out, HB1.out, HS1.out⟩
    · have HK1 : Hid (wr.heap[w.heap.size]? = some (.cells #[.int .i64 s.A, .int .i64 s.B, .int .i64 s.C, .int .i64 s.D, .int .i64 s.E, .int .i64 s.F, .int .i64 s.Q] 32)) := (show _ = _ from (HS.out.block _ (heap_lt' hblk.out.1)).trans hblk.out.1)
      have HK2 : Hid (wr.heap[w.heap.size + 1]? = some (.cells #[.int .i64 t.A, .int .i64 t.B, .int .i64 t.C, .int .i64 t.D, .int .i64 t.E, .int .i64 t.F, .int .i64 t.Q] 32)) := (show _ = _ from (HS.out.block _ (heap_lt' hblk.out.2.1)).trans hblk.out.2.1)
      have hos := H1.out (by decide)
      have hot := H2.out (by decide)
      obtain ⟨⟨hA, hB, hC, hD, hE, hF, hQ⟩, -, -⟩ := wpOk_in hos
      obtain ⟨⟨gA, gB, gC, gD, gE, gF, gQ⟩, -, -⟩ := wpOk_in hot
      obtain ⟨p1, e1, M1, b1⟩ := mulp (t.A) (s.A) (by omega) (by omega)
      obtain ⟨p2, e2, M2, b2⟩ := mulp (t.B) (s.D) (by omega) (by omega)
      obtain ⟨p3, e3, M3, b3⟩ := mulp (t.A) (s.B) (by omega) (by omega)
      obtain ⟨p4, e4, M4, b4⟩ := mulp (t.B) (s.E) (by omega) (by omega)
      obtain ⟨p5, e5, M5, b5⟩ := mulp (t.A) (s.C) (by omega) (by omega)
      obtain ⟨p6, e6, M6, b6⟩ := mulp (t.B) (s.F) (by omega) (by omega)
      obtain ⟨p7, e7, M7, b7⟩ := mulp (t.C) (s.Q) (by omega) (by omega)
      obtain ⟨p8, e8, M8, b8⟩ := mulp (t.D) (s.A) (by omega) (by omega)
      obtain ⟨p9, e9, M9, b9⟩ := mulp (t.E) (s.D) (by omega) (by omega)
      obtain ⟨p10, e10, M10, b10⟩ := mulp (t.D) (s.B) (by omega) (by omega)
      obtain ⟨p11, e11, M11, b11⟩ := mulp (t.E) (s.E) (by omega) (by omega)
      obtain ⟨p12, e12, M12, b12⟩ := mulp (t.D) (s.C) (by omega) (by omega)
      obtain ⟨p13, e13, M13, b13⟩ := mulp (t.E) (s.F) (by omega) (by omega)
      obtain ⟨p14, e14, M14, b14⟩ := mulp (t.F) (s.Q) (by omega) (by omega)
      obtain ⟨p15, e15, M15, b15⟩ := mulp (s.Q) (t.Q) (by omega) (by omega)
      have hcomp : thenC s t = ⟨p1 + p2, p3 + p4, p5 + p6 + p7, p8 + p9, p10 + p11, p12 + p13 + p14, p15⟩ := by unfold thenC; rw [e1, e2, e3, e4, e5, e6, e7, e8, e9, e10, e11, e12, e13, e14, e15]
      obtain ⟨x, ex⟩ : ∃ x, x = toldW' (thenC s t) := ⟨_, rfl⟩
      have HF : Hid (thenW s t = x) := (show _ = _ from by rw [ex]; exact if_pos ⟨hos, hot⟩)
      have HT : Hid (∀ W, Calls Try.prog 62 #[.agg #[.int .i64 (p1 + p2), .int .i64 (p3 + p4), .int .i64 (p5 + p6 + p7), .int .i64 (p8 + p9), .int .i64 (p10 + p11), .int .i64 (p12 + p13 + p14), .int .i64 (p15)]] W fun e w' => e = .returned (wtV x) ∧ Below W.heap.size W w') := (show ∀ W, _ from fun W => by
        rw [ex, hcomp]
        exact told_calls' W ⟨p1 + p2, p3 + p4, p5 + p6 + p7, p8 + p9, p10 + p11, p12 + p13 + p14, p15⟩ ⟨by dsimp only; omega, by dsimp only; omega, by dsimp only; omega, by dsimp only; omega, by dsimp only; omega, by dsimp only; omega, by dsimp only; omega⟩)
      obtain ⟨r, c⟩ := x
      unfold wtV wpV wpC at HT
      dsimp only at HT
      clear hos hot ex hcomp e1 e2 e3 e4 e5 e6 e7 e8 e9 e10 e11 e12 e13 e14 e15 HCS HCT hi0 hi1 H1 H2 hblk
      have x0 : wr.cell? ⟨w.heap.size, 0, none⟩ = some (.int .i64 s.A) := ucell HK1.out 0
      have x1 : wr.cell? ⟨w.heap.size, 1, none⟩ = some (.int .i64 s.B) := ucell HK1.out 1
      have x2 : wr.cell? ⟨w.heap.size, 2, none⟩ = some (.int .i64 s.C) := ucell HK1.out 2
      have x3 : wr.cell? ⟨w.heap.size, 3, none⟩ = some (.int .i64 s.D) := ucell HK1.out 3
      have x4 : wr.cell? ⟨w.heap.size, 4, none⟩ = some (.int .i64 s.E) := ucell HK1.out 4
      have x5 : wr.cell? ⟨w.heap.size, 5, none⟩ = some (.int .i64 s.F) := ucell HK1.out 5
      have x6 : wr.cell? ⟨w.heap.size, 6, none⟩ = some (.int .i64 s.Q) := ucell HK1.out 6
      have y0 : wr.cell? ⟨w.heap.size + 1, 0, none⟩ = some (.int .i64 t.A) := ucell HK2.out 0
      have y1 : wr.cell? ⟨w.heap.size + 1, 1, none⟩ = some (.int .i64 t.B) := ucell HK2.out 1
      have y2 : wr.cell? ⟨w.heap.size + 1, 2, none⟩ = some (.int .i64 t.C) := ucell HK2.out 2
      have y3 : wr.cell? ⟨w.heap.size + 1, 3, none⟩ = some (.int .i64 t.D) := ucell HK2.out 3
      have y4 : wr.cell? ⟨w.heap.size + 1, 4, none⟩ = some (.int .i64 t.E) := ucell HK2.out 4
      have y5 : wr.cell? ⟨w.heap.size + 1, 5, none⟩ = some (.int .i64 t.F) := ucell HK2.out 5
      have y6 : wr.cell? ⟨w.heap.size + 1, 6, none⟩ = some (.int .i64 t.Q) := ucell HK2.out 6
      go_wp2_with (first
        | (go_at_call 62; refine (HT.out _).mono ?_; rintro e1 w2 ⟨rfl, hb⟩; have HB2 := Lib.hid (ujoin HB.out hb); have HK3 := Lib.hid ((hb.block _ (heap_lt' HBK.out)).trans HBK.out); clear hb)
        | (refine wpList_store_row rfl 32 _ _ rfl (w.heap.size + 2) #[.int .i64 r.A, .int .i64 r.B, .int .i64 r.C, .int .i64 r.D, .int .i64 r.E, .int .i64 r.F, .int .i64 r.Q] rfl rfl 32 _ HK3.out (by kernel_rfl) rfl (by kernel_rfl) ?_))
      refine bodyPost_ret (ret_warp rfl _ _ (w.heap.size + 2) _ rfl (setRow_heap _ _ _ _ _ _ HK3.out) rfl) rfl ?_
      exact ⟨by rw [HF.out]; rfl, wbelow_setRow HB2.out (by omega) _⟩
end Go.Proofs.Ytdcpeeolfgohmaa
