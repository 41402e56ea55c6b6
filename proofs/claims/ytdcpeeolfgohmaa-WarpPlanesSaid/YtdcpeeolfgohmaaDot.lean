/- Products and quotients of machine floats; sums.Dot64. sums.Dot. -/
import Derived.Test.YtdcpeeolfgohmaaSumM
import Derived.Laws.Cover2
import Derived.Deep.RegionHeld3
namespace Go.Proofs.Ytdcpeeolfgohmaa
open Go.RowKit Go.Proofs.YtdcpeeolfgohmaaW.PrintWords
set_option linter.unusedSimpArgs false
set_option linter.unusedVariables false

def prodD (d1 d2 : Ieee.Datum) : Ieee.Datum := (d1.product d2).getD (.nan false 0)
def quotD (d1 d2 : Ieee.Datum) : Ieee.Datum := (d1.quotient 54 d2).getD (.nan false 0)
def mul64 (a b : Nat) : Nat := told64 (prodD (rd64 a) (rd64 b))
def div64 (a b : Nat) : Nat := told64 (quotD (rd64 a) (rd64 b))
theorem mul64_lt (a b : Nat) : mul64 a b < 18446744073709551616 := told64_lt _
theorem div64_lt (a b : Nat) : div64 a b < 18446744073709551616 := told64_lt _
theorem prod_not_nan {a b d : Ieee.Datum} (h : a.product b = some d) : d.isNaN = false := by
  cases a <;> cases b <;> simp only [Ieee.Datum.product] at h
  all_goals first
    | (cases h; done)
    | (injection h with h; subst h; rfl)
    | (split at h
       · cases h
       · injection h with h; subst h; rfl)
theorem quot_not_nan {a b d : Ieee.Datum} {k : Nat} (h : a.quotient k b = some d) : d.isNaN = false := by
  cases a <;> cases b <;> simp only [Ieee.Datum.quotient] at h
  all_goals first
    | (cases h; done)
    | (injection h with h; subst h; rfl)
    | (split at h
       · split at h
         · cases h
         · injection h with h; subst h; rfl
       · injection h with h; subst h; rfl)
theorem fmul64_some {a b r : Nat} (h : FloatKind.f64.format.mul a b = some r) : mul64 a b = r ∧ (rd64 r).isNaN = false := by
  have h' : ((rd64 a).product (rd64 b)).map (fmt 52 11).write = some r := h
  cases hs : (rd64 a).product (rd64 b) with
  | none => rw [hs] at h'; cases h'
  | some d =>
    rw [hs] at h'
    injection h' with h'
    have hd := prod_not_nan hs
    unfold mul64 prodD
    rw [hs, Option.getD_some]
    exact ⟨(told_write 52 11 2047 hd).trans h', by rw [← h']; exact write_not_nan 52 11 1075 2047 isF64 d hd⟩
theorem fmul64_none {a b : Nat} (h : FloatKind.f64.format.mul a b = none) : mul64 a b = 9221120237041090560 := by
  have h' : ((rd64 a).product (rd64 b)).map (fmt 52 11).write = none := h
  cases hs : (rd64 a).product (rd64 b) with
  | some d => rw [hs] at h'; cases h'
  | none => unfold mul64 prodD; rw [hs]; rfl
theorem fdiv64_some {a b r : Nat} (h : FloatKind.f64.format.div a b = some r) : div64 a b = r ∧ (rd64 r).isNaN = false := by
  have h' : ((rd64 a).quotient 54 (rd64 b)).map (fmt 52 11).write = some r := h
  cases hs : (rd64 a).quotient 54 (rd64 b) with
  | none => rw [hs] at h'; cases h'
  | some d =>
    rw [hs] at h'
    injection h' with h'
    have hd := quot_not_nan hs
    unfold div64 quotD
    rw [hs, Option.getD_some]
    exact ⟨(told_write 52 11 2047 hd).trans h', by rw [← h']; exact write_not_nan 52 11 1075 2047 isF64 d hd⟩
theorem fdiv64_none {a b : Nat} (h : FloatKind.f64.format.div a b = none) : div64 a b = 9221120237041090560 := by
  have h' : ((rd64 a).quotient 54 (rd64 b)).map (fmt 52 11).write = none := h
  cases hs : (rd64 a).quotient 54 (rd64 b) with
  | some d => rw [hs] at h'; cases h'
  | none => unfold div64 quotD; rw [hs]; rfl
theorem fmul64_run (a b : Nat) (t : TypeId) (w : World) : ∃ r w', (binOp .mul t (.float .f64 a) (.float .f64 b)).run Try.prog w = .ok (.float .f64 r) w' ∧ canon64 r = mul64 a b ∧ r < 18446744073709551616 ∧ Drawn0 w w' := by
  cases h : FloatKind.f64.format.mul a b with
  | some r =>
    obtain ⟨h1, h2⟩ := fmul64_some h
    exact ⟨r, w, by simp [binOp, Op.floatArith, h], by rw [canon64_num h2, h1], by rw [← h1]; exact mul64_lt a b, Drawn0.refl _⟩
  | none =>
    obtain ⟨h1, h2⟩ := nan_word64 (w.tape w.drawn (.nanBits .f64 a b))
    exact ⟨_, w.drew, by simp [binOp, Op.floatArith, h, Question.forced]; rfl, by rw [canon64_nan h1, fmul64_none h], h2, Drawn0.mk ⟨1, rfl⟩⟩
theorem fdiv64_run (a b : Nat) (t : TypeId) (w : World) : ∃ r w', (binOp .quo t (.float .f64 a) (.float .f64 b)).run Try.prog w = .ok (.float .f64 r) w' ∧ canon64 r = div64 a b ∧ r < 18446744073709551616 ∧ Drawn0 w w' := by
  cases h : FloatKind.f64.format.div a b with
  | some r =>
    obtain ⟨h1, h2⟩ := fdiv64_some h
    exact ⟨r, w, by simp [binOp, Op.floatArith, h], by rw [canon64_num h2, h1], by rw [← h1]; exact div64_lt a b, Drawn0.refl _⟩
  | none =>
    obtain ⟨h1, h2⟩ := nan_word64 (w.tape w.drawn (.nanBits .f64 a b))
    exact ⟨_, w.drew, by simp [binOp, Op.floatArith, h, Question.forced]; rfl, by rw [canon64_nan h1, fdiv64_none h], h2, Drawn0.mk ⟨1, rfl⟩⟩
theorem add64_canon2 (b r : Nat) : add64 b (canon64 r) = add64 b r := by
  cases hn : (rd64 r).isNaN with
  | true =>
    rw [canon64_nan hn]
    have h1 : ∀ q, (rd64 q).isNaN = true → add64 b q = 9221120237041090560 := fun q hq => by
      unfold add64
      cases h : rd64 q with
      | nan s t => cases rd64 b <;> rfl
      | infinity s => rw [h] at hq; cases hq
      | number s m p => rw [h] at hq; cases hq
    rw [h1 r hn, h1 9221120237041090560 (by decide +kernel)]
  | false => rw [canon64_num hn]

/-- A whole number as a binary64. -/
def flt64 (n : Int) : Nat := floatOfInt .f64 n
def dots (y : Nat → Int) (x : Nat → Nat) : Nat → Nat
  | 0 => mul64 (flt64 (y 0)) (wide64 (x 0))
  | k + 1 => add64 (dots y x k) (mul64 (flt64 (y (k + 1))) (wide64 (x (k + 1))))
def dotOf64 (y : Nat → Int) (x : Nat → Nat) (n : Nat) : Nat := if n = 0 then 0 else dots y x (n - 1)
theorem dotOf64_succ (y : Nat → Int) (x : Nat → Nat) (k : Nat) : dotOf64 y x (k + 1) = dots y x k := rfl
/-- Rows of whole numbers that are read. -/
def RowZ (w : World) (A : Option Addr) (n : Nat) (x : Nat → Int) : Prop := 1 ≤ n → ∃ ad, A = some ad ∧ ∀ i, i < n → w.cell? (ad.add i) = some (.int .i64 (x i))
theorem RowZ.below {w w1 : World} {A : Option Addr} {n : Nat} {x : Nat → Int} (h : RowZ w A n x) (hb : Below w.heap.size w w1) : RowZ w1 A n x := fun hn => by
  obtain ⟨ad, e, hc⟩ := h hn
  exact ⟨ad, e, fun i hi => by rw [hb.cell (World.block_lt_of_cell? _ _ (hc i hi)), hc i hi]⟩

theorem u_addS (ad : Addr) (i : Nat) : ad.add (i + 1) = ⟨ad.block, ad.off + (i + 1), none⟩ := by
  unfold Addr.add
  rw [if_neg (by omega)]
theorem keepD {w W W' : World} {p q : Addr} {x y : Value} (hb : Below W.heap.size W W') (h : W.cell? p = some x ∧ W.cell? q = some y ∧ Below w.heap.size w W) : W'.cell? p = some x ∧ W'.cell? q = some y ∧ Below w.heap.size w W' :=
  ⟨(hb.cell (World.block_lt_of_cell? _ _ h.1)).trans h.1, (hb.cell (World.block_lt_of_cell? _ _ h.2.1)).trans h.2.1, ujoin h.2.2 hb⟩

set_option maxHeartbeats 1600000 in
set_option maxRecDepth 100000 in
theorem pDot64_short (w : World) (A B : Option Addr) (n m c d : Nat) (hne : n ≠ m) (hn : n ≤ 4611686018427387904) (hm : m ≤ 4611686018427387904) :
    Calls Try.prog 112 #[.slice A n c, .slice B m d] w fun e w' => e = .returned (.tuple #[.int .u64 0, .int .i64 30]) ∧ w = w' := by
  have hb : ((n : Int) != (m : Int)) = true := by rw [bne_iff_ne]; omega
  clear hne
  go_enter Try.func112, Try.ntmps112
  go_wp2
  go_ret2
  exact ⟨rfl, rfl⟩

/-- Weights that are none: one is too great. -/
def BadWeight (y : Nat → Int) (n : Nat) : Prop := ∃ k, k < n ∧ (268435456 < y k ∨ y k < -268435456)

set_option maxHeartbeats 3200000 in
set_option maxRecDepth 100000 in
theorem pDot64_calls (w : World) (A B : Option Addr) (n c d : Nat) (y : Nat → Int) (x : Nat → Nat) (hy : RowZ w A n y) (hr : RowU w B n x) (hc : n ≤ c) (hd : n ≤ d) (hn : n ≤ 1000000000) (hx : ∀ k, k < n → x k < 4294967296) (hg : ∀ k, k < n → -268435456 ≤ y k ∧ y k ≤ 268435456) :
    Calls Try.prog 112 #[.slice A n c, .slice B n d] w fun e w' => Gives w (.tuple #[.int .u64 ((dotOf64 y x n : Nat) : Int), .int .i64 0]) e w' := by
  have HX := Lib.hid hx
  have HR := Lib.hid hr
  have HY := Lib.hid hy
  have HG := Lib.hid hg
  clear hx hr hy hg
  have hb : ((n : Int) != (n : Int)) = false := by rw [bne_eq_false_iff_eq]
  rcases Nat.eq_zero_or_pos n with h0 | h0
  · subst h0
    go_enter Try.func112, Try.ntmps112
    go_wp2
    go_loopg [19] 0 (fun kq v19 wr => v19 = .int .i64 0 ∧ wr = w)
    case atStart => exact ⟨by first | rfl | go_num, rfl⟩
    case round =>
      obtain ⟨rfl, rfl⟩ := hrel
      go_wp2
      go_ret2
      exact ⟨rfl, Below.refl _ _⟩
  · obtain ⟨m, rfl⟩ : ∃ m, n = m + 1 := ⟨n - 1, by omega⟩
    rw [dotOf64_succ]
    obtain ⟨ad, rfl, hca⟩ := HR.out (by omega)
    obtain ⟨ay, rfl, hcy⟩ := HY.out (by omega)
    have HC := Lib.hid hca
    have HCY := Lib.hid hcy
    clear hca hcy
    have hz : (((m + 1 : Nat) : Int) == 0) = false := by rw [beq_eq_false_iff_ne]; omega
    have hm : (0 : Int) < ((m + 1 : Nat) : Int) := by omega
    go_enter Try.func112, Try.ntmps112
    go_wp2
    go_loopg [19] (m + 1) (fun kq v19 wr => ∃ k : Nat, v19 = .int .i64 (k : Int) ∧ k ≤ m + 1 ∧ m + 1 ≤ k + kq ∧ wr = w)
    case atStart => exact ⟨0, by first | rfl | go_num, by omega, by omega, rfl⟩
    case round =>
      obtain ⟨k, rfl, hk, hkq, rfl⟩ := hrel
      by_cases hlt : k < m + 1
      · have hltz : (k : Int) < ((m + 1 : Nat) : Int) := by omega
        have hk0 : (0 : Int) ≤ (k : Int) := by omega
        have c1 := HCY.out k hlt
        obtain ⟨g1, g2⟩ := HG.out k hlt
        obtain ⟨v, ev⟩ : ∃ v, v = y k := ⟨_, rfl⟩
        rw [← ev] at c1 g1 g2
        have t1 : ¬ (268435456 : Int) < v := by omega
        have t2 : ¬ v < -268435456 := by omega
        clear ev
        go_wp2
        go_roundg (m + 1 - (k + 1))
        case measure => omega
        case rel => exact ⟨k + 1, by go_num, by omega, by omega, rfl⟩
      · have hltz : ¬ (k : Int) < ((m + 1 : Nat) : Int) := by omega
        clear hlt hk hkq
        obtain ⟨wz, rfl⟩ : ∃ wz : World, wz = wr := ⟨_, rfl⟩
        have C0 := HC.out 0 (by omega)
        have Y0 := HCY.out 0 (by omega)
        rw [u_add0] at C0 Y0
        obtain ⟨a, ea⟩ : ∃ a, a = x 0 := ⟨_, rfl⟩
        obtain ⟨v, ev⟩ : ∃ v, v = y 0 := ⟨_, rfl⟩
        rw [← ea] at C0
        rw [← ev] at Y0
        have ha : a < 4294967296 := by rw [ea]; exact HX.out 0 (by omega)
        have HW := Lib.hid fun W => swide_calls a ha W
        have HM := Lib.hid fun W => fmul64_run (flt64 v) (wide64 a) 68 W
        have ES : Hid (mul64 (flt64 v) (wide64 a) = dots y x 0) := (show _ = _ by rw [ea, ev]; rfl)
        unfold flt64 at HM
        obtain ⟨wd, ew⟩ : ∃ wd, wd = wide64 a := ⟨_, rfl⟩
        rw [← ew] at ES HM HW
        clear ea ev ew ha
        go_upto_region 11 with (fail)
        clear hltz
        go_cut [8] (fun v8 wc => ∃ r : Nat, v8 = .float .f64 r ∧ Hid (canon64 r = dots y x 0) ∧ Aside (Below wz.heap.size wz wc))
        case first =>
          go_region_with ((go_at_call 143; refine (HW.out _).mono ?_; rintro e1 w1 ⟨rfl, hbel⟩; have Y1 : w1.cell? ay = some (.int .i64 v) := (hbel.cell (p := ay) (World.block_lt_of_cell? _ _ Y0)).trans Y0; obtain ⟨r2, w2, hrun, hc2, hlt2, hd2⟩ := HM.out w1; have HC2 := Lib.hid hc2; have HD2 := Lib.hid (ujoin (ujoin (show Drawn0 wz wz.drew from Drawn0.mk ⟨1, rfl⟩).below hbel) hd2.below); clear hc2 hd2 hlt2 hbel))
          all_goals
            go_wp2
            go_meet
            case rel => exact ⟨r2, rfl, (show _ = _ from HC2.out.trans ES.out), HD2.out⟩
        case rest =>
        obtain ⟨r, rfl, HC2, HB2⟩ := hcut
        clear HM HW ES Y0 C0
        go_wp2
        all_goals
          go_loopg [8, 45] m (fun kq v8 v45 wr => ∃ k r : Nat, v8 = .float .f64 r ∧ v45 = .int .i64 (k : Int) ∧ Hid (canon64 r = dots y x k) ∧ k ≤ m ∧ m ≤ k + kq ∧ Aside (Below wz.heap.size wz wr))
          case atStart => exact ⟨0, r, rfl, by first | rfl | go_num, HC2, by omega, by omega, HB2.out⟩
          case round =>
            obtain ⟨k, r, rfl, rfl, EV, hk, hkq, HB⟩ := hrel
            by_cases hlt : k < m
            · have hltz : (k : Int) < (m : Int) := by omega
              have hk0 : (0 : Int) ≤ (k : Int) := by omega
              have c1 := HC.out (k + 1) (by omega)
              have c2 := HB.out.cell (World.block_lt_of_cell? _ _ c1)
              obtain ⟨a, ea⟩ : ∃ a, a = x (k + 1) := ⟨_, rfl⟩
              have ha : a < 4294967296 := by rw [ea]; exact HX.out (k + 1) (by omega)
              rw [c1, ← ea, u_add1] at c2
              have y1 := HCY.out (k + 1) (by omega)
              have y2 := HB.out.cell (World.block_lt_of_cell? _ _ y1)
              obtain ⟨v, ev⟩ : ∃ v, v = y (k + 1) := ⟨_, rfl⟩
              rw [y1, ← ev, u_addS] at y2
              have g1 : (0 : Int) ≤ (k : Int) + 1 := by omega
              have g2 : (k : Int) + 1 < (m : Int) + 1 := by omega
              have HW := Lib.hid fun W => swide_calls a ha W
              have HM := Lib.hid fun W => fmul64_run (flt64 v) (wide64 a) 68 W
              have EM : Hid (∀ p q, canon64 p = mul64 (flt64 v) (wide64 a) → canon64 q = add64 r p → canon64 q = dots y x (k + 1)) := (show ∀ p q, _ → _ → _ from fun p q h1 h2 => by
                rw [dots, h2, ← EV.out, add64_canon, ← ev, ← ea, ← h1, add64_canon2])
              unfold flt64 at HM EM
              obtain ⟨wd, ew⟩ : ∃ wd, wd = wide64 a := ⟨_, rfl⟩
              rw [← ew] at EM HM HW
              have HA := Lib.hid fun p W => fadd64_run r p 68 W
              have W1 : IntKind.i64.wrap ((k : Int) + 1) = (k : Int) + 1 := IntWalk.i64_in _ (by omega)
              clear ea ev ew ha c1 y1 EV
              first
              | (exfalso; omega)
              | (go_upto_region 15 with (fail)
                 clear hltz
                 go_cut [11] (fun v11 wc => ∃ p : Nat, v11 = .float .f64 p ∧ Hid (canon64 p = mul64 (floatOfInt .f64 v) wd) ∧ Aside (Below wz.heap.size wz wc))
                 case first =>
                   go_region_with ((go_at_call 143; refine (HW.out _).mono ?_; rintro e1 w1 ⟨rfl, hbel⟩; have Y1 : w1.cell? ⟨ay.block, ay.off + (k + 1), none⟩ = some (.int .i64 v) := (hbel.cell (p := ⟨ay.block, ay.off + (k + 1), none⟩) (World.block_lt_of_cell? _ _ y2)).trans y2; obtain ⟨r2, w2, hrun, hc2, hlt2, hd2⟩ := HM.out w1; have HC2 := Lib.hid hc2; have HD2 := Lib.hid (ujoin HB.out (ujoin (ujoin (show Drawn0 wr wr.drew from Drawn0.mk ⟨1, rfl⟩).below hbel) hd2.below)); clear hc2 hd2 hlt2 hbel))
                   all_goals
                     go_wp2
                     go_meet
                     case rel => exact ⟨r2, rfl, HC2, HD2.out⟩
                 case rest =>
                 obtain ⟨p, rfl, HP, HB4⟩ := hcut
                 rename_i wc
                 obtain ⟨r3, w3, hrun, hc3, hlt3, hd3⟩ := HA.out p wc
                 have HE := Lib.hid (EM.out _ _ HP.out hc3)
                 have HB5 := Lib.hid (ujoin HB4.out hd3.below)
                 clear hc3 hd3 hlt3 HP HB4 EM HA HM HW c2 y2 HB
                 go_wp2
                 go_roundg (m - (k + 1))
                 case measure => omega
                 case rel => exact ⟨k + 1, r3, rfl, by go_num, HE, by omega, by omega, HB5.out⟩)
            · have hltz : ¬ (k : Int) < (m : Int) := by omega
              have e : k = m := by omega
              rw [e] at EV
              have HT := Lib.hid fun W => told64_calls r W
              rw [EV.out] at HT
              clear e
              go_wp2_with (go_at_call 114; with_reducible refine (HT.out _).mono ?_; rintro e2 w2 ⟨rfl, rfl⟩)
              go_ret2
              exact ⟨rfl, HB.out⟩

/-- The bits of 65536 as a binary64. -/
def k65536 : Nat := 4679240012837945344
def dotB (y : Nat → Int) (x : Nat → Nat) (n : Nat) : Nat := div64 (dotOf64 y x n) k65536
def dotOf (y : Nat → Int) (x : Nat → Nat) (n : Nat) : Nat := told32 (rd64 (dotB y x n))

set_option maxHeartbeats 1600000 in
set_option maxRecDepth 100000 in
theorem pDot_calls (w : World) (A B : Option Addr) (n c d : Nat) (y : Nat → Int) (x : Nat → Nat) (hy : RowZ w A n y) (hr : RowU w B n x) (hc : n ≤ c) (hd : n ≤ d) (hn : n ≤ 1000000000) (hx : ∀ k, k < n → x k < 4294967296) (hg : ∀ k, k < n → -268435456 ≤ y k ∧ y k ≤ 268435456) (hok : NarrowOk (dotB y x n)) :
    Calls Try.prog 73 #[.slice A n c, .slice B n d] w fun e w' => Gives w (.tuple #[.int .u32 ((dotOf y x n : Nat) : Int), .int .i64 0]) e w' := by
  have HD := Lib.hid (pDot64_calls w A B n c d y x hy hr hc hd hn hx hg)
  have HV := Lib.hid fun W => fdiv64_run (dotOf64 y x n) k65536 68 W
  have HFB := fun W => run_frombits64 (dotOf64 y x n) W
  have HT := Lib.hid fun r W => told64_calls r W
  have HN := Lib.hid fun W => pNarrow_calls (dotB y x n) hok W
  have EB : Hid (div64 (dotOf64 y x n) k65536 = dotB y x n) := (show _ = _ from rfl)
  rw [EB.out] at HV
  unfold k65536 at HV
  obtain ⟨s, es⟩ : ∃ s, s = dotOf64 y x n := ⟨_, rfl⟩
  rw [← es] at HD HV HFB
  obtain ⟨b, eb⟩ : ∃ b, b = dotB y x n := ⟨_, rfl⟩
  rw [← eb] at HV HN
  have ER : Hid (told32 (rd64 b) = dotOf y x n) := (show _ = _ by rw [eb]; rfl)
  obtain ⟨v, ev⟩ : ∃ v, v = told32 (rd64 b) := ⟨_, rfl⟩
  rw [← ev] at ER HN
  rw [← ER.out]
  clear hy hr hx hg hok EB es eb ev ER
  go_enter Try.func73, Try.ntmps73
  go_wp2_with (first
    | (go_at_call 112; refine HD.out.mono ?_; rintro e1 w1 ⟨rfl, hbel⟩; have HB1 := Lib.hid hbel; obtain ⟨r, w2, hrun, hc2, hlt2, hd2⟩ := HV.out w1; have HC2 := Lib.hid hc2; have HB2 := Lib.hid (ujoin HB1.out hd2.below); clear hbel hc2 hlt2 hd2)
    | (go_at_call 114; with_reducible refine (HT.out _ _).mono ?_; rintro e2 w3 ⟨rfl, rfl⟩; rw [HC2.out])
    | (go_at_call 113; refine (HN.out _).mono ?_; rintro e2 w4 ⟨rfl, hd4⟩; have HB4 := Lib.hid (ujoin HB2.out hd4.below); clear hd4))
  go_ret2
  exact ⟨rfl, HB4.out⟩
end Go.Proofs.Ytdcpeeolfgohmaa
