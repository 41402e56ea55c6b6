/- halideref2.PlusNum of anything; bits, num, Add, Sub, Wide, IsNaN. -/
import Derived.Test.YtmeifciagepmpaaPlusB
import Derived.Laws.FloatBits
namespace Go.Proofs.Ytmeifciagepmpaa
open Go.RowKit Go.Proofs.YtmeifciagepmpaaW.PrintWords
set_option linter.unusedSimpArgs false
set_option linter.unusedVariables false

theorem keep6 {w0 W W' : World} {p0 p1 p2 p3 p4 : Addr} {u0 u1 u2 u3 u4 : Value} (hb : Below W.heap.size W W')
    (h : W.cell? p0 = some u0 ∧ W.cell? p1 = some u1 ∧ W.cell? p2 = some u2 ∧ W.cell? p3 = some u3 ∧ W.cell? p4 = some u4 ∧ Below w0.heap.size w0 W) :
    W'.cell? p0 = some u0 ∧ W'.cell? p1 = some u1 ∧ W'.cell? p2 = some u2 ∧ W'.cell? p3 = some u3 ∧ W'.cell? p4 = some u4 ∧ Below w0.heap.size w0 W' := by
  have kp : ∀ {p : Addr} {v : Value}, W.cell? p = some v → W'.cell? p = some v := fun h => (hb.cell (World.block_lt_of_cell? _ _ h)).trans h
  obtain ⟨a, b, c, d, e, l⟩ := h
  exact ⟨kp a, kp b, kp c, kp d, kp e, ujoin l hb⟩
theorem plusNum_calls (d1 d2 : Ieee.Datum) (u1 u2 : Value) (w : World) (h1 : NumAt w u1 d1) (h2 : NumAt w u2 d2) (s1 : Small d1) (s2 : Small d2) :
    Calls Try.prog 90 #[u1, u2] w fun e w' => NumEnd w (plusD d1 d2) e w' := by
  have nan : ∀ {e : Ending} {w' : World}, Gives w (numV 0 false none 0 0 0 false) e w' → ∀ d, plusD d1 d2 = d → d = .nan false 0 → NumEnd w (plusD d1 d2) e w' := fun h d hd he => ⟨_, h.1, by rw [hd, he]; exact ⟨_, _, _, _, _, _, rfl⟩, h.2⟩
  cases d1 with
  | nan s t =>
    obtain ⟨s', A, n, c, e, b, rfl⟩ := h1
    obtain ⟨k2, s2', A2, n2, c2, e2, b2, rfl⟩ := h2.form
    exact (plus_nan1 s' A n c e b k2 s2' A2 n2 c2 e2 b2 w trivial).mono fun e w' h => nan h _ rfl rfl
  | infinity s =>
    obtain ⟨A, n, c, e, b, rfl⟩ := h1
    cases d2 with
    | nan s2 t =>
      obtain ⟨s2', A2, n2, c2, e2, b2, rfl⟩ := h2
      exact (plus_nan2 s A n c e b s2' A2 n2 c2 e2 b2 w trivial).mono fun e w' h => nan h _ rfl rfl
    | infinity t =>
      obtain ⟨A2, n2, c2, e2, b2, rfl⟩ := h2
      by_cases hst : s = t
      · have e0 : plusD (.infinity s) (.infinity t) = .infinity s := by unfold plusD Ieee.Datum.sum; simp only [if_pos hst]; rfl
        exact (plus_inf1 s A n c e b t A2 n2 c2 e2 b2 w (by rw [hst]; exact bne_self_eq_false _)).mono fun e w' h => ⟨_, h.1, by rw [e0]; exact ⟨_, _, _, _, _, rfl⟩, h.2⟩
      · have e0 : plusD (.infinity s) (.infinity t) = .nan false 0 := by unfold plusD Ieee.Datum.sum; simp only [if_neg hst]; rfl
        exact (plus_infs s A n c e b t A2 n2 c2 e2 b2 w (bne_iff_ne.2 hst)).mono fun e w' h => nan h _ rfl e0
    | number t m p =>
      obtain ⟨A2, c2, rfl, _⟩ := h2
      exact (plus_inf2 s A n c e b t A2 (len32 m) c2 p false w trivial).mono fun e w' h => ⟨_, h.1, ⟨_, _, _, _, _, rfl⟩, h.2⟩
  | number s m p =>
    cases d2 with
    | nan s2 t =>
      obtain ⟨A, c, rfl, _⟩ := h1
      obtain ⟨s2', A2, n2, c2, e2, b2, rfl⟩ := h2
      exact (plus_nan3 s A (len32 m) c p false s2' A2 n2 c2 e2 b2 w trivial).mono fun e w' h => nan h _ rfl rfl
    | infinity t =>
      obtain ⟨A, c, rfl, _⟩ := h1
      obtain ⟨A2, n2, c2, e2, b2, rfl⟩ := h2
      exact (plus_inf3 s A (len32 m) c p false t A2 n2 c2 e2 b2 w trivial).mono fun e w' h => ⟨_, h.1, ⟨_, _, _, _, _, rfl⟩, h.2⟩
    | number t m2 p2 =>
      obtain ⟨A, c, rfl, hn1⟩ := h1
      obtain ⟨A2, c2, rfl, hn2⟩ := h2
      exact plus_num s t m m2 p p2 A A2 c c2 w hn1 hn2 s1.1 s2.1 s1.2.1 s1.2.2 s2.2.1 s2.2.2

/-! ### Words of 32 and of 64 bits -/
abbrev rd32 (a : Nat) : Ieee.Datum := (fmt 23 8).read a
abbrev rd64 (a : Nat) : Ieee.Datum := (fmt 52 11).read a
abbrev told32 (d : Ieee.Datum) : Nat := toldW 23 8 255 d
abbrev told64 (d : Ieee.Datum) : Nat := toldW 52 11 2047 d
theorem isF32 : IsForm 23 8 150 255 := .inl ⟨rfl, rfl, rfl, rfl⟩
theorem isF64 : IsForm 52 11 1075 2047 := .inr ⟨rfl, rfl, rfl, rfl⟩
theorem told32_lt (d : Ieee.Datum) : told32 d < 4294967296 := by
  cases d with
  | nan s t => show (255 * 2 ^ 23 + 2 ^ 22 : Nat) < _; decide
  | number s m p => exact Nat.lt_of_lt_of_eq ((fmt 23 8).write_lt (.number s m p)) (by decide +kernel)
  | infinity s => exact Nat.lt_of_lt_of_eq ((fmt 23 8).write_lt (.infinity s)) (by decide +kernel)
theorem told64_lt (d : Ieee.Datum) : told64 d < 18446744073709551616 := by
  cases d with
  | nan s t => show (2047 * 2 ^ 52 + 2 ^ 51 : Nat) < _; decide
  | number s m p => exact Nat.lt_of_lt_of_eq ((fmt 52 11).write_lt (.number s m p)) (by decide +kernel)
  | infinity s => exact Nat.lt_of_lt_of_eq ((fmt 52 11).write_lt (.infinity s)) (by decide +kernel)
theorem small_lt {n m : Nat} (h : n < 2 ^ (32 * m)) (hm : m ≤ 10000) : len32 n ≤ 10000 := Nat.le_trans ((lt_len32 n m).2 h) hm
theorem small_read (fr ex bias top : Nat) (hf : IsForm fr ex bias top) (b : Nat) : Small ((fmt fr ex).read b) := by
  rw [read_parts fr ex bias top hf]
  have hm := Nat.mod_lt b (Nat.two_pow_pos fr)
  have hx := Nat.mod_lt (b / 2 ^ fr) (Nat.two_pow_pos ex)
  have F : 2 ^ fr ≤ 4503599627370496 ∧ 2 ^ ex ≤ 2048 ∧ bias ≤ 1075 ∧ 150 ≤ bias := by rcases hf with ⟨rfl, rfl, rfl, rfl⟩ | ⟨rfl, rfl, rfl, rfl⟩ <;> decide
  obtain ⟨F1, F2, F3, F4⟩ := F
  split
  · split <;> trivial
  · split
    · exact ⟨small_lt (m := 2) (by omega) (by decide), by omega, by omega⟩
    · exact ⟨small_lt (m := 2) (by omega) (by decide), by omega, by omega⟩

theorem numAt_put5 {W : World} {u : Value} {d : Ieee.Datum} {h : Nat} (hu : NumAt W u d) (hz : ZeroNum W h) (a b c e f : Value) : NumAt (put5 W h a b c e f) u d := by
  cases d with
  | number s m p =>
    obtain ⟨A, q, rfl, A', q', he, hq, hr⟩ := hu
    exact ⟨A, q, rfl, A', q', he, hq, hr.put5 hz.cells.1 _ _ _ _ _⟩
  | infinity s => obtain ⟨A, n, k, l, b', rfl⟩ := hu; exact ⟨A, n, k, l, b', rfl⟩
  | nan s t => obtain ⟨s', A, n, k, l, b', rfl⟩ := hu; exact ⟨s', A, n, k, l, b', rfl⟩

set_option maxHeartbeats 1600000 in
set_option maxRecDepth 100000 in
theorem num_calls (a : Nat) (ha : a < 4294967296) (w : World) : Calls Try.prog 84 #[.int .u32 (a : Int)] w fun e w' => NumEnd w (rd32 a) e w' := by
  have HF := Lib.hid fun W => F32_calls W
  have HO := Lib.hid fun W => of_calls 23 8 150 255 isF32 a ha W
  have W1 := u_w64 a (by omega)
  have HZ : Hid (ZeroNum (w.alloc zeroNum) w.heap.size) := heap_alloc_new w zeroNum
  have HB : Hid (Below w.heap.size w (w.alloc zeroNum)) := (Below.refl _ _).alloc (Nat.le_refl _) _
  clear ha
  go_enter Try.func84, Try.ntmps84
  go_upto_region 1 with (fail)
  unfold zeroNum at HZ HB
  generalize w.alloc (.cells #[.int .i64 0, .bool false, .slice none 0 0, .int .i64 0, .bool false] 62) = w0 at HZ HB ⊢
  obtain ⟨h, eh⟩ : ∃ h, h = w.heap.size := ⟨_, rfl⟩
  rw [← eh] at HZ ⊢
  have hh : w.heap.size ≤ h := by omega
  clear eh
  go_wp2_with (first
    | (go_at_call 40; refine (HF.out _).mono ?_; rintro e1 w1 ⟨rfl, hbel⟩; have HZ1 := Lib.hid (HZ.out.below hbel); have HB1 := Lib.hid (ujoin HB.out hbel); clear hbel)
    | (go_at_call 41; refine (HO.out _).mono ?_; rintro e1 w2 ⟨u, rfl, hu, hbel⟩; have HZ2 := Lib.hid (HZ1.out.below hbel); have HB2 := Lib.hid (ujoin HB1.out hbel); have HU := Lib.hid hu; obtain ⟨k, s, A, n, c, e, b, rfl⟩ := hu.form; unfold numV; obtain ⟨⟨z0, z1, z2, z3, z4⟩, f0, f1, f2, f3, f4⟩ := HZ2.out.cells; clear hbel hu))
  exact bodyPost_ret (v := numV k s A n c e b) (by simp [results, Try.results84, go_sem, numV, z0, z1, z2, z3, z4]) rfl ⟨_, rfl, numAt_put5 HU.out HZ2.out _ _ _ _ _, below_put5 HB2.out hh _ _ _ _ _⟩

set_option maxHeartbeats 1600000 in
set_option maxRecDepth 100000 in
theorem bits_calls (d : Ieee.Datum) (u : Value) (w : World) (hu : NumAt w u d) (hd : Small d) : Calls Try.prog 71 #[u] w fun e w' => Gives w (.int .u32 ((told32 d : Nat) : Int)) e w' := by
  have HF := Lib.hid fun W => F32_calls W
  have HR : Hid (∀ W, Below w.heap.size w W → Calls Try.prog 44 #[formV 23 8, u] W fun e' w' => Gives W (.int .u64 ((told32 d : Nat) : Int)) e' w') := fun W hb => round_calls 23 8 150 255 isF32 d u W (hu.below hb) hd
  have hlt := told32_lt d
  obtain ⟨r, er⟩ : ∃ r, r = told32 d := ⟨_, rfl⟩
  rw [← er] at HR hlt ⊢
  have W1 := u_w32 r hlt
  obtain ⟨k, s, A, n, c, e, b, rfl⟩ := hu.form
  clear hu hd er
  unfold numV at HR ⊢
  have hn := numBox_new w k s A n c e b
  have HB : Hid (Below w.heap.size w (w.alloc (.cells #[.int .i64 k, .bool s, .slice A n c, .int .i64 e, .bool b] 62))) := (Below.refl _ _).alloc (Nat.le_refl _) _
  obtain ⟨g, eg⟩ : ∃ g, g = w.heap.size := ⟨_, rfl⟩
  rw [← eg] at hn
  have EG := Lib.hid eg
  clear eg
  go_enter Try.func71, Try.ntmps71
  go_upto_region 1 with (fail)
  rw [← EG.out]
  generalize w.alloc (.cells #[.int .i64 k, .bool s, .slice A n c, .int .i64 e, .bool b] 62) = w0 at hn HB ⊢
  obtain ⟨x0, x1, x2, x3, x4⟩ := hn
  have hb := HB.out
  go_region_held3 (fun w' => w'.cell? ⟨g, 0, none⟩ = some (.int .i64 k) ∧ w'.cell? ⟨g, 1, none⟩ = some (.bool s) ∧ w'.cell? ⟨g, 2, none⟩ = some (.slice A n c) ∧ w'.cell? ⟨g, 3, none⟩ = some (.int .i64 e) ∧ w'.cell? ⟨g, 4, none⟩ = some (.bool b) ∧ Below w.heap.size w w')
    (first | exact ⟨x0, x1, x2, x3, x4, hb.drew⟩ | exact keep6 hbel ‹_›) (first
    | (go_at_call 40; refine (HF.out _).mono ?_; rintro e1 w1 ⟨rfl, hbel⟩; have HB1 := Lib.hid (ujoin hb.drew hbel); unfold formV)
    | (go_at_call 44; refine (HR.out w1 HB1.out).mono ?_; rintro e1 w2 ⟨rfl, hbel⟩))
  rename_i hH
  go_wp2
  go_ret
  exact ⟨rfl, hH.2.2.2.2.2⟩
end Go.Proofs.Ytmeifciagepmpaa
