/- For every plane, kind, border, map and size, the law WarpPlanes answers true: the plane warped, and its errors, are the document's, what is handed in stays, and answers may be written over. Conditions: none. -/
import Derived.Test.YtdcpeeolfgohmaaRows
import Derived.Test.YtdcpeeolfgohmaaPlL
import Derived.WalkKit
import Derived.ProofKit
import Derived.OpenShut
import Derived.ShutString
import Derived.ChangeOld
import Derived.Below
import Derived.Deep.Fields
import Derived.ChangeSame
import Derived.Deep.Slices
namespace Go.Proofs.Ytdcpeeolfgohmaa.warpPlanes
open Go.ChangeShapes Go.WideShapes Go.ChangeAt Go.RowKit
open Go.ChangeMaps (open_string shut_string)
set_option linter.unusedVariables false

theorem own : ownKnob Try.prog.godebug = none := by kernel_rfl
theorem laidOut : laidOutB Try.prog = true := by kernel_rfl
set_option maxRecDepth 100000 in
/-- A struct of whole numbers is opened. -/
theorem open_warp {H : Type} {enc : TypeId × Value → H} {W : World} {base : Nat} {spare : Nat → Bool} {held : Bool} {r : Reach} {b0 : Nat} {v : Value} {d : DataW H} {p : List MemPlace} (hv : Value.okWide Try.prog W r b0 32 v) (h : DataW.Trod enc Try.prog W base spare held 32 v d p) : ∃ x0 x1 x2 x3 x4 x5 x6 : Int, v = .agg #[.int .i64 x0, .int .i64 x1, .int .i64 x2, .int .i64 x3, .int .i64 x4, .int .i64 x5, .int .i64 x6] := by
  obtain ⟨cs, rfl, -⟩ := okWide_struct Try.underlying32 hv
  obtain ⟨fuel, hf⟩ := h
  obtain ⟨ys, n, -, -, hlen, hyl, hg⟩ := DataW.trod_struct Try.underlying32 hf
  have hC : Try.prog.cellsOf 32 = 7 := by kernel_rfl
  have hc1 : Try.prog.cellsOf 3 = 1 := by kernel_rfl
  rw [hC] at hlen
  obtain ⟨l, el⟩ : ∃ l, l = (Value.agg cs).cells.toList := ⟨_, rfl⟩
  rw [← el] at hlen hg
  match l, hlen, ys, hyl with
  | [c0, c1, c2, c3, c4, c5, c6], _, [y0, y1, y2, y3, y4, y5, y6], _ =>
    have f0 : DataW.trod enc Try.prog W base spare held n 3 (([c0, c1, c2, c3, c4, c5, c6].drop 0).take (Try.prog.cellsOf 3)) = some y0 := hg 0 _ rfl
    have f1 : DataW.trod enc Try.prog W base spare held n 3 (([c0, c1, c2, c3, c4, c5, c6].drop 1).take (Try.prog.cellsOf 3)) = some y1 := hg 1 _ rfl
    have f2 : DataW.trod enc Try.prog W base spare held n 3 (([c0, c1, c2, c3, c4, c5, c6].drop 2).take (Try.prog.cellsOf 3)) = some y2 := hg 2 _ rfl
    have f3 : DataW.trod enc Try.prog W base spare held n 3 (([c0, c1, c2, c3, c4, c5, c6].drop 3).take (Try.prog.cellsOf 3)) = some y3 := hg 3 _ rfl
    have f4 : DataW.trod enc Try.prog W base spare held n 3 (([c0, c1, c2, c3, c4, c5, c6].drop 4).take (Try.prog.cellsOf 3)) = some y4 := hg 4 _ rfl
    have f5 : DataW.trod enc Try.prog W base spare held n 3 (([c0, c1, c2, c3, c4, c5, c6].drop 5).take (Try.prog.cellsOf 3)) = some y5 := hg 5 _ rfl
    have f6 : DataW.trod enc Try.prog W base spare held n 3 (([c0, c1, c2, c3, c4, c5, c6].drop 6).take (Try.prog.cellsOf 3)) = some y6 := hg 6 _ rfl
    rw [hc1] at f0 f1 f2 f3 f4 f5 f6
    obtain ⟨x0, e0, -, -⟩ := DataW.trod_int Try.underlying3 f0
    obtain ⟨x1, e1, -, -⟩ := DataW.trod_int Try.underlying3 f1
    obtain ⟨x2, e2, -, -⟩ := DataW.trod_int Try.underlying3 f2
    obtain ⟨x3, e3, -, -⟩ := DataW.trod_int Try.underlying3 f3
    obtain ⟨x4, e4, -, -⟩ := DataW.trod_int Try.underlying3 f4
    obtain ⟨x5, e5, -, -⟩ := DataW.trod_int Try.underlying3 f5
    obtain ⟨x6, e6, -, -⟩ := DataW.trod_int Try.underlying3 f6
    simp at e0 e1 e2 e3 e4 e5 e6
    subst e0 e1 e2 e3 e4 e5 e6
    refine ⟨x0, x1, x2, x3, x4, x5, x6, ?_⟩
    have ec : cs.toList = [.int .i64 x0, .int .i64 x1, .int .i64 x2, .int .i64 x3, .int .i64 x4, .int .i64 x5, .int .i64 x6] := by simpa [Value.cells] using el.symm
    have : cs = #[.int .i64 x0, .int .i64 x1, .int .i64 x2, .int .i64 x3, .int .i64 x4, .int .i64 x5, .int .i64 x6] := by rw [← Array.toArray_toList (xs := cs), ec]
    rw [this]
theorem i64_bd {z : Int} (h : (Lit.int .i64 z).wf = true) : -9223372036854775808 ≤ z ∧ z ≤ 9223372036854775807 := by
  simp only [Lit.wf, IntKind.min, IntKind.max, IntKind.signed, IntKind.bits, Bool.and_eq_true, decide_eq_true_eq, if_true] at h
  omega
/-- A slice of samples. -/
theorem open_list {H : Type} {enc : TypeId × Value → H} {W : World} {spare : Nat → Bool} {held : Bool} {fuel : Nat} {v : Value} {x : DataW H × List MemPlace} (h : DataW.trod enc Try.prog W 0 spare held fuel 53 [v] = some x) :
    ∃ B m c y, v = .slice B m c ∧ RowU W B m y ∧ m ≤ c ∧ m ≤ 9223372036854775807 ∧ (∀ k, k < m → y k < 4294967296) := by
  rcases open_ints Try.underlying53 Try.underlying65 (by kernel_rfl) h with ⟨hcs, hx⟩ | ⟨a, l, c, zs, hcs, _, hl, hm, hz, hx, hcell, hwz⟩
  · injection hcs with e _
    subst e
    exact ⟨none, 0, 0, fun _ => 0, rfl, RowU.nil _ _ _, Nat.le_refl _, Nat.zero_le _, fun k h => absurd h (Nat.not_lt_zero _)⟩
  · injection hcs with e _
    subst e
    have hlz : l ≤ zs.length := by rw [hz]; split <;> omega
    have hw : ∀ k, k < zs.length → 0 ≤ zs.getD k 0 ∧ zs.getD k 0 < 4294967296 := fun k hk => by
      have h1 := hwz (zs.getD k 0) (by simp [hk])
      have h2 : 0 ≤ zs.getD k 0 ∧ zs.getD k 0 ≤ 4294967295 := by simpa [Lit.wf, IntKind.min, IntKind.max, IntKind.signed, IntKind.bits] using h1
      omega
    refine ⟨some a, l, c, fun k => (zs.getD k 0).toNat, rfl, fun _ => ⟨a, rfl, fun i hi => ?_⟩, hl, (by unfold maxLen at hm; omega), fun k hk => ?_⟩
    · rw [hcell i (by omega)]
      have := (hw i (by omega)).1
      rw [Int.toNat_of_nonneg this]
    · have := hw k (by omega)
      show (zs.getD k 0).toNat < 4294967296
      omega
set_option maxRecDepth 100000 in
/-- A plane. -/
theorem open_plane {H : Type} {enc : TypeId × Value → H} {W : World} {spare : Nat → Bool} {held : Bool} {r : Reach} {b0 : Nat} {v : Value} {d : DataW H} {p : List MemPlace} (hv : Value.okWide Try.prog W r b0 55 v) (h : DataW.Trod enc Try.prog W 0 spare held 55 v d p) :
    ∃ (x0 x1 : Int) (A : Option Addr) (n c : Nat) (y : Nat → Nat), v = .agg #[.int .i64 x0, .int .i64 x1, .slice A n c] ∧ RowU W A n y ∧ n ≤ c ∧ n ≤ 9223372036854775807 ∧ (∀ k, k < n → y k < 4294967296) ∧ (-9223372036854775808 ≤ x0 ∧ x0 ≤ 9223372036854775807) ∧ (-9223372036854775808 ≤ x1 ∧ x1 ≤ 9223372036854775807) := by
  obtain ⟨cs, rfl, -⟩ := okWide_struct Try.underlying55 hv
  obtain ⟨fuel, hf⟩ := h
  obtain ⟨ys, n, -, -, hlen, hyl, hg⟩ := DataW.trod_struct Try.underlying55 hf
  have hC : Try.prog.cellsOf 55 = 3 := by kernel_rfl
  have hc1 : Try.prog.cellsOf 3 = 1 := by kernel_rfl
  have hc2 : Try.prog.cellsOf 53 = 1 := by kernel_rfl
  rw [hC] at hlen
  obtain ⟨l, el⟩ : ∃ l, l = (Value.agg cs).cells.toList := ⟨_, rfl⟩
  rw [← el] at hlen hg
  match l, hlen, ys, hyl with
  | [c0, c1, c2], _, [y0, y1, y2], _ =>
    have f0 : DataW.trod enc Try.prog W 0 spare held n 3 (([c0, c1, c2].drop 0).take (Try.prog.cellsOf 3)) = some y0 := hg 0 _ rfl
    have f1 : DataW.trod enc Try.prog W 0 spare held n 3 (([c0, c1, c2].drop 1).take (Try.prog.cellsOf 3)) = some y1 := hg 1 _ rfl
    have f2 : DataW.trod enc Try.prog W 0 spare held n 53 (([c0, c1, c2].drop 2).take (Try.prog.cellsOf 53)) = some y2 := hg 2 _ rfl
    rw [hc1] at f0 f1
    rw [hc2] at f2
    obtain ⟨x0, e0, -, w0⟩ := DataW.trod_int Try.underlying3 f0
    obtain ⟨x1, e1, -, w1⟩ := DataW.trod_int Try.underlying3 f1
    obtain ⟨B, m, c, y, e3, hr, hc, hm, hl⟩ := open_list (v := c2) f2
    simp at e0 e1
    subst e0 e1 e3
    refine ⟨x0, x1, B, m, c, y, ?_, hr, hc, hm, hl, i64_bd w0, i64_bd w1⟩
    have ec : cs.toList = [.int .i64 x0, .int .i64 x1, .slice B m c] := by simpa [Value.cells] using el.symm
    have : cs = #[.int .i64 x0, .int .i64 x1, .slice B m c] := by rw [← Array.toArray_toList (xs := cs), ec]
    rw [this]

/-! ### STEP 1: THE WALK -/
theorem walk (x0_0 x0_1 : Int) (A0 : Option Addr) (n0 c0 : Nat) (y0 : Nat → Nat) (a1 : Int) (w1 : (Lit.int .i64 a1).wf = true) (a2 : Int) (w2 : (Lit.int .i64 a2).wf = true) (x3_0 x3_1 x3_2 x3_3 x3_4 x3_5 x3_6 : Int) (a4 : Int) (w4 : (Lit.int .i64 a4).wf = true) (a5 : Int) (w5 : (Lit.int .i64 a5).wf = true) (w : World) (h0 : RowU w A0 n0 y0) (hc0 : n0 ≤ c0) (hm0 : n0 ≤ 9223372036854775807) (hl0 : ∀ k, k < n0 → y0 k < 4294967296) (hx0 : -9223372036854775808 ≤ x0_0 ∧ x0_0 ≤ 9223372036854775807) (hy0 : -9223372036854775808 ≤ x0_1 ∧ x0_1 ≤ 9223372036854775807) :
    Calls Try.prog 7 #[.agg #[.int .i64 x0_0, .int .i64 x0_1, .slice A0 n0 c0], .int .i64 a1, .int .i64 a2, .agg #[.int .i64 x3_0, .int .i64 x3_1, .int .i64 x3_2, .int .i64 x3_3, .int .i64 x3_4, .int .i64 x3_5, .int .i64 x3_6], .int .i64 a4, .int .i64 a5] w fun e w' => e = .returned (.bool true) ∧ Below w.heap.size w w' :=
  lawPlanes_row x0_0 x0_1 A0 n0 c0 y0 a1 a2 ⟨x3_0, x3_1, x3_2, x3_3, x3_4, x3_5, x3_6⟩ a4 a5 w h0 hc0 hm0 hl0 hx0 hy0

/-! ### THE ROW's STEP -/
set_option maxRecDepth 100000 in
theorem lifted (os : Os) (started : os.Started) (H : Type) (enc : TypeId × Value → H) :
    ReturnsInHanded {} Try.checked os 7 .any (Rows.warpPlanesSpec.pre6 enc Try.prog Try.f7 Rows.warpPlanesRow.domain false) (Rows.warpPlanesSpec.post enc Try.prog Try.f7 false true false false) := by
  refine returnsInHanded_of_change (C := Try.checked) own started (by kernel_rfl) Try.func7
    (ChangeSpec.witness6 (enc := enc) (C := Try.checked) false ⟨#[], #[.agg #[.int .i64 0, .int .i64 0, .slice none 0 0], .int .i64 0, .int .i64 0, .agg #[.int .i64 0, .int .i64 0, .int .i64 0, .int .i64 0, .int .i64 0, .int .i64 0, .int .i64 0], .int .i64 0, .int .i64 0], []⟩ 8 (by kernel_rfl) (by kernel_rfl) (by kernel_rfl) (by kernel_rfl)) ?_
  intro W base args ds gs before hval0 hW hcnd _
  have hval : ∀ (j : Nat) t v, Try.f7.params[j]? = some t → args[j]? = some v → Value.okWide Try.prog W .any base t v := hval0
  have hW' := hW
  obtain ⟨p, q, hA0, hV, rfl, hfz, hnd⟩ := hW
  have hA : DataW.TrodAll enc Try.prog W 0 (fun _ => true) true Try.f7.params.toList args.toList ds p := hA0
  rw [Try.params7] at hA hval
  obtain ⟨v0, vs0, d0, ds0, p0, q0, hargs, rfl, rfl, h0, r0⟩ := trodAll_cons hA
  obtain ⟨v1, vs1, d1, ds1, p1, q1, rfl, rfl, rfl, h1, r1⟩ := trodAll_cons r0
  obtain ⟨v2, vs2, d2, ds2, p2, q2, rfl, rfl, rfl, h2, r2⟩ := trodAll_cons r1
  obtain ⟨v3, vs3, d3, ds3, p3, q3, rfl, rfl, rfl, h3, r3⟩ := trodAll_cons r2
  obtain ⟨v4, vs4, d4, ds4, p4, q4, rfl, rfl, rfl, h4, r4⟩ := trodAll_cons r3
  obtain ⟨v5, vs5, d5, ds5, p5, q5, rfl, rfl, rfl, h5, r5⟩ := trodAll_cons r4
  obtain ⟨rfl, rfl, rfl⟩ := trodAll_nil r5
  obtain rfl : args = #[v0, v1, v2, v3, v4, v5] := by cases args; simp_all
  obtain ⟨rfl, rfl⟩ := trodVars_none hV
  have k0 := h0
  have lt0 : ∀ x ∈ p0, x.block < W.heap.size := by obtain ⟨m, hm⟩ := k0; exact DataW.trod_lt m _ _ _ hm
  obtain ⟨x0_0, x0_1, A0, n0, c0, y0, ea0, g0, gc0, gm0, gl0, gx0, gy0⟩ := open_plane (hval 0 55 v0 rfl rfl) h0
  subst ea0
  have k1 := h1
  have lt1 : ∀ x ∈ p1, x.block < W.heap.size := by obtain ⟨m, hm⟩ := k1; exact DataW.trod_lt m _ _ _ hm
  obtain ⟨a1, ea1, -, -, w1⟩ := open_int Try.underlying3 (hval 1 3 v1 rfl rfl) h1
  subst ea1
  have k2 := h2
  have lt2 : ∀ x ∈ p2, x.block < W.heap.size := by obtain ⟨m, hm⟩ := k2; exact DataW.trod_lt m _ _ _ hm
  obtain ⟨a2, ea2, -, -, w2⟩ := open_int Try.underlying3 (hval 2 3 v2 rfl rfl) h2
  subst ea2
  have k3 := h3
  have lt3 : ∀ x ∈ p3, x.block < W.heap.size := by obtain ⟨m, hm⟩ := k3; exact DataW.trod_lt m _ _ _ hm
  obtain ⟨x3_0, x3_1, x3_2, x3_3, x3_4, x3_5, x3_6, ea3⟩ := open_warp (hval 3 32 v3 rfl rfl) h3
  subst ea3
  have k4 := h4
  have lt4 : ∀ x ∈ p4, x.block < W.heap.size := by obtain ⟨m, hm⟩ := k4; exact DataW.trod_lt m _ _ _ hm
  obtain ⟨a4, ea4, -, -, w4⟩ := open_int Try.underlying3 (hval 4 3 v4 rfl rfl) h4
  subst ea4
  have k5 := h5
  have lt5 : ∀ x ∈ p5, x.block < W.heap.size := by obtain ⟨m, hm⟩ := k5; exact DataW.trod_lt m _ _ _ hm
  obtain ⟨a5, ea5, -, -, w5⟩ := open_int Try.underlying3 (hval 5 3 v5 rfl rfl) h5
  subst ea5
  clear hA0 hval0
  refine (walk x0_0 x0_1 A0 n0 c0 y0 a1 w1 a2 w2 x3_0 x3_1 x3_2 x3_3 x3_4 x3_5 x3_6 a4 w4 a5 w5 W g0 gc0 gm0 gl0 gx0 gy0).mono fun e W' ⟨he, bel⟩ => ?_
  subst he
  exact ⟨_, rfl, _, _, _, [], _, [], hW', trodAll_mk1 (shut_bool Try.underlying4 _), (trodAll_cons_mk (Below.trod laidOut (by kernel_rfl) (of_decide_eq_true (by kernel_rfl)) k0 bel lt0) (trodAll_cons_mk (Below.trod laidOut (by kernel_rfl) (of_decide_eq_true (by kernel_rfl)) k1 bel lt1) (trodAll_cons_mk (Below.trod laidOut (by kernel_rfl) (of_decide_eq_true (by kernel_rfl)) k2 bel lt2) (trodAll_cons_mk (Below.trod laidOut (by kernel_rfl) (of_decide_eq_true (by kernel_rfl)) k3 bel lt3) (trodAll_cons_mk (Below.trod laidOut (by kernel_rfl) (of_decide_eq_true (by kernel_rfl)) k4 bel lt4) (trodAll_cons_mk (Below.trod laidOut (by kernel_rfl) (of_decide_eq_true (by kernel_rfl)) k5 bel lt5) trodAll_mk0)))))), rfl, bel.frame _, fun h => by cases h⟩

theorem over : Rows.warpPlanesRow.holds Try.pinned (OpenSpec.ofChange Rows.warpPlanesSpec) :=
  OpenClaim.holds_of_wide 7 Try.f7 rfl rfl rfl rfl rfl rfl rfl ⟨rfl, rfl, rfl, rfl, rfl⟩ rfl rfl rfl rfl rfl (by kernel_rfl) Try.func7 (by kernel_rfl)
    (of_decide_eq_true (by kernel_rfl)) (by unfold Func.isWrapper; first | (rw [if_pos (by decide +kernel)]; kernel_rfl) | (rw [if_neg (by decide +kernel)]; exact ⟨rfl, rfl⟩))
    (fun os started H enc _ => lifted os started H enc)

/-- ████ THE STATEMENT ████ -/
theorem proved : Rows.WarpPlanesSaid := over
#print axioms proved
end Go.Proofs.Ytdcpeeolfgohmaa.warpPlanes
