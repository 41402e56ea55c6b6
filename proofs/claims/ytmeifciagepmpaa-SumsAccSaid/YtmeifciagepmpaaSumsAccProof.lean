/- For every script over three accumulators, the law SumsAcc answers true: behind each step each accumulator tells the sum, the means and the count of all samples that it is of, as the document does. Conditions: none. -/
import Derived.Test.YtmeifciagepmpaaRows
import Derived.Test.YtmeifciagepmpaaScB
import Derived.WalkKit
import Derived.ProofKit
import Derived.OpenShut
import Derived.ShutString
import Derived.ChangeOld
import Derived.Below
import Derived.SizedLaws
import Derived.Deep.Slices
import Derived.Deep.Fields
import Derived.ChangeSame
namespace Go.Proofs.Ytmeifciagepmpaa.sumsAcc
open Go.ChangeShapes Go.WideShapes Go.ChangeAt Go.RowKit
open Go.ChangeMaps (open_string shut_string)
set_option linter.unusedVariables false

theorem own : ownKnob Try.prog.godebug = none := by kernel_rfl
theorem laidOut : laidOutB Try.prog = true := by kernel_rfl

/-- A slice of samples within a step. -/
theorem open_list {H : Type} {enc : TypeId × Value → H} {W : World} {spare : Nat → Bool} {held : Bool} {fuel : Nat} {v : Value} {x : DataW H × List MemPlace} (h : DataW.trod enc Try.prog W 0 spare held fuel 23 [v] = some x) :
    ∃ B m c y, v = .slice B m c ∧ RowU W B m y ∧ m ≤ c ∧ (∀ k, k < m → y k < 4294967296) ∧ (x.1 = .nil ∧ m = 0 ∨ ∃ es sp, x.1 = .slice es sp ∧ m ≤ es.length + sp.length) := by
  rcases open_ints Try.underlying23 Try.underlying25 (by kernel_rfl) h with ⟨hcs, hx⟩ | ⟨a, l, c, zs, hcs, _, hl, hm, hz, hx, hcell, hwz⟩
  · injection hcs with e _
    subst e
    exact ⟨none, 0, 0, fun _ => 0, rfl, RowU.nil _ _ _, Nat.le_refl _, fun k h => absurd h (Nat.not_lt_zero _), .inl ⟨by rw [hx], rfl⟩⟩
  · injection hcs with e _
    subst e
    have hlz : l ≤ zs.length := by rw [hz]; split <;> omega
    have hw : ∀ k, k < zs.length → 0 ≤ zs.getD k 0 ∧ zs.getD k 0 < 4294967296 := fun k hk => by
      have h1 := hwz (zs.getD k 0) (by simp [hk])
      have h2 : 0 ≤ zs.getD k 0 ∧ zs.getD k 0 ≤ 4294967295 := by simpa [Lit.wf, IntKind.min, IntKind.max, IntKind.signed, IntKind.bits] using h1
      omega
    refine ⟨some a, l, c, fun k => (zs.getD k 0).toNat, rfl, fun _ => ⟨a, rfl, fun i hi => ?_⟩, hl, fun k hk => ?_, .inr ⟨_, _, by rw [hx], ?_⟩⟩
    · rw [hcell i (by omega)]
      have := (hw i (by omega)).1
      rw [Int.toNat_of_nonneg this]
    · have := hw k (by omega)
      show (zs.getD k 0).toNat < 4294967296
      omega
    · simp [lits]
      omega
theorem weights_all_mem {H : Type} {P : Program} {e : TypeId} {d : DataW H} {n : Nat} (hn : n ∈ d.weights P e) : ∀ {ds : List (DataW H)} {j : Nat}, ds[j]? = some d → n ∈ DataW.weightsAll P e ds
  | [], _, h => by simp at h
  | d0 :: ds, 0, h => by
    simp only [List.getElem?_cons_zero, Option.some.injEq] at h
    subst h
    simp only [DataW.weightsAll, List.mem_append]
    exact .inl hn
  | d0 :: ds, j + 1, h => by
    simp only [List.getElem?_cons_succ] at h
    simp only [DataW.weightsAll, List.mem_append]
    exact .inr (weights_all_mem hn h)
theorem i64_bd {z : Int} (h : (Lit.int .i64 z).wf = true) : -9223372036854775808 ≤ z ∧ z ≤ 9223372036854775807 := by
  simp only [Lit.wf, IntKind.min, IntKind.max, IntKind.signed, IntKind.bits, Bool.and_eq_true, decide_eq_true_eq, if_true] at h
  omega
set_option maxRecDepth 100000 in
/-- One step of a script. -/
theorem open_step {H : Type} {enc : TypeId × Value → H} {W : World} {spare : Nat → Bool} {held : Bool} {fuel : Nat} {cs : List Value} {x : DataW H × List MemPlace} (h : DataW.trod enc Try.prog W 0 spare held fuel 49 cs = some x) :
    ∃ a wh o B m c y, cs = [.int .i64 a, .int .i64 wh, .int .i64 o, .slice B m c] ∧ RowU W B m y ∧ m ≤ c ∧ (∀ k, k < m → y k < 4294967296) ∧ (-9223372036854775808 ≤ a ∧ a ≤ 9223372036854775807) ∧ (-9223372036854775808 ≤ o ∧ o ≤ 9223372036854775807) ∧ ((x.1.weights Try.prog 49).all (· ≤ reachBytes) = true → m * 4 ≤ reachBytes) := by
  obtain ⟨ys, n, -, hx, hlen, hyl, hf⟩ := DataW.trod_struct Try.underlying49 h
  have hC : Try.prog.cellsOf 49 = 4 := by kernel_rfl
  rw [hC] at hlen
  match cs, hlen with
  | [c0, c1, c2, c3], _ =>
    match ys, hyl with
    | [y0, y1, y2, y3], _ =>
      have f0 : DataW.trod enc Try.prog W 0 spare held n 3 (([c0, c1, c2, c3].drop 0).take (Try.prog.cellsOf 3)) = some y0 := hf 0 _ rfl
      have f1 : DataW.trod enc Try.prog W 0 spare held n 3 (([c0, c1, c2, c3].drop 1).take (Try.prog.cellsOf 3)) = some y1 := hf 1 _ rfl
      have f2 : DataW.trod enc Try.prog W 0 spare held n 3 (([c0, c1, c2, c3].drop 2).take (Try.prog.cellsOf 3)) = some y2 := hf 2 _ rfl
      have f3 : DataW.trod enc Try.prog W 0 spare held n 23 (([c0, c1, c2, c3].drop 3).take (Try.prog.cellsOf 23)) = some y3 := hf 3 _ rfl
      have hc1 : Try.prog.cellsOf 3 = 1 := by kernel_rfl
      have hc2 : Try.prog.cellsOf 23 = 1 := by kernel_rfl
      rw [hc1] at f0 f1 f2
      rw [hc2] at f3
      obtain ⟨a, e0, -, w0⟩ := DataW.trod_int Try.underlying3 f0
      obtain ⟨b, e1, -, w1⟩ := DataW.trod_int Try.underlying3 f1
      obtain ⟨o, e2, -, w2⟩ := DataW.trod_int Try.underlying3 f2
      obtain ⟨B, m, c, y, e3, hr, hc, hl, hd⟩ := open_list (v := c3) f3
      simp at e0 e1 e2
      subst e0 e1 e2 e3
      refine ⟨a, b, o, B, m, c, y, rfl, hr, hc, hl, i64_bd w0, i64_bd w2, fun hz => ?_⟩
      have hx1 : x.1 = .agg [y0.1, y1.1, y2.1, y3.1] := by rw [hx]; rfl
      rw [hx1] at hz
      rcases hd with ⟨-, rfl⟩ | ⟨es, sp, e4, hm⟩
      · exact Nat.zero_le _
      · rw [e4] at hz
        have hw : (es.length + sp.length) * 4 ∈ (DataW.agg [y0.1, y1.1, y2.1, DataW.slice es sp]).weights Try.prog 49 := by
          have hb : Try.prog.bytesOf 25 = 4 := by kernel_rfl
          simp only [DataW.weights, Try.underlying49]
          refine DataW.weights_mem_each (j := 3) rfl rfl _ ?_
          simp only [DataW.weights, Try.underlying23, hb]
          exact List.mem_cons_self
        have h1 := List.all_eq_true.1 hz _ hw
        have h2 := of_decide_eq_true h1
        exact Nat.le_trans (Nat.mul_le_mul_right 4 hm) h2

set_option maxRecDepth 100000 in
/-- A script. -/
theorem scr_of {H : Type} {enc : TypeId × Value → H} {W : World} {spare : Nat → Bool} {held : Bool} {P : Option Addr} {N C : Nat} {d : DataW H} {p : List MemPlace} (h : DataW.Trod enc Try.prog W 0 spare held 42 (.slice P N C) d p)
    (hz : (d.weights Try.prog 42).all (· ≤ reachBytes) = true) : ∃ at' wh ot B m cc y, ScrIn W P N at' wh ot B m cc y ∧ N ≤ C := by
  obtain ⟨fuel, hf⟩ := h
  rcases Go.Deep.open_slice Try.underlying42 hf with ⟨hcs, -⟩ | ⟨a, len, cap, m, n, D, Pl, hcs, -, hl, hm, hmm, hx, hi⟩
  · simp [Value.cells] at hcs
    obtain ⟨rfl, rfl, rfl⟩ := hcs
    exact ⟨fun _ => 0, fun _ => 0, fun _ => 0, fun _ => none, fun _ => 0, fun _ => 0, fun _ _ => 0, ⟨fun h => absurd h (by decide), fun i h => absurd h (Nat.not_lt_zero _), fun i h => absurd h (Nat.not_lt_zero _), fun i h => absurd h (Nat.not_lt_zero _), ⟨Nat.zero_le _, fun i h => absurd h (Nat.not_lt_zero _)⟩, fun i h => absurd h (Nat.not_lt_zero _)⟩, Nat.le_refl _⟩
  · simp [Value.cells] at hcs
    obtain ⟨rfl, rfl, rfl⟩ := hcs
    have hC : Try.prog.cellsOf 49 = 4 := by kernel_rfl
    have hNm : N ≤ m := by rw [hmm]; split <;> omega
    have hd : d = .slice ((List.range N).map D) ((List.range (m - N)).map fun j => D (N + j)) := congrArg Prod.fst hx
    have hzN : N * Try.prog.bytesOf 49 ≤ reachBytes := by
      have hw : (((List.range N).map D).length + ((List.range (m - N)).map fun j => D (N + j)).length) * Try.prog.bytesOf 49 ∈ d.weights Try.prog 42 := by
        rw [hd]
        simp only [DataW.weights, Try.underlying42]
        exact List.mem_cons_self
      have h2 := of_decide_eq_true (List.all_eq_true.1 hz _ hw)
      simp only [List.length_map, List.length_range] at h2
      exact Nat.le_trans (Nat.mul_le_mul_right _ (by omega)) h2
    have hb : Try.prog.bytesOf 49 = 48 := by kernel_rfl
    rw [hb] at hzN
    have hR := reachBytes_lt
    have step : ∀ i, i < N → ∃ q : Int × Int × Int × Option Addr × Nat × Nat × (Nat → Nat), (W.cell? (a.add (i * 4)) = some (.int .i64 q.1) ∧ W.cell? (a.add (i * 4 + 1)) = some (.int .i64 q.2.1) ∧ W.cell? (a.add (i * 4 + 2)) = some (.int .i64 q.2.2.1) ∧ W.cell? (a.add (i * 4 + 3)) = some (.slice q.2.2.2.1 q.2.2.2.2.1 q.2.2.2.2.2.1)) ∧ RowU W q.2.2.2.1 q.2.2.2.2.1 q.2.2.2.2.2.2 ∧ q.2.2.2.2.1 ≤ q.2.2.2.2.2.1 ∧ (∀ k, k < q.2.2.2.2.1 → q.2.2.2.2.2.2 k < 4294967296) ∧ (-9223372036854775808 ≤ q.1 ∧ q.1 ≤ 9223372036854775807) ∧ (-9223372036854775808 ≤ q.2.2.1 ∧ q.2.2.1 ≤ 9223372036854775807) ∧ q.2.2.2.2.1 * 4 ≤ reachBytes := fun i hiN => by
      obtain ⟨cs', hc, ht⟩ := hi i (by omega)
      obtain ⟨v0, v1, v2, B, mm, c, y, rfl, hr, hc2, hl2, hb1, hb2, hw⟩ := open_step ht
      obtain ⟨-, -, hat⟩ := World.cells?_some hc
      rw [hC] at hat
      have e0 := hat 0 (by decide)
      have e1 := hat 1 (by decide)
      have e2 := hat 2 (by decide)
      have e3 := hat 3 (by decide)
      have aa : ∀ j, (a.add (i * 4)).add j = a.add (i * 4 + j) := fun j => Go.Deep.add_add a (i * 4) j
      rw [aa] at e0 e1 e2 e3
      refine ⟨(v0, v1, v2, B, mm, c, y), ⟨e0, e1, e2, e3⟩, hr, hc2, hl2, hb1, hb2, hw ?_⟩
      rw [List.all_eq_true] at hz ⊢
      intro q hq
      refine hz q ?_
      rw [hd]
      simp only [DataW.weights, Try.underlying42]
      refine List.mem_cons_of_mem _ (List.mem_append_left _ (weights_all_mem hq (j := i) ?_))
      simp [hiN]
    have pick : ∀ i, ∃ q : Int × Int × Int × Option Addr × Nat × Nat × (Nat → Nat), i < N → (W.cell? (a.add (i * 4)) = some (.int .i64 q.1) ∧ W.cell? (a.add (i * 4 + 1)) = some (.int .i64 q.2.1) ∧ W.cell? (a.add (i * 4 + 2)) = some (.int .i64 q.2.2.1) ∧ W.cell? (a.add (i * 4 + 3)) = some (.slice q.2.2.2.1 q.2.2.2.2.1 q.2.2.2.2.2.1)) ∧ RowU W q.2.2.2.1 q.2.2.2.2.1 q.2.2.2.2.2.2 ∧ q.2.2.2.2.1 ≤ q.2.2.2.2.2.1 ∧ (∀ k, k < q.2.2.2.2.1 → q.2.2.2.2.2.2 k < 4294967296) ∧ (-9223372036854775808 ≤ q.1 ∧ q.1 ≤ 9223372036854775807) ∧ (-9223372036854775808 ≤ q.2.2.1 ∧ q.2.2.1 ≤ 9223372036854775807) ∧ q.2.2.2.2.1 * 4 ≤ reachBytes := fun i => by
      by_cases h : i < N
      · obtain ⟨q, hq⟩ := step i h
        exact ⟨q, fun _ => hq⟩
      · exact ⟨(0, 0, 0, none, 0, 0, fun _ => 0), fun h2 => absurd h2 h⟩
    obtain ⟨q, hq⟩ := Classical.axiomOfChoice pick
    refine ⟨fun i => (q i).1, fun i => (q i).2.1, fun i => (q i).2.2.1, fun i => (q i).2.2.2.1, fun i => (q i).2.2.2.2.1, fun i => (q i).2.2.2.2.2.1, fun i => (q i).2.2.2.2.2.2, ⟨fun _ => ⟨a, rfl, fun i hi => (hq i hi).1⟩, fun i hi => (hq i hi).2.1, fun i hi => (hq i hi).2.2.1, fun i hi => (hq i hi).2.2.2.1, ⟨by omega, fun i hi => ?_⟩, fun i hi => ⟨(hq i hi).2.2.2.2.1, (hq i hi).2.2.2.2.2.1⟩⟩, hl⟩
    have := (hq i hi).2.2.2.2.2.2
    omega

/-! ### STEP 1: THE WALK -/
theorem walk (a0 : Option Addr) (len0 cap0 : Nat) (w : World) (w0 : ∃ at' wh ot B m cc y, ScrIn w a0 len0 at' wh ot B m cc y ∧ len0 ≤ cap0) :
    Calls Try.prog 8 #[.slice a0 len0 cap0] w fun e w' => e = .returned (.bool true) ∧ Below w.heap.size w w' := by
  obtain ⟨at', wh, ot, B, m, cc, y, h1, h2⟩ := w0
  exact lawAcc_calls w a0 len0 cap0 at' wh ot B m cc y h1 h2

/-! ### THE ROW's STEP: WRITTEN OUT: LEAVE IT -/
set_option maxRecDepth 100000 in
theorem lifted (os : Os) (started : os.Started) (H : Type) (enc : TypeId × Value → H) :
    ReturnsInHanded {} Try.checked os 8 .any (Rows.sumsAccSpec.pre6 enc Try.prog Try.f8 Rows.sumsAccRow.domain false) (Rows.sumsAccSpec.post enc Try.prog Try.f8 false true false false) := by
  refine returnsInHanded_of_change_sized (C := Try.checked) own started (by kernel_rfl) Try.func8
    (ChangeSpec.witness6 (enc := enc) (C := Try.checked) false ⟨#[], #[.slice none 0 0], []⟩ 8 (by kernel_rfl) (by kernel_rfl) (by kernel_rfl) (by kernel_rfl)) ?_
  intro W base args ds gs before hval0 hW hcnd hsz0 _
  have hsz : (DataW.weightsEach Try.prog (Try.f8.params.toList ++ Rows.sumsAccSpec.plain.varTypes Try.prog) (ds ++ gs)).all (· ≤ reachBytes) = true := hsz0
  clear hsz0
  have hval : ∀ (j : Nat) t v, Try.f8.params[j]? = some t → args[j]? = some v → Value.okWide Try.prog W .any base t v := hval0
  have hW' := hW
  obtain ⟨p, q, hA0, hV, rfl, hfz, hnd⟩ := hW
  have hA : DataW.TrodAll enc Try.prog W 0 (fun _ => true) true Try.f8.params.toList args.toList ds p := hA0
  rw [Try.params8] at hA hval hsz
  obtain ⟨v0, vs0, d0, ds0, p0, q0, hargs, rfl, rfl, h0, r0⟩ := trodAll_cons hA
  obtain ⟨rfl, rfl, rfl⟩ := trodAll_nil r0
  obtain rfl : args = #[v0] := by cases args; simp_all
  obtain ⟨rfl, rfl⟩ := trodVars_none hV
  obtain ⟨a0, len0, cap0, rfl⟩ := okWide_slice Try.underlying42 (hval 0 42 v0 rfl rfl)
  have k0 := h0
  have lt0 : ∀ x ∈ p0, x.block < W.heap.size := by obtain ⟨m, hm⟩ := k0; exact DataW.trod_lt m _ _ _ hm
  have w0 := scr_of h0 (by
    rw [List.all_eq_true] at hsz ⊢
    intro q hq
    exact hsz q (DataW.weights_mem_each (j := 0) rfl rfl q hq))
  clear hA0 hval0
  refine (walk a0 len0 cap0 W w0).mono fun e W' ⟨he, bel⟩ => ?_
  subst he
  exact ⟨_, rfl, _, _, _, [], _, [], hW', trodAll_mk1 (shut_bool Try.underlying4 _), (trodAll_cons_mk (Below.trod laidOut (by kernel_rfl) (of_decide_eq_true (by kernel_rfl)) k0 bel lt0) trodAll_mk0), rfl, bel.frame _, fun h => by cases h⟩

theorem over : Rows.sumsAccRow.holds Try.pinned (OpenSpec.ofChange Rows.sumsAccSpec) :=
  OpenClaim.holds_of_wide 8 Try.f8 rfl rfl rfl rfl rfl rfl rfl ⟨rfl, rfl, rfl, rfl, rfl⟩ rfl rfl rfl rfl rfl (by kernel_rfl) Try.func8 (by kernel_rfl)
    (of_decide_eq_true (by kernel_rfl)) (by unfold Func.isWrapper; first | (rw [if_pos (by decide +kernel)]; kernel_rfl) | (rw [if_neg (by decide +kernel)]; exact ⟨rfl, rfl⟩))
    (fun os started H enc _ => lifted os started H enc)

/-- ████ THE STATEMENT ████ -/
theorem proved : Rows.SumsAccSaid := over
#print axioms proved
end Go.Proofs.Ytmeifciagepmpaa.sumsAcc
