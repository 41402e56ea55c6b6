/- halideref2's forms: top, bias, sign, Made, F32, F64. -/
import Derived.Test.YtdcpeeolfgohmaaNatAF
import Derived.Deep.RegionHeld3
import Derived.BigQuiet
namespace Go.Proofs.Ytdcpeeolfgohmaa
open Go.RowKit Go.Proofs.YtdcpeeolfgohmaaW.PrintWords
set_option linter.unusedSimpArgs false
set_option linter.unusedVariables false

/-- binary32 and binary64. -/
def IsForm (fr ex bias top : Nat) : Prop := (fr = 23 ∧ ex = 8 ∧ bias = 150 ∧ top = 255) ∨ (fr = 52 ∧ ex = 11 ∧ bias = 1075 ∧ top = 2047)
def formV (fr ex : Nat) : Value := .agg #[.int .i64 (fr : Int), .int .i64 (ex : Int)]
theorem keep2 {W W' : World} {p q : Addr} {x y : Value} (h : W.cell? p = some x ∧ W.cell? q = some y) (hb : Below W.heap.size W W') : W'.cell? p = some x ∧ W'.cell? q = some y :=
  ⟨(hb.cell (World.block_lt_of_cell? _ _ h.1)).trans h.1, (hb.cell (World.block_lt_of_cell? _ _ h.2)).trans h.2⟩
theorem keep3 {w W W' : World} {p q : Addr} {x y : Value} (h : W.cell? p = some x ∧ W.cell? q = some y ∧ Below w.heap.size w W) (hb : Below W.heap.size W W') : W'.cell? p = some x ∧ W'.cell? q = some y ∧ Below w.heap.size w W' :=
  ⟨(hb.cell (World.block_lt_of_cell? _ _ h.1)).trans h.1, (hb.cell (World.block_lt_of_cell? _ _ h.2.1)).trans h.2.1, ujoin h.2.2 hb⟩
def Gives (w : World) (v : Value) (e : Ending) (w' : World) : Prop := e = .returned v ∧ Below w.heap.size w w'

set_option maxHeartbeats 1600000 in
set_option maxRecDepth 100000 in
theorem top_calls (fr ex bias top : Nat) (hf : IsForm fr ex bias top) (w : World) :
    Calls Try.prog 131 #[formV fr ex] w fun e w' => Gives w (.int .u64 (top : Int)) e w' := by
  rcases hf with ⟨rfl, rfl, rfl, rfl⟩ | ⟨rfl, rfl, rfl, rfl⟩
  all_goals
    unfold formV
    go_enter Try.func131, Try.ntmps131
    go_wp2
    go_ret
    exact ⟨rfl, (Below.refl _ _).alloc (Nat.le_refl _) _⟩

set_option maxHeartbeats 1600000 in
set_option maxRecDepth 100000 in
theorem bias_calls (fr ex bias top : Nat) (hf : IsForm fr ex bias top) (w : World) :
    Calls Try.prog 133 #[formV fr ex] w fun e w' => Gives w (.int .i64 (bias : Int)) e w' := by
  rcases hf with ⟨rfl, rfl, rfl, rfl⟩ | ⟨rfl, rfl, rfl, rfl⟩
  all_goals
    unfold formV
    go_enter Try.func133, Try.ntmps133
    go_wp2
    go_quiet (fail)
    go_wp2
    go_ret
    exact ⟨rfl, pw_below_drewN ((Below.refl _ _).alloc (Nat.le_refl _) _) _⟩

set_option maxHeartbeats 1600000 in
set_option maxRecDepth 100000 in
theorem sign_calls (fr ex bias top : Nat) (hf : IsForm fr ex bias top) (neg : Bool) (w : World) :
    Calls Try.prog 136 #[formV fr ex, .bool neg] w fun e w' => Gives w (.int .u64 ((if neg then 2 ^ (fr + ex) else 0 : Nat) : Int)) e w' := by
  rcases hf with ⟨rfl, rfl, rfl, rfl⟩ | ⟨rfl, rfl, rfl, rfl⟩
  all_goals
    unfold formV
    cases neg
    all_goals
      go_enter Try.func136, Try.ntmps136
      go_wp2
      try (go_quiet (fail); go_wp2)
      go_ret
      first
      | exact ⟨rfl, (Below.refl _ _).alloc (Nat.le_refl _) _⟩
      | exact ⟨rfl, pw_below_drewN ((Below.refl _ _).alloc (Nat.le_refl _) _) _⟩

set_option maxHeartbeats 1600000 in
set_option maxRecDepth 100000 in
theorem F32_calls (w : World) : Calls Try.prog 154 #[] w fun e w' => Gives w (formV 23 8) e w' := by
  go_enter Try.func154, Try.ntmps154
  go_wp2
  exact bodyPost_ret (v := .agg #[.int .i64 23, .int .i64 8]) (by simp [results, Try.results154, go_sem]) rfl ⟨rfl, (Below.refl _ _).alloc (Nat.le_refl _) _⟩

set_option maxHeartbeats 1600000 in
set_option maxRecDepth 100000 in
theorem F64_calls (w : World) : Calls Try.prog 107 #[] w fun e w' => Gives w (formV 52 11) e w' := by
  go_enter Try.func107, Try.ntmps107
  go_wp2
  exact bodyPost_ret (v := .agg #[.int .i64 52, .int .i64 11]) (by simp [results, Try.results107, go_sem]) rfl ⟨rfl, (Below.refl _ _).alloc (Nat.le_refl _) _⟩

/-- A form in memory. -/
def FormAt (w : World) (g fr ex : Nat) : Prop := w.cell? ⟨g, 0, none⟩ = some (.int .i64 (fr : Int)) ∧ w.cell? ⟨g, 1, none⟩ = some (.int .i64 (ex : Int))
theorem FormAt.new (w : World) (fr ex : Nat) : FormAt (w.alloc (.cells #[.int .i64 (fr : Int), .int .i64 (ex : Int)] 162)) w.heap.size fr ex := ⟨by simp, by simp⟩
theorem FormAt.below {w w1 : World} {g fr ex : Nat} (h : FormAt w g fr ex) (hb : Below w.heap.size w w1) : FormAt w1 g fr ex := keep2 h hb

set_option maxHeartbeats 1600000 in
set_option maxRecDepth 100000 in
theorem made_calls (fr ex bias top : Nat) (hf : IsForm fr ex bias top) (w : World) :
    Calls Try.prog 135 #[formV fr ex] w fun e w' => Gives w (.int .u64 ((top * 2 ^ fr + 2 ^ (fr - 1) : Nat) : Int)) e w' := by
  have HT := Lib.hid fun W => top_calls fr ex bias top hf W
  obtain ⟨f1, ef1⟩ : ∃ f1 : Nat, f1 = fr - 1 := ⟨_, rfl⟩
  obtain ⟨A, eA⟩ : ∃ A : Nat, A = top * 2 ^ fr := ⟨_, rfl⟩
  obtain ⟨B, eB⟩ : ∃ B : Nat, B = 2 ^ f1 := ⟨_, rfl⟩
  have F : fr ≤ 52 ∧ f1 ≤ 51 ∧ (fr : Int) - 1 = (f1 : Int) ∧ IntKind.u64.wrap ((top : Int) * 2 ^ fr) = (A : Int) ∧ IntKind.u64.wrap (1 * 2 ^ f1) = (B : Int) ∧ IntKind.u64.wrap (2 ^ f1) = (B : Int) ∧ bits .or .u64 (A : Int) (B : Int) = ((top * 2 ^ fr + 2 ^ (fr - 1) : Nat) : Int) := by
    rcases hf with ⟨rfl, rfl, rfl, rfl⟩ | ⟨rfl, rfl, rfl, rfl⟩
    all_goals
      subst ef1 eB eA
      decide +kernel
  obtain ⟨hfr, hf1, F1, F2, F3, F3', F4⟩ := F
  obtain ⟨C, eC⟩ : ∃ C : Nat, C = top * 2 ^ fr + 2 ^ (fr - 1) := ⟨_, rfl⟩
  rw [← eC] at F4 ⊢
  have G1 : IntKind.i64.wrap ((fr : Int) - 1) = (f1 : Int) := by rw [F1]; exact IntWalk.i64_in _ (by omega)
  clear ef1 eA eB F1 eC
  unfold formV at HT ⊢
  go_enter Try.func135, Try.ntmps135
  go_wp2
  have hw := FormAt.new w fr ex
  have HB : Hid (Below w.heap.size w (w.alloc (.cells #[.int .i64 (fr : Int), .int .i64 (ex : Int)] 162))) := (Below.refl _ _).alloc (Nat.le_refl _) _
  generalize w.alloc (.cells #[.int .i64 (fr : Int), .int .i64 (ex : Int)] 162) = w0 at hw HB ⊢
  obtain ⟨g, eg⟩ : ∃ g, g = w.heap.size := ⟨_, rfl⟩
  rw [← eg] at hw ⊢
  clear eg
  obtain ⟨c1, c2⟩ := hw
  have hb0 := HB.out
  clear HB
  go_region_held3 (fun w' => w'.cell? ⟨g, 0, none⟩ = some (.int .i64 (fr : Int)) ∧ w'.cell? ⟨g, 1, none⟩ = some (.int .i64 (ex : Int)) ∧ Below w.heap.size w w') (first | exact ⟨c1, c2, hb0.drew⟩ | exact keep3 ‹_› hbel) (first | (go_at_call 131; refine (HT.out _).mono ?_; rintro e1 w1 ⟨rfl, hbel⟩))
  go_wp2
  go_ret
  rename_i hHeld
  exact ⟨rfl, hHeld.2.2⟩
end Go.Proofs.Ytdcpeeolfgohmaa
