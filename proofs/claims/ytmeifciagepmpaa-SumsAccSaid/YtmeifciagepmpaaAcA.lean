/- bits.Parts. -/
import Derived.Test.YtmeifciagepmpaaExD
namespace Go.Proofs.Ytmeifciagepmpaa
open Go.RowKit Go.Proofs.YtmeifciagepmpaaW.PrintWords
set_option linter.unusedSimpArgs false
set_option linter.unusedVariables false

/-- The size of a finite sample in units of 2^-149 is pM 2^(pE + 149). -/
def pM (a : Nat) : Nat := if expN a = 0 then fracN a else fracN a + 8388608
def pN (a : Nat) : Int := if expN a = 255 then 0 else if sgnB a then -(pM a : Int) else (pM a : Int)
def pE (a : Nat) : Int := if expN a = 255 then 0 else if expN a = 0 then -149 else (expN a : Int) - 150
theorem ret_parts {a b c d : Int} {x y : Bool} (h1 : a = c) (h2 : b = d) (h3 : x = y) : Ending.returned (.tuple #[.int .i64 a, .int .i64 b, .bool x]) = .returned (.tuple #[.int .i64 c, .int .i64 d, .bool y]) := by rw [h1, h2, h3]

theorem PartsAt.new (w : World) (s : Bool) (x m : Int) (W : World) (hW : W = w.alloc (.cells #[.bool s, .int .i64 x, .int .i64 m] 119)) :
    W.cell? ⟨w.heap.size, 0, none⟩ = some (.bool s) ∧ W.cell? ⟨w.heap.size, 1, none⟩ = some (.int .i64 x) ∧ W.cell? ⟨w.heap.size, 2, none⟩ = some (.int .i64 m) ∧ Below w.heap.size w W := by
  subst hW
  have h := heap_alloc_new w (.cells #[.bool s, .int .i64 x, .int .i64 m] 119)
  exact ⟨by rw [ucell h]; rfl, by rw [ucell h]; rfl, by rw [ucell h]; rfl, (Below.refl _ _).alloc (Nat.le_refl _) _⟩

set_option maxHeartbeats 3200000 in
set_option maxRecDepth 100000 in
theorem parts_calls (a : Nat) (ha : a < 4294967296) (w : World) :
    Calls Try.prog 64 #[.int .u32 (a : Int)] w fun e w' => Gives w (.tuple #[.int .i64 (pN a), .int .i64 (pE a), .bool (decide (expN a ≠ 255))]) e w' := by
  have HSP := Lib.hid fun W => split_calls a ha W
  have EN : Hid (pN a = if expN a = 255 then 0 else if sgnB a then -(pM a : Int) else (pM a : Int)) := (show _ = _ from rfl)
  have EM : Hid (pM a = if expN a = 0 then fracN a else fracN a + 8388608) := (show _ = _ from rfl)
  have EE : Hid (pE a = if expN a = 255 then 0 else if expN a = 0 then -149 else (expN a : Int) - 150) := (show _ = _ from rfl)
  have hm : fracN a < 8388608 := Nat.mod_lt _ (by decide)
  have hx : expN a < 256 := Nat.mod_lt _ (by decide)
  obtain ⟨s, es⟩ : ∃ s, s = sgnB a := ⟨_, rfl⟩
  obtain ⟨x, ex⟩ : ∃ x, x = expN a := ⟨_, rfl⟩
  obtain ⟨m, em⟩ : ∃ m, m = fracN a := ⟨_, rfl⟩
  obtain ⟨M, eM⟩ : ∃ M, M = pM a := ⟨_, rfl⟩
  obtain ⟨rn, ern⟩ : ∃ r, r = pN a := ⟨_, rfl⟩
  obtain ⟨re, ere⟩ : ∃ r, r = pE a := ⟨_, rfl⟩
  rw [← es, ← ex, ← em] at HSP
  rw [← ern, ← es, ← ex, ← eM] at EN
  rw [← eM, ← ex, ← em] at EM
  rw [← ere, ← ex] at EE
  rw [← ern, ← ere, ← ex]
  rw [← ex] at hx
  rw [← em] at hm
  clear es ex em ha ern ere eM
  rcases (show x = 255 ∨ x = 0 ∨ (x ≠ 255 ∧ x ≠ 0) by omega) with h1 | h1 | ⟨h1, h2⟩
  · as_aux_lemma =>
    subst h1
    have E1 : Hid (rn = 0) := EN.out
    have E2 : Hid (re = 0) := EE.out
    clear EN EE
    go_enter Try.func64, Try.ntmps64
    go_wp2_with (go_at_call 94; refine (HSP.out _).mono ?_; rintro e1 w1 ⟨rfl, hbel⟩; have HB1 := Lib.hid hbel; clear hbel)
    go_ret3
    exact ⟨ret_parts E1.out.symm E2.out.symm (by rfl), ujoin HB1.out ((Below.refl _ _).alloc (Nat.le_refl _) _)⟩
  · subst h1
    have E2 : Hid (re = -149) := EE.out
    have e0 : M = m := EM.out
    subst e0
    clear EE EM
    cases s with
    | true => as_aux_lemma =>
      have E1 : Hid (rn = -(M : Int)) := EN.out
      clear EN
      go_enter Try.func64, Try.ntmps64
      go_wp2_with (go_at_call 94; refine (HSP.out _).mono ?_; rintro e1 w1 ⟨rfl, hbel⟩; have HB1 := Lib.hid hbel; clear hbel)
      go_ret3
      exact ⟨ret_parts E1.out.symm E2.out.symm (by rfl), ujoin HB1.out ((Below.refl _ _).alloc (Nat.le_refl _) _)⟩
    | false => as_aux_lemma =>
      have E1 : Hid (rn = (M : Int)) := EN.out
      clear EN
      go_enter Try.func64, Try.ntmps64
      go_wp2_with (go_at_call 94; refine (HSP.out _).mono ?_; rintro e1 w1 ⟨rfl, hbel⟩; have HB1 := Lib.hid hbel; clear hbel)
      go_ret3
      exact ⟨ret_parts E1.out.symm E2.out.symm (by rfl), ujoin HB1.out ((Below.refl _ _).alloc (Nat.le_refl _) _)⟩
  · have hb1 : ((x : Int) == 255) = false := by rw [beq_eq_false_iff_ne]; omega
    have hb2 : ((x : Int) == 0) = false := by rw [beq_eq_false_iff_ne]; omega
    have E2 : Hid (re = (x : Int) - 150) := (show _ = _ by rw [EE.out, if_neg h1, if_neg h2])
    have E3 : Hid (decide (x ≠ 255) = true) := (show _ = _ from decide_eq_true h1)
    have E1 : Hid (rn = if s then -(M : Int) else (M : Int)) := (show _ = _ by rw [EN.out, if_neg h1])
    have hM2 : M = m + 8388608 := by rw [EM.out, if_neg h2]
    have W1 : IntKind.i64.wrap ((m : Int) + 8388608) = (M : Int) := by rw [IntWalk.i64_in _ (by omega)]; omega
    have hM : M < 20000000 := by omega
    clear EM hM2
    clear EN EE h1 h2
    cases s with
    | true =>
      have E5 : Hid (rn = -(M : Int)) := (show _ = _ from E1.out.trans (if_pos rfl))
      clear E1
      go_enter Try.func64, Try.ntmps64
      go_upto_region 2 with (go_at_call 94; refine (HSP.out _).mono ?_; rintro e1 w1 ⟨rfl, hbel⟩; have HB1 := Lib.hid hbel; clear hbel)
      obtain ⟨W2, eW⟩ : ∃ W2, W2 = w1.alloc (.cells #[.bool true, .int .i64 (x : Int), .int .i64 (m : Int)] 119) := ⟨_, rfl⟩
      obtain ⟨g, eg⟩ : ∃ g, g = w1.heap.size := ⟨_, rfl⟩
      obtain ⟨c0, c1, c2, hbe⟩ := PartsAt.new w1 true x m W2 eW
      have HB2 := Lib.hid (ujoin HB1.out hbe)
      rw [← eg] at c0 c1 c2 ⊢
      rw [← eW]
      clear hbe HB1 eg eW
      go_wp2
      as_aux_lemma =>
      go_wp2
      go_quiet (fail)
      as_aux_lemma =>
      go_wp2
      go_ret3
      exact ⟨ret_parts E5.out.symm E2.out.symm E3.out.symm, ujoin HB2.out (Drawn0.mk ⟨_, rfl⟩).below⟩
    | false =>
      have E5 : Hid (rn = (M : Int)) := (show _ = _ from E1.out.trans (if_neg (by decide)))
      clear E1
      go_enter Try.func64, Try.ntmps64
      go_upto_region 2 with (go_at_call 94; refine (HSP.out _).mono ?_; rintro e1 w1 ⟨rfl, hbel⟩; have HB1 := Lib.hid hbel; clear hbel)
      obtain ⟨W2, eW⟩ : ∃ W2, W2 = w1.alloc (.cells #[.bool false, .int .i64 (x : Int), .int .i64 (m : Int)] 119) := ⟨_, rfl⟩
      obtain ⟨g, eg⟩ : ∃ g, g = w1.heap.size := ⟨_, rfl⟩
      obtain ⟨c0, c1, c2, hbe⟩ := PartsAt.new w1 false x m W2 eW
      have HB2 := Lib.hid (ujoin HB1.out hbe)
      rw [← eg] at c0 c1 c2 ⊢
      rw [← eW]
      clear hbe HB1 eg eW
      go_wp2
      as_aux_lemma =>
      go_wp2
      go_quiet (fail)
      as_aux_lemma =>
      go_wp2
      go_ret3
      exact ⟨ret_parts E5.out.symm E2.out.symm E3.out.symm, ujoin HB2.out (Drawn0.mk ⟨_, rfl⟩).below⟩
end Go.Proofs.Ytmeifciagepmpaa
