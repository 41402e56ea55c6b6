/- kernel.Taps: the errors. -/
import Derived.Test.YtdcpeeolfgohmaaTapW
namespace Go.Proofs.Ytdcpeeolfgohmaa
open Go.RowKit
set_option linter.unusedSimpArgs false
set_option linter.unusedVariables false

theorem sideB_iff (n : Int) : sideB n = true ↔ 1 ≤ n ∧ n ≤ 1024 := by
  unfold sideB; rw [Bool.and_eq_true, decide_eq_true_eq, decide_eq_true_eq]

/-- Why a place has no taps; 0: it has. -/
def tapsErr (kind from' tt i : Int) : Int :=
  if ¬ (1 ≤ kind ∧ kind ≤ 3) then 90
  else if ¬ (sideB from' = true ∧ sideB tt = true ∧ 0 ≤ i ∧ i < tt) then 91
  else if 15 * tt < from' then 92 else 0
theorem tapsErr_may {kind from' tt i : Int} (h : tapsErr kind from' tt i = 0) : TapsMay kind from' tt i := by
  unfold tapsErr at h
  by_cases h1 : 1 ≤ kind ∧ kind ≤ 3
  · by_cases h2 : sideB from' = true ∧ sideB tt = true ∧ 0 ≤ i ∧ i < tt
    · by_cases h3 : 15 * tt < from'
      · rw [if_neg (by simpa using h1), if_neg (by simpa using h2), if_pos h3] at h; cases h
      · have hf := (sideB_iff from').1 h2.1
        have ht := (sideB_iff tt).1 h2.2.1
        exact ⟨h1.1, h1.2, hf.1, hf.2, ht.1, ht.2, h2.2.2.1, h2.2.2.2, by omega⟩
    · rw [if_neg (by simpa using h1), if_pos h2] at h; cases h
  · rw [if_pos h1] at h; cases h
theorem may_tapsErr {kind from' tt i : Int} (h : TapsMay kind from' tt i) : tapsErr kind from' tt i = 0 := by
  unfold tapsErr
  rw [if_neg (by have := h.k1; have := h.k3; omega), if_neg, if_neg (by have := h.far; omega)]
  intro h'
  exact h' ⟨(sideB_iff _).2 ⟨h.f1, h.f2⟩, (sideB_iff _).2 ⟨h.t1, h.t2⟩, h.i0, h.i1⟩

/-- What a call of Taps comes to: an error's number and nothing; or the taps. -/
def TapsEnd (w : World) (kind from' tt i : Int) (e : Ending) (w' : World) : Prop :=
  (tapsErr kind from' tt i ≠ 0 ∧ e = .returned (.tuple #[.slice none 0 0, .int .i64 (tapsErr kind from' tt i)]) ∧ Below w.heap.size w w') ∨
  (tapsErr kind from' tt i = 0 ∧ ∃ v res, e = .returned (.tuple #[v, .int .i64 0]) ∧ IsShares (tapW (tapsOf kind from' tt i)) (tapsOf kind from' tt i).length res ∧
    TapsOut w (tapsTo (tapP (tapsOf kind from' tt i)) res (tapsOf kind from' tt i).length) v w')

/-- The world in which kernel.of is called. -/
def boxed (w : World) (from' tt i : Int) : World := ((w.alloc (.cells #[.int .i64 from'] 3)).alloc (.cells #[.int .i64 tt] 3)).alloc (.cells #[.int .i64 i] 3)
theorem boxed_below {w w1 : World} {from' tt i : Int} (h : Below (boxed w from' tt i).heap.size (boxed w from' tt i) w1) : Below w.heap.size w w1 := by
  have h0 : Below w.heap.size w (boxed w from' tt i) := (((Below.refl _ _).alloc (Nat.le_refl _) _).alloc (by simp) _).alloc (by simp; omega) _
  exact h0.trans (h.mono h0.size)
theorem boxed_cells {w w1 : World} {from' tt i : Int} (h : Below (boxed w from' tt i).heap.size (boxed w from' tt i) w1) :
    w1.heap[w.heap.size]? = some (.cells #[.int .i64 from'] 3 (0, 0)) ∧ w1.heap[w.heap.size + 1]? = some (.cells #[.int .i64 tt] 3 (0, 0)) ∧ w1.heap[w.heap.size + 2]? = some (.cells #[.int .i64 i] 3 (0, 0)) ∧ w.heap.size + 3 ≤ w1.heap.size := by
  have hs : (boxed w from' tt i).heap.size = w.heap.size + 3 := by simp [boxed]
  rw [hs] at h
  refine ⟨?_, ?_, ?_, ?_⟩
  · rw [h.block _ (by omega)]; simp (disch := omega) only [boxed, heap_alloc_if, World.size_alloc, if_neg, ↓reduceIte]
  · rw [h.block _ (by omega)]; simp (disch := omega) only [boxed, heap_alloc_if, World.size_alloc, if_neg, ↓reduceIte]
  · rw [h.block _ (by omega)]; simp (disch := omega) only [boxed, heap_alloc_if, World.size_alloc, if_neg, ↓reduceIte]
  · have := h.size; rw [hs] at this; exact this

set_option maxHeartbeats 1600000 in
set_option maxRecDepth 100000 in
theorem kTaps_err1 (kind from' tt i : Int) (w : World) (h : ¬ (1 ≤ kind ∧ kind ≤ 3)) :
    Calls Try.prog 47 #[.int .i64 kind, .int .i64 from', .int .i64 tt, .int .i64 i] w fun e w' => TapsEnd w kind from' tt i e w' := by
  have E : Hid (tapsErr kind from' tt i = 90) := (show _ = _ from if_pos h)
  have HO := Lib.hid fun W => of_no kind (by omega) W
  clear h
  go_enter Try.func47, Try.ntmps47
  go_wp2_with (go_at_call 89; refine (HO.out _).mono ?_; rintro e1 w1 ⟨rfl, hb⟩; have HB := Lib.hid (boxed_below (from' := from') (tt := tt) (i := i) hb); clear hb)
  go_ret2
  refine .inl ⟨by rw [E.out]; decide, by rw [E.out]; rfl, ?_⟩
  exact HB.out.alloc HB.out.size _

/-- The way to one of the later errors: which test says so. -/
def Err2 (from' tt i : Int) : Prop := sideB from' = false ∨ (sideB from' = true ∧ sideB tt = false) ∨ (sideB from' = true ∧ sideB tt = true ∧ i < 0) ∨ (sideB from' = true ∧ sideB tt = true ∧ 0 ≤ i ∧ tt ≤ i)

set_option maxHeartbeats 1600000 in
set_option maxRecDepth 100000 in
theorem kTaps_err2 (kind from' tt i : Int) (w : World) (h1 : 1 ≤ kind) (h3 : kind ≤ 3) (h : Err2 from' tt i) :
    Calls Try.prog 47 #[.int .i64 kind, .int .i64 from', .int .i64 tt, .int .i64 i] w fun e w' => TapsEnd w kind from' tt i e w' := by
  have E : Hid (tapsErr kind from' tt i = 91) := (show _ = _ by
    unfold tapsErr
    rw [if_neg (by omega), if_pos]
    rintro ⟨a, b, c, d⟩
    rcases h with h | ⟨_, h⟩ | ⟨_, _, h⟩ | ⟨_, _, _, h⟩
    · rw [a] at h; cases h
    · rw [b] at h; cases h
    · omega
    · omega)
  have HO := Lib.hid fun W => of_yes kind h1 h3 W
  have HS := Lib.hid fun n W => side_calls n W
  clear h1 h3
  have key : ∀ w1 : World, Below (boxed w from' tt i).heap.size (boxed w from' tt i) w1 → w1.cell? ⟨w.heap.size, 0, none⟩ = some (.int .i64 from') ∧ w1.cell? ⟨w.heap.size + 1, 0, none⟩ = some (.int .i64 tt) ∧ w1.cell? ⟨w.heap.size + 1 + 1, 0, none⟩ = some (.int .i64 i) ∧ w.heap.size < w1.heap.size ∧ w.heap.size + 1 < w1.heap.size ∧ w.heap.size + 1 + 1 < w1.heap.size := fun w1 hb => by
    have hc := boxed_cells hb
    have k1 := bcell hc.1 0
    have k2 := bcell hc.2.1 0
    have k3 := bcell hc.2.2.1 0
    exact ⟨by simpa using k1, by simpa using k2, by simpa using k3, by have := hc.2.2.2; omega, by have := hc.2.2.2; omega, by have := hc.2.2.2; omega⟩
  have KEY := Lib.hid key
  clear key
  rcases h with h | ⟨h, h'⟩ | ⟨h, h', h''⟩ | ⟨h, h', h'', h'''⟩
  all_goals
    go_enter Try.func47, Try.ntmps47
    go_wp2_with (first | (go_at_call 89; refine (HO.out _).mono ?_; rintro e1 w1 ⟨rfl, hb⟩; obtain ⟨kc1, kc2, kc3, kz1, kz2, kz3⟩ := KEY.out _ hb; have HB := Lib.hid (boxed_below (from' := from') (tt := tt) (i := i) hb); clear hb) | (go_at_call 90; refine (HS.out _ _).mono ?_; rintro e2 w2 ⟨rfl, rfl⟩))
    go_ret2
    refine .inl ⟨by rw [E.out]; decide, by rw [E.out]; rfl, ?_⟩
    exact HB.out.alloc HB.out.size _
end Go.Proofs.Ytdcpeeolfgohmaa
