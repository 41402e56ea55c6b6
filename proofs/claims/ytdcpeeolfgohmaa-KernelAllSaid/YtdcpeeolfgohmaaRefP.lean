/- Plain: the document's range of places gives the same taps. -/
import Derived.Test.YtdcpeeolfgohmaaRefW
namespace Go.Proofs.Ytdcpeeolfgohmaa
set_option linter.unusedSimpArgs false
set_option linter.unusedVariables false

def refMid (from' tt i : Int) : Int := ((2 * i + 1) * from' - tt) / (2 * tt)
def refReach (from' tt : Int) : Int := 2 * max from' tt / tt + 2
def refN (from' tt : Int) : Nat := (2 * refReach from' tt + 2).toNat

theorem refReach_bd {kind from' tt i : Int} (h : TapsMay kind from' tt i) : 2 ≤ refReach from' tt ∧ refReach from' tt ≤ 32 ∧ 4 * max from' tt < 2 * tt * (refReach from' tt - 1) ∧ 2 * tt * (refReach from' tt - 2) ≤ 4 * max from' tt := by
  have ht := h.t1
  have hf := h.f1
  have hm : max from' tt ≤ 15 * tt := by have := h.far; omega
  obtain ⟨m, em⟩ : ∃ m, m = max from' tt := ⟨_, rfl⟩
  have h1 := Int.mul_ediv_self_le (x := 2 * m) (k := tt) (by omega)
  have h2 := Int.lt_mul_ediv_self_add (x := 2 * m) (k := tt) (by omega)
  have h0 : 0 ≤ 2 * m / tt := Int.ediv_nonneg (by omega) (by omega)
  unfold refReach
  rw [← em] at hm ⊢
  obtain ⟨q, eq⟩ : ∃ q, q = 2 * m / tt := ⟨_, rfl⟩
  rw [← eq] at h0 h1 h2 ⊢
  have e1 : 2 * tt * (q + 2 - 1) = 2 * (tt * q) + 2 * tt := by grind
  have e2 : 2 * tt * (q + 2 - 2) = 2 * (tt * q) := by grind
  refine ⟨by omega, ?_, by omega, by omega⟩
  rcases Int.lt_or_le q 31 with h3 | h3
  · omega
  · have := Int.mul_le_mul_of_nonneg_left h3 (by omega : 0 ≤ tt); omega

theorem refMid_bd {kind from' tt i : Int} (h : TapsMay kind from' tt i) : 2 * tt * refMid from' tt i ≤ (2 * i + 1) * from' - tt ∧ (2 * i + 1) * from' - tt < 2 * tt * refMid from' tt i + 2 * tt := by
  have ht := h.t1
  have h1 := Int.mul_ediv_self_le (x := (2 * i + 1) * from' - tt) (k := 2 * tt) (by omega)
  have h2 := Int.lt_mul_ediv_self_add (x := (2 * i + 1) * from' - tt) (k := 2 * tt) (by omega)
  exact ⟨h1, h2⟩

theorem ref_at {kind from' tt i : Int} (h : TapsMay kind from' tt i) (j : Int) (h1 : refMid from' tt i - refReach from' tt ≤ j) (h2 : j ≤ refMid from' tt i + 1 + refReach from' tt) : -12288 ≤ atOf from' tt i j ∧ atOf from' tt i j ≤ 12288 := by
  have hr := refReach_bd h
  have hm := refMid_bd h
  have ht := h.t1
  have ht2 := h.t2
  have hf2 := h.f2
  obtain ⟨r, er⟩ : ∃ r, r = refReach from' tt := ⟨_, rfl⟩
  obtain ⟨d, ed⟩ : ∃ d, d = refMid from' tt i := ⟨_, rfl⟩
  rw [← er] at hr h1 h2
  rw [← ed] at hm h1 h2
  have e0 : atOf from' tt i j = 2 * tt * j - ((2 * i + 1) * from' - tt) := by unfold atOf; grind
  have a1 : 2 * tt * (d - r) ≤ 2 * tt * j := Int.mul_le_mul_of_nonneg_left h1 (by omega)
  have a2 : 2 * tt * j ≤ 2 * tt * (d + 1 + r) := Int.mul_le_mul_of_nonneg_left h2 (by omega)
  have e1 : 2 * tt * (d - r) = 2 * tt * d - 2 * tt * (r - 2) - 4 * tt := by grind
  have e2 : 2 * tt * (d + 1 + r) = 2 * tt * d + 2 * tt * (r - 2) + 6 * tt := by grind
  rw [e0]
  omega

theorem tapsOf_ref {kind from' tt i : Int} (h : TapsMay kind from' tt i) : tapsOf kind from' tt i = tapRun (tapF kind from' tt i) from' (refMid from' tt i - refReach from' tt) (refN from' tt) := by
  have hr := refReach_bd h
  have hm := refMid_bd h
  have hk := kReach_bd kind
  have ht := h.t1
  have hf := h.f1
  have hl := tapLo_at h
  obtain ⟨m, em⟩ : ∃ m, m = max from' tt := ⟨_, rfl⟩
  have hR := mul_bd (a := kReach kind) (b := m) (A := 4) (B := m) (by omega) hk.2 (by omega) (by omega)
  have hR0 : 0 ≤ kReach kind * m := Int.mul_nonneg (by omega) (by omega)
  rw [← em] at hr hl
  have eN : (refN from' tt : Int) = 2 * refReach from' tt + 2 := by unfold refN; rw [Int.toNat_of_nonneg (by omega)]
  obtain ⟨r, er⟩ : ∃ r, r = refReach from' tt := ⟨_, rfl⟩
  obtain ⟨d, ed⟩ : ∃ d, d = refMid from' tt i := ⟨_, rfl⟩
  rw [← er] at hr eN ⊢
  rw [← ed] at hm ⊢
  have e0 : ∀ j, atOf from' tt i j = 2 * tt * j - ((2 * i + 1) * from' - tt) := fun j => by unfold atOf; grind
  obtain ⟨lo, elo⟩ : ∃ lo, lo = tapLo kind from' tt i := ⟨_, rfl⟩
  rw [← elo, e0] at hl
  -- the kernel's first place is within
  have hlo : d - r ≤ lo := by
    rcases Int.lt_or_le lo (d - r) with h1 | h1
    · exfalso
      have a1 : 2 * tt * (lo + 1) ≤ 2 * tt * (d - r) := Int.mul_le_mul_of_nonneg_left (by omega) (by omega)
      have e1 : 2 * tt * (lo + 1) = 2 * tt * lo + 2 * tt := by grind
      have e2 : 2 * tt * (d - r) = 2 * tt * d - 2 * tt * (r - 1) - 2 * tt := by grind
      omega
    · exact h1
  have hhi : lo ≤ d := by
    rcases Int.lt_or_le d lo with h1 | h1
    · exfalso
      have a1 : 2 * tt * (d + 1) ≤ 2 * tt * lo := Int.mul_le_mul_of_nonneg_left (by omega) (by omega)
      have e1 : 2 * tt * (d + 1) = 2 * tt * d + 2 * tt := by grind
      omega
    · exact h1
  unfold tapsOf
  rw [← elo]
  refine tapRun_same (tapF kind from' tt i) from' lo (d - r) (tapN kind from' tt i) (refN from' tt) hlo (fun j hj => tapF_low h j (by omega)) (fun j hj => tapF_high h j (by omega)) (fun j hj => ?_) (by omega)
  have a1 : 2 * tt * (d + r + 2) ≤ 2 * tt * j := Int.mul_le_mul_of_nonneg_left (by omega) (by omega)
  have e1 : 2 * tt * (d + r + 2) = 2 * tt * d + 2 * tt * (r - 1) + 6 * tt := by grind
  unfold tapF
  rw [← em]
  refine wK_far h.k1 h.k3 (by omega) (.inr ?_)
  rw [e0]
  omega
end Go.Proofs.Ytdcpeeolfgohmaa
