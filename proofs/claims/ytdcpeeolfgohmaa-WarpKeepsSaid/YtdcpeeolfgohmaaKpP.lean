/- Plain law of WarpKeeps: machine floats in order; the least and the greatest of spots; what is told of them lies between. -/
import Derived.Test.YtdcpeeolfgohmaaMonAB
import Derived.Test.YtdcpeeolfgohmaaNarQ
namespace Go.Proofs.Ytdcpeeolfgohmaa
open Go.RowKit
set_option linter.unusedSimpArgs false
set_option linter.unusedVariables false

theorem fin_of_exp {a : Nat} (ha : a < 4294967296) (h : expN a ≠ 255) : Fin32 a := by
  refine ⟨ha, ?_⟩
  have e1 : a / 2 ^ 23 % 2 ^ 8 = expN a := by unfold expN; rfl
  rw [rd32, read_parts 23 8 150 255 isF32, e1, if_neg h]
  split <;> exact ⟨_, _, _, rfl⟩
theorem fin_exp {a : Nat} (h : Fin32 a) : expN a ≠ 255 := fun hx => by
  obtain ⟨ha, s, m, p, e⟩ := h
  have e1 : a / 2 ^ 23 % 2 ^ 8 = expN a := by unfold expN; rfl
  rw [rd32, read_parts 23 8 150 255 isF32, e1, if_pos hx] at e
  split at e <;> cases e
theorem fin_not_nan {a : Nat} (h : Fin32 a) : (rd32 a).isNaN = false := by
  obtain ⟨ha, s, m, p, e⟩ := h
  rw [e]; rfl
/-- A finite sample in binary64, written back. -/
theorem back_fin {a : Nat} (h : Fin32 a) : told32 (rd64 (wide64 a)) = a := by
  rw [told_finer a (fin_not_nan h), ← first_eq a h.1]
  unfold first32
  rw [fin_not_nan h]
  rfl
/-- Two finite samples: their values in order as their keys. -/
theorem wide_order {a b : Nat} (ha : Fin32 a) (hb : Fin32 b) {s t : Bool} {m n : Nat} {p q : Int} (h1 : rd64 (wide64 a) = .number s m p) (h2 : rd64 (wide64 b) = .number t n q) : valK 1074 s m p ≤ valK 1074 t n q ↔ key32 a ≤ key32 b := by
  constructor
  · intro h
    have k := key_mono 23 8 150 255 isF32 1074 (by decide) (read64_low _ _ _ _ h1) (read64_low _ _ _ _ h2) h
    have e1 := back_fin ha
    have e2 := back_fin hb
    rw [h1] at e1
    rw [h2] at e2
    have f1 : (fmt 23 8).write (.number s m p) = a := e1
    have f2 : (fmt 23 8).write (.number t n q) = b := e2
    rw [f1, f2] at k
    exact k
  · intro h
    obtain ⟨s', m', p', t', n', q', r1, r2, -, -, hv⟩ := LeW.wide ha hb h
    rw [h1] at r1
    rw [h2] at r2
    injection r1 with i1 i2 i3
    injection r2 with j1 j2 j3
    subst i1 i2 i3 j1 j2 j3
    exact hv
theorem cmp_lt {a b : Int} (h : a < b) : compare a b = .lt := by
  show compareOfLessAndEq a b = .lt
  unfold compareOfLessAndEq
  rw [if_pos h]
theorem cmp_eq {a b : Int} (h : a = b) : compare a b = .eq := by
  show compareOfLessAndEq a b = .eq
  unfold compareOfLessAndEq
  rw [if_neg (by omega), if_pos h]
theorem cmp_gt {a b : Int} (h : b < a) : compare a b = .gt := by
  show compareOfLessAndEq a b = .gt
  unfold compareOfLessAndEq
  rw [if_neg (by omega), if_neg (by omega)]
theorem cmp_scale {a b : Int} {k : Nat} : compare (a * ((2 ^ k : Nat) : Int)) (b * ((2 ^ k : Nat) : Int)) = compare a b := by
  have hP : 0 < ((2 ^ k : Nat) : Int) := by have := Nat.two_pow_pos k; omega
  rcases Int.lt_trichotomy a b with h | h | h
  · rw [cmp_lt h, cmp_lt (Int.mul_lt_mul_of_pos_right h hP)]
  · rw [h, cmp_eq rfl, cmp_eq rfl]
  · rw [cmp_gt h, cmp_gt (Int.mul_lt_mul_of_pos_right h hP)]
theorem order_num {s t : Bool} {m n : Nat} {p q : Int} (hp : -1074 ≤ p) (hq : -1074 ≤ q) : (Ieee.Datum.number s m p).order (.number t n q) = some (compare (valK 1074 s m p) (valK 1074 t n q)) := by
  obtain ⟨b, eb⟩ : ∃ b : Nat, (b : Int) = min p q + 1074 := ⟨(min p q + 1074).toNat, by omega⟩
  have h1 : (p + ((1074 : Nat) : Int)).toNat = (p - min p q).toNat + b := by omega
  have h2 : (q + ((1074 : Nat) : Int)).toNat = (q - min p q).toNat + b := by omega
  unfold valK
  rw [h1, h2, ← signed_val, ← signed_val, cmp_scale]
  rfl
theorem cmp_iff {a b c d : Int} (h : a ≤ b ↔ c ≤ d) (k : b ≤ a ↔ d ≤ c) : compare a b = compare c d := by
  rcases Int.lt_trichotomy a b with g | g | g
  · rw [cmp_lt g, cmp_lt (by omega)]
  · rw [cmp_eq g, cmp_eq (by omega)]
  · rw [cmp_gt g, cmp_gt (by omega)]
theorem wide_cmp {a b : Nat} (ha : Fin32 a) (hb : Fin32 b) : FloatKind.f64.format.order (wide64 a) (wide64 b) = some (compare (key32 a) (key32 b)) := by
  obtain ⟨s, m, p, e⟩ := wide_fin ha
  obtain ⟨t, n, q, f⟩ := wide_fin hb
  show (rd64 (wide64 a)).order (rd64 (wide64 b)) = _
  rw [e, f, order_num (read64_low _ _ _ _ e) (read64_low _ _ _ _ f)]
  rw [cmp_iff (wide_order ha hb e f) (wide_order hb ha f e)]
def pInf : Nat := 9218868437227405312
def nInf : Nat := 18442240474082181120
theorem pInf_read : rd64 pInf = .infinity false := by decide +kernel
theorem nInf_read : rd64 nInf = .infinity true := by decide +kernel
/-- The least so far, the greatest so far. -/
def LoIs (z : Nat → Nat) (i u : Nat) : Prop := (i = 0 ∧ u = pInf) ∨ ∃ j, j < i ∧ u = wide64 (z j) ∧ ∀ k, k < i → key32 (z j) ≤ key32 (z k)
def HiIs (z : Nat → Nat) (i u : Nat) : Prop := (i = 0 ∧ u = nInf) ∨ ∃ j, j < i ∧ u = wide64 (z j) ∧ ∀ k, k < i → key32 (z k) ≤ key32 (z j)
theorem LoIs.step {z : Nat → Nat} {i u : Nat} (h : LoIs z i u) (hz : ∀ k, k ≤ i → Fin32 (z k)) : ∃ u', (∀ (P : Program) (ts : Array TypeId) (t : TypeId) (w : World), (Builtin.min_ ts t #[.float .f64 u, .float .f64 (wide64 (z i))]).run P w = .ok (.float .f64 u') w) ∧ LoIs z (i + 1) u' := by
  obtain ⟨s, m, p, e⟩ := wide_fin (hz i (Nat.le_refl _))
  rcases h with ⟨rfl, rfl⟩ | ⟨j, hj, rfl, hk⟩
  · have ho : FloatKind.f64.format.order pInf (wide64 (z 0)) = some .gt := by
      show (rd64 pInf).order (rd64 (wide64 (z 0))) = _
      rw [pInf_read, e]; rfl
    refine ⟨wide64 (z 0), fun P ts t w => by simp [Builtin.min_, Builtin.min2, ho], .inr ⟨0, by omega, rfl, fun k hk => ?_⟩⟩
    have : k = 0 := by omega
    rw [this]; omega
  · have ho := wide_cmp (hz j (by omega)) (hz i (Nat.le_refl _))
    rcases Int.lt_trichotomy (key32 (z j)) (key32 (z i)) with g | g | g
    · rw [cmp_lt g] at ho
      refine ⟨wide64 (z j), fun P ts t w => by simp [Builtin.min_, Builtin.min2, ho], .inr ⟨j, by omega, rfl, fun k hk' => ?_⟩⟩
      rcases Nat.lt_or_ge k i with h1 | h1
      · exact hk k h1
      · have : k = i := by omega
        rw [this]; omega
    · rw [cmp_eq g] at ho
      refine ⟨if (FloatKind.f64.decode (wide64 (z j))).neg then wide64 (z j) else wide64 (z i), fun P ts t w => by simp [Builtin.min_, Builtin.min2, ho], ?_⟩
      split
      · refine .inr ⟨j, by omega, rfl, fun k hk' => ?_⟩
        rcases Nat.lt_or_ge k i with h1 | h1
        · exact hk k h1
        · have : k = i := by omega
          rw [this]; omega
      · refine .inr ⟨i, by omega, rfl, fun k hk' => ?_⟩
        rcases Nat.lt_or_ge k i with h1 | h1
        · have := hk k h1; omega
        · have : k = i := by omega
          rw [this]; omega
    · rw [cmp_gt g] at ho
      refine ⟨wide64 (z i), fun P ts t w => by simp [Builtin.min_, Builtin.min2, ho], .inr ⟨i, by omega, rfl, fun k hk' => ?_⟩⟩
      rcases Nat.lt_or_ge k i with h1 | h1
      · have := hk k h1; omega
      · have : k = i := by omega
        rw [this]; omega
theorem HiIs.step {z : Nat → Nat} {i u : Nat} (h : HiIs z i u) (hz : ∀ k, k ≤ i → Fin32 (z k)) : ∃ u', (∀ (P : Program) (ts : Array TypeId) (t : TypeId) (w : World), (Builtin.max_ ts t #[.float .f64 u, .float .f64 (wide64 (z i))]).run P w = .ok (.float .f64 u') w) ∧ HiIs z (i + 1) u' := by
  obtain ⟨s, m, p, e⟩ := wide_fin (hz i (Nat.le_refl _))
  rcases h with ⟨rfl, rfl⟩ | ⟨j, hj, rfl, hk⟩
  · have ho : FloatKind.f64.format.order nInf (wide64 (z 0)) = some .lt := by
      show (rd64 nInf).order (rd64 (wide64 (z 0))) = _
      rw [nInf_read, e]; rfl
    refine ⟨wide64 (z 0), fun P ts t w => by simp [Builtin.max_, Builtin.max2, ho], .inr ⟨0, by omega, rfl, fun k hk => ?_⟩⟩
    have : k = 0 := by omega
    rw [this]; omega
  · have ho := wide_cmp (hz j (by omega)) (hz i (Nat.le_refl _))
    rcases Int.lt_trichotomy (key32 (z j)) (key32 (z i)) with g | g | g
    · rw [cmp_lt g] at ho
      refine ⟨wide64 (z i), fun P ts t w => by simp [Builtin.max_, Builtin.max2, ho], .inr ⟨i, by omega, rfl, fun k hk' => ?_⟩⟩
      rcases Nat.lt_or_ge k i with h1 | h1
      · have := hk k h1; omega
      · have : k = i := by omega
        rw [this]; omega
    · rw [cmp_eq g] at ho
      refine ⟨if (FloatKind.f64.decode (wide64 (z j))).neg then wide64 (z i) else wide64 (z j), fun P ts t w => by simp [Builtin.max_, Builtin.max2, ho], ?_⟩
      split
      · refine .inr ⟨i, by omega, rfl, fun k hk' => ?_⟩
        rcases Nat.lt_or_ge k i with h1 | h1
        · have := hk k h1; omega
        · have : k = i := by omega
          rw [this]; omega
      · refine .inr ⟨j, by omega, rfl, fun k hk' => ?_⟩
        rcases Nat.lt_or_ge k i with h1 | h1
        · exact hk k h1
        · have : k = i := by omega
          rw [this]; omega
    · rw [cmp_gt g] at ho
      refine ⟨wide64 (z j), fun P ts t w => by simp [Builtin.max_, Builtin.max2, ho], .inr ⟨j, by omega, rfl, fun k hk' => ?_⟩⟩
      rcases Nat.lt_or_ge k i with h1 | h1
      · exact hk k h1
      · have : k = i := by omega
        rw [this]; omega
theorem fin_of_key {l s h : Nat} (hl : Fin32 l) (hh : Fin32 h) (hs : s < 4294967296) (h1 : key32 l ≤ key32 s) (h2 : key32 s ≤ key32 h) : Fin32 s := by
  have bd : ∀ {a : Nat}, Fin32 a → -2139095040 < key32 a ∧ key32 a < 2139095040 := fun {a} ha => by
    obtain ⟨ha1, t, m, p, e⟩ := ha
    obtain ⟨r, hr, er⟩ := rung_of_read 23 8 150 255 isF32 (show a < 2 ^ (1 + 8 + 23) from ha1) e
    have hk := keyW_sign 23 8 150 255 isF32 t r (by omega)
    rw [← er] at hk
    unfold key32
    have : 255 * 2 ^ 23 = 2139095040 := by decide
    cases t <;> simp only [Bool.false_eq_true, if_false, if_true] at hk <;> omega
  have b1 := bd hl
  have b2 := bd hh
  have hk : key32 s = if 2147483648 ≤ s then -((s - 2147483648 : Nat) : Int) else (s : Int) := rfl
  refine fin_of_exp hs fun hx => ?_
  unfold expN at hx
  split at hk <;> omega
/-- The weights of a place's spots. -/
theorem spots_wts {kind border : Int} {t : Wp} {W H x y : Int} {L : List Spt} (hq : 1 ≤ t.Q) (hk : kind ≠ 1) (h : IsSpots kind border t W H x y L) : (∀ i, i < L.length → 1 ≤ spN L i ∧ spN L i < 131072) ∧ wtTo L L.length = 65536 := by
  rcases h with ⟨e, _⟩ | ⟨_, res, hs, rfl⟩
  · exact absurd e hk
  have hf := Int.emod_nonneg (fromU t x y) (show t.Q ≠ 0 by omega)
  have hf2 := Int.emod_lt_of_pos (fromU t x y) (show 0 < t.Q by omega)
  have hg := Int.emod_nonneg (fromV t x y) (show t.Q ≠ 0 by omega)
  have hg2 := Int.emod_lt_of_pos (fromV t x y) (show 0 < t.Q by omega)
  have hb := shared4_in hq ⟨hf, hf2⟩ ⟨hg, hg2⟩ hs
  refine ⟨fun i hi => ?_, ?_⟩
  · unfold spN
    rw [List.getD_eq_getElem?_getD, List.getElem?_eq_getElem hi, Option.getD_some]
    obtain ⟨a, ha, h0, e⟩ := spotsTo_pos 4 _ (List.getElem_mem hi)
    have := hb a ha
    omega
  · unfold wtTo
    rw [List.take_length]
    have := spotsTo_sum (border := border) (W := W) (H := H) (i := fromU t x y / t.Q) (j := fromV t x y / t.Q) 4 fun a ha => (hb a ha).1
    rw [shared4_sum hq hs] at this
    omega
/-- What is told lies between. -/
theorem px_between {L : List Spt} {z : Nat → Nat} (hw : ∀ i, i < L.length → 1 ≤ spN L i ∧ spN L i < 131072) (hs : wtTo L L.length = 65536) (hz : ∀ i, i < L.length → Fin32 (z i)) {u v : Nat} (hu : LoIs z L.length u) (hv : HiIs z L.length v) :
    Fin32 (dotOf (spN L) z L.length) ∧ (∃ o, (o = Ordering.gt ∨ o = Ordering.eq) ∧ FloatKind.f64.format.order (wide64 (dotOf (spN L) z L.length)) u = some o) ∧ ∃ o, (o = Ordering.lt ∨ o = Ordering.eq) ∧ FloatKind.f64.format.order (wide64 (dotOf (spN L) z L.length)) v = some o := by
  have hn : 0 < L.length := by
    rcases Nat.eq_zero_or_pos L.length with h0 | h0
    · rw [h0] at hs; exact absurd hs (by unfold wtTo; simp)
    · exact h0
  rcases hu with ⟨h0, _⟩ | ⟨j, hj, rfl, hk⟩
  · omega
  rcases hv with ⟨h0, _⟩ | ⟨i, hi, rfl, hm⟩
  · omega
  obtain ⟨h1, -, h2⟩ := dot_order (spN L) z z (z j) (z i) (hz j hj) (hz i hi) (wtTo L) (by unfold wtTo; simp) (wtTo_succ L) L.length hw hs (fun k hk' => ⟨hz k hk', hz k hk', hk k hk', Int.le_refl _, hm k hk'⟩)
  have hlt : dotOf (spN L) z L.length < 4294967296 := told32_lt _
  have hf : Fin32 (dotOf (spN L) z L.length) := fin_of_key (hz j hj) (hz i hi) hlt h1 h2
  refine ⟨hf, ?_, ?_⟩
  · have ho := wide_cmp hf (hz j hj)
    rcases Int.lt_or_eq_of_le h1 with g | g
    · rw [cmp_gt g] at ho; exact ⟨_, .inl rfl, ho⟩
    · rw [cmp_eq g.symm] at ho; exact ⟨_, .inr rfl, ho⟩
  · have ho := wide_cmp hf (hz i hi)
    rcases Int.lt_or_eq_of_le h2 with g | g
    · rw [cmp_lt g] at ho; exact ⟨_, .inl rfl, ho⟩
    · rw [cmp_eq g] at ho; exact ⟨_, .inr rfl, ho⟩
/-- One sample throughout stays. -/
theorem px_const {border : Int} {t : Wp} {W H : Int} {s : Nat} (hs : Fin32 s) (hq : 1 ≤ t.Q) {w : Int} {i r : Nat} (h : IsPx 2 border t W H (fun _ => s) w i r) : r = s := by
  obtain ⟨L, hL, e⟩ := h
  obtain ⟨hw, hsum⟩ := spots_wts hq (by decide) hL
  rw [e]
  unfold pxOf
  rw [if_neg (by decide)]
  exact dotOf_const (spN L) (spX (fun _ => s) W L) s hs.1 hs.2 (wtTo L) (by unfold wtTo; simp) (wtTo_succ L) L.length (fun _ _ => rfl) hw hsum
end Go.Proofs.Ytdcpeeolfgohmaa
