/- Plain: the set of those that stand ahead of all others; the first ones of a sorted row are it. -/
import Derived.Test.YtdcpeeolfgohmaaSortBD
namespace Go.Proofs.Ytdcpeeolfgohmaa
set_option linter.unusedSimpArgs false
set_option linter.unusedVariables false

/-! ### Which shares are raised -/
/-- How many of the first n. -/
def countTo (S : Nat → Bool) : Nat → Nat
  | 0 => 0
  | k + 1 => countTo S k + (S k).toNat
/-- As many as m of n, each of which stands ahead of all others. -/
structure TopSet (K : Int → Int) (n m : Nat) (S : Nat → Bool) : Prop where
  cnt : countTo S n = m
  top : ∀ a b : Nat, a < n → b < n → S a = true → S b = false → Ahead K a b

theorem countTo_congr {S T : Nat → Bool} : ∀ n, (∀ k, k < n → S k = T k) → countTo S n = countTo T n
  | 0, _ => rfl
  | n + 1, h => by rw [countTo, countTo, countTo_congr n fun k hk => h k (by omega), h n (by omega)]
theorem countTo_none {S : Nat → Bool} : ∀ n, (∀ k, k < n → S k = false) → countTo S n = 0
  | 0, _ => rfl
  | n + 1, h => by rw [countTo, countTo_none n fun k hk => h k (by omega), h n (by omega)]; rfl
theorem countTo_add {S : Nat → Bool} (a : Nat) (ha : S a = false) : ∀ n, a < n → countTo (fun k => S k || k == a) n = countTo S n + 1
  | 0, h => by omega
  | n + 1, h => by
    rw [countTo, countTo]
    by_cases e : a = n
    · subst e
      rw [countTo_congr (T := S) a fun k hk => by simp; omega]
      simp [ha]
    · rw [countTo_add a ha n (by omega)]
      have : (n == a) = false := by simp; omega
      simp only [this, Bool.or_false]; omega
theorem countTo_le {S T : Nat → Bool} : ∀ n, (∀ k, k < n → S k = true → T k = true) → countTo S n ≤ countTo T n ∧ (countTo S n = countTo T n → ∀ k, k < n → S k = T k)
  | 0, _ => ⟨Nat.le_refl _, fun _ k hk => by omega⟩
  | n + 1, h => by
    have ih := countTo_le n fun k hk => h k (by omega)
    have hn := h n (by omega)
    rw [countTo, countTo]
    cases hS : S n <;> cases hT : T n <;> simp [hS, hT] at hn ⊢
    · exact ⟨ih.1, fun e k hk => by
        by_cases e' : k = n
        · rw [e', hS, hT]
        · exact ih.2 e k (by omega)⟩
    · exact ⟨by omega, fun e => by omega⟩
    · exact ⟨ih.1, fun e k hk => by
        by_cases e' : k = n
        · rw [e', hS, hT]
        · exact ih.2 e k (by omega)⟩
/-- There is one such set. -/
theorem TopSet.unique {K : Int → Int} {n m : Nat} {S T : Nat → Bool} (h : TopSet K n m S) (k : TopSet K n m T) : ∀ a, a < n → S a = T a := by
  have key : (∀ a, a < n → S a = true → T a = true) ∨ (∀ a, a < n → T a = true → S a = true) := by
    by_cases hs : ∀ a, a < n → S a = true → T a = true
    · exact .inl hs
    · refine .inr fun b hb hTb => ?_
      cases hSb : S b with
      | true => rfl
      | false =>
        exfalso
        apply hs
        intro a ha hSa
        cases hTa : T a with
        | true => rfl
        | false => exact absurd ((h.top a b ha hb hSa hSb).trans (k.top b a hb ha hTb hTa)) fun h => h.irrefl
  rcases key with key | key
  · exact (countTo_le n key).2 (h.cnt.trans k.cnt.symm)
  · exact fun a ha => ((countTo_le n key).2 (k.cnt.trans h.cnt.symm) a ha).symm

/-- The first m of a sorted row. -/
def firstOf (d : Nat → Int) : Nat → Nat → Bool
  | 0, _ => false
  | m + 1, k => firstOf d m k || k == (d m).toNat
theorem firstOf_iff (d : Nat → Int) : ∀ m k, firstOf d m k = true ↔ ∃ q, q < m ∧ k = (d q).toNat
  | 0, k => by simp [firstOf]
  | m + 1, k => by
    rw [firstOf, Bool.or_eq_true, firstOf_iff d m k, beq_iff_eq]
    constructor
    · rintro (⟨q, h1, h2⟩ | h)
      · exact ⟨q, by omega, h2⟩
      · exact ⟨m, by omega, h⟩
    · rintro ⟨q, h1, h2⟩
      by_cases e : q = m
      · rw [e] at h2; exact .inr h2
      · exact .inl ⟨q, by omega, h2⟩
theorem firstOf_new {K : Int → Int} {n m : Nat} {d : Nat → Int} (hs : SortedBy K 0 n d) (hI : InN n d) (hm : m < n) : firstOf d m (d m).toNat = false := by
  cases h : firstOf d m (d m).toNat with
  | false => rfl
  | true =>
    exfalso
    obtain ⟨q, h1, h2⟩ := (firstOf_iff d m _).1 h
    have h3 := hs q m (by omega) h1 hm
    have h4 := hI q (by omega)
    have h5 := hI m hm
    rw [show d q = d m by omega] at h3
    exact h3.irrefl
theorem firstOf_count {K : Int → Int} {n : Nat} {d : Nat → Int} (hs : SortedBy K 0 n d) (hI : InN n d) : ∀ m, m ≤ n → countTo (firstOf d m) n = m
  | 0, _ => countTo_none n fun _ _ => rfl
  | m + 1, h => by
    have h1 := countTo_add (S := firstOf d m) (d m).toNat (firstOf_new hs hI (by omega)) n (by have := hI m (by omega); omega)
    rw [firstOf_count hs hI m (by omega)] at h1
    exact h1
/-- Injective among n places: onto. -/
theorem onto_of_inj : ∀ (n : Nat) (f : Nat → Nat), (∀ k, k < n → f k < n) → (∀ i j, i < n → j < n → f i = f j → i = j) → ∀ b, b < n → ∃ q, q < n ∧ f q = b
  | 0, _, _, _, b, hb => by omega
  | n + 1, f, hf, hi, b, hb => by
    by_cases hlast : ∃ q, q < n + 1 ∧ f q = b
    · exact hlast
    · exfalso
      -- b is not met: let it take the place of the greatest one
      have h1 : ∀ k, k < n + 1 → f k ≠ b := fun k hk e => hlast ⟨k, hk, e⟩
      let g : Nat → Nat := fun k => if f k = n then b else f k
      have hg : ∀ k, k < n → g k < n := fun k hk => by
        show (if f k = n then b else f k) < n
        by_cases e : f k = n
        · rw [if_pos e]
          have := h1 k (by omega)
          omega
        · rw [if_neg e]; have := hf k (by omega); omega
      have hgi : ∀ i j, i < n → j < n → g i = g j → i = j := fun i j hi' hj' e => by
        have e' : (if f i = n then b else f i) = if f j = n then b else f j := e
        by_cases e1 : f i = n <;> by_cases e2 : f j = n
        · exact hi i j (by omega) (by omega) (by omega)
        · rw [if_pos e1, if_neg e2] at e'; exact absurd e'.symm (h1 j (by omega))
        · rw [if_neg e1, if_pos e2] at e'; exact absurd e' (h1 i (by omega))
        · rw [if_neg e1, if_neg e2] at e'; exact hi i j (by omega) (by omega) e'
      by_cases hbn : f n = n
      · -- then b < n would be met by g, at a k with f k = b or f k = n
        have hb' : b < n := by
          have := h1 n (by omega); omega
        obtain ⟨q, hq, e⟩ := onto_of_inj n g hg hgi b hb'
        have e' : (if f q = n then b else f q) = b := e
        by_cases e1 : f q = n
        · have := hi q n (by omega) (by omega) (by omega); omega
        · rw [if_neg e1] at e'; exact h1 q (by omega) e'
      · have hfn : f n < n := by have := hf n (by omega); omega
        obtain ⟨q, hq, e⟩ := onto_of_inj n g hg hgi (f n) hfn
        have e' : (if f q = n then b else f q) = f n := e
        by_cases e1 : f q = n
        · rw [if_pos e1] at e'; exact h1 n (by omega) e'.symm
        · rw [if_neg e1] at e'
          have := hi q n (by omega) (by omega) e'; omega
theorem firstOf_top {K : Int → Int} {n m : Nat} {d : Nat → Int} (hs : SortedBy K 0 n d) (hI : InN n d) (hm : m ≤ n) : TopSet K n m (firstOf d m) := by
  refine ⟨firstOf_count hs hI m hm, fun a b ha hb h1 h2 => ?_⟩
  obtain ⟨q, q1, rfl⟩ := (firstOf_iff d m a).1 h1
  obtain ⟨r, r1, e⟩ := onto_of_inj n (fun k => (d k).toNat) (fun k hk => by have := hI k hk; omega) (fun i j hi hj e => by
    rcases Nat.lt_trichotomy i j with h | h | h
    · have h3 := hs i j (by omega) h hj
      have := hI i hi
      have := hI j hj
      have e' : (d i).toNat = (d j).toNat := e
      rw [show d i = d j by omega] at h3
      exact h3.irrefl.elim
    · exact h
    · have h3 := hs j i (by omega) h hi
      have := hI i hi
      have := hI j hj
      have e' : (d i).toNat = (d j).toNat := e
      rw [show d i = d j by omega] at h3
      exact h3.irrefl.elim) b hb
  have e' : (d r).toNat = b := e
  have hr : m ≤ r := by
    rcases Nat.lt_or_ge r m with h | h
    · rw [(firstOf_iff d m b).2 ⟨r, h, e'.symm⟩] at h2; cases h2
    · exact h
  have h3 := hs q r (by omega) (by omega) r1
  have := hI q (by omega)
  have := hI r r1
  rw [Int.toNat_of_nonneg (by omega), ← e', Int.toNat_of_nonneg (by omega)]
  exact h3
end Go.Proofs.Ytdcpeeolfgohmaa
