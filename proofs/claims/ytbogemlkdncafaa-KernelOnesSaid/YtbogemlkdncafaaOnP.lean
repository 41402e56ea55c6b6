/- Plain: what the taps of a place are. No program is in sight. -/
import Derived.Test.YtbogemlkdncafaaShP
namespace Go.Proofs.Ytbogemlkdncafaa
set_option linter.unusedSimpArgs false
set_option linter.unusedVariables false

theorem tapsTo_mem {p res : Nat → Int} : ∀ n (x : Int × Int), x ∈ tapsTo p res n → ∃ k, k < n ∧ x = (p k, res k) ∧ res k ≠ 0
  | 0, x, h => by simp [tapsTo] at h
  | n + 1, x, h => by
    rw [tapsTo, List.mem_append] at h
    rcases h with h | h
    · obtain ⟨k, h1, h2, h3⟩ := tapsTo_mem n x h
      exact ⟨k, by omega, h2, h3⟩
    · by_cases h0 : res n = 0
      · rw [if_pos h0] at h; cases h
      · rw [if_neg h0, List.mem_singleton] at h
        exact ⟨n, by omega, h, h0⟩
theorem tapsTo_sum (p res : Nat → Int) : ∀ n, wSum (tapsTo p res n) = sumTo res n
  | 0 => rfl
  | n + 1 => by
    rw [tapsTo, wSum_append, tapsTo_sum p res n, sumTo]
    by_cases h0 : res n = 0
    · rw [if_pos h0, h0]; simp [wSum]
    · rw [if_neg h0]; simp [wSum]
theorem tapsTo_rise {p res : Nat → Int} : ∀ n, (∀ i j, i < j → j < n → p i < p j) → (tapsTo p res n).Pairwise fun x y => x.1 < y.1
  | 0, _ => by simp [tapsTo]
  | n + 1, h => by
    rw [tapsTo, List.pairwise_append]
    refine ⟨tapsTo_rise n fun i j hij hj => h i j hij (by omega), ?_, fun x hx y hy => ?_⟩
    · split <;> simp
    · obtain ⟨k, hk, rfl, _⟩ := tapsTo_mem n x hx
      by_cases h0 : res n = 0
      · rw [if_pos h0] at hy; cases hy
      · rw [if_neg h0, List.mem_singleton] at hy
        subst hy
        exact h k n hk (by omega)
theorem tapP_mem {l : List (Int × Int)} {k : Nat} (h : k < l.length) : (tapP l k, tapW l k) ∈ l := by
  have e : (tapP l k, tapW l k) = l[k] := by simp [tapP, tapW, List.getD_eq_getElem?_getD, List.getElem?_eq_getElem h]
  rw [e]; exact List.getElem_mem h
theorem tapP_rise {l : List (Int × Int)} (h : l.Pairwise fun x y => x.1 < y.1) {i j : Nat} (hij : i < j) (hj : j < l.length) : tapP l i < tapP l j := by
  have := List.pairwise_iff_getElem.1 h i j (by omega) hj hij
  simp only [tapP, List.getD_eq_getElem?_getD, List.getElem?_eq_getElem (show i < l.length by omega), List.getElem?_eq_getElem hj, Option.getD_some]
  exact this
theorem tapRun_pos {f : Int → Int} (hf : ∀ j, 0 ≤ f j) (from' lo : Int) : ∀ n (x : Int × Int), x ∈ tapRun f from' lo n → 0 ≤ x.2
  | 0, x, h => by simp [tapRun] at h
  | n + 1, x, h => by
    have ih := tapRun_pos hf from' lo n
    rw [tapRun] at h
    unfold tapStep at h
    split at h
    · exact ih x h
    · split at h
      · rename_i h2
        rcases List.mem_append.1 h with h | h
        · exact ih x (List.dropLast_subset _ h)
        · rw [List.mem_singleton.1 h]
          have es := last_split h2.1
          have := ih _ (show (tapRun f from' lo n).getLast?.getD (0, 0) ∈ tapRun f from' lo n by rw [es]; simp)
          have := hf (lo + n)
          show 0 ≤ _ + _
          omega
      · rcases List.mem_append.1 h with h | h
        · exact ih x h
        · rw [List.mem_singleton.1 h]; exact hf _

theorem wK_pos {kind a m : Int} (hm : 1 ≤ m) (hk : kind = 1 ∨ kind = 2) : 0 ≤ wK kind a (2 * m) := by
  unfold wK
  rcases hk with rfl | rfl
  · rw [if_pos rfl]; split
    · exact Int.le_of_lt (wBox_pos (by omega))
    · exact Int.le_refl _
  · rw [if_neg (by omega), if_pos rfl]; split
    · exact Int.mul_nonneg (Int.mul_nonneg (Int.mul_nonneg (by omega) (by omega)) (by omega)) (by omega)
    · exact Int.le_refl _

/-- Onto a row as long: one place. -/
theorem taps_same {kind from' i : Int} (h : TapsMay kind from' from' i) : ∃ v, tapsOf kind from' from' i = [(i, v)] := by
  have hf := h.f1
  have hm : max from' from' = from' := by omega
  have hat : ∀ j, atOf from' from' i j = 2 * from' * (j - i) := fun j => by unfold atOf; grind
  have hw : ∀ j, j ≠ i → tapF kind from' from' i j = 0 := fun j hj => by
    unfold tapF
    rw [hat, hm]
    obtain ⟨d, hd⟩ : ∃ d, d = j - i := ⟨_, rfl⟩
    rw [← hd]
    have hd0 : d ≤ -1 ∨ 1 ≤ d := by omega
    have hk : kind = 1 ∨ kind = 2 ∨ kind = 3 := by have := h.k1; have := h.k3; omega
    have hb : 1 ≤ d → 2 * from' ≤ 2 * from' * d := fun hd => by
      have := Int.mul_le_mul_of_nonneg_left hd (by omega : 0 ≤ 2 * from'); omega
    have hb' : d ≤ -1 → 2 * from' * d ≤ -(2 * from') := fun hd => by
      have := Int.mul_le_mul_of_nonneg_left hd (by omega : 0 ≤ 2 * from'); omega
    have hc : 2 ≤ d → 2 * (2 * from') ≤ 2 * from' * d := fun hd => by
      have := Int.mul_le_mul_of_nonneg_left hd (by omega : 0 ≤ 2 * from'); omega
    have hc' : d ≤ -2 → 2 * from' * d ≤ -(2 * (2 * from')) := fun hd => by
      have := Int.mul_le_mul_of_nonneg_left hd (by omega : 0 ≤ 2 * from'); omega
    unfold wK
    rcases hk with rfl | rfl | rfl
    · rw [if_pos rfl, if_neg (by omega)]
    · rw [if_neg (by omega), if_pos rfl, if_neg (by omega)]
    · rw [if_neg (by omega), if_neg (by omega), if_neg (by omega)]
      by_cases h1 : d = 1 ∨ d = -1
      · have e : max (2 * from' * d) (-(2 * from' * d)) = 2 * from' := by
          rcases h1 with rfl | rfl <;> omega
        rw [e, if_pos (by omega)]
        unfold wCubicOut; grind
      · rw [if_neg (by omega)]
  have hi : tapF kind from' from' i i ≠ 0 := fun h0 => by
    have hs := tap_sum h
    have hz : ∀ k : Nat, k < tapN kind from' from' i → tapF kind from' from' i (tapLo kind from' from' i + k) = 0 := fun k _ => by
      by_cases e : tapLo kind from' from' i + (k : Int) = i
      · rw [e, h0]
      · exact hw _ e
    unfold tapsOf at hs
    rw [tapRun_sum, sumTo_congr (g := fun _ => 0 * 0) _ fun k hk => hz k hk, sumTo_mul 0 (fun _ => 0)] at hs
    omega
  have hlo : tapLo kind from' from' i ≤ i := by
    rcases Int.lt_or_le i (tapLo kind from' from' i) with h1 | h1
    · exact absurd (tapF_low h i h1) hi
    · exact h1
  have hhi : i < tapLo kind from' from' i + tapN kind from' from' i := by
    rcases Int.lt_or_le i (tapLo kind from' from' i + tapN kind from' from' i) with h1 | h1
    · exact h1
    · exact absurd (tapF_high h i h1) hi
  have e := tapRun_same (tapF kind from' from' i) from' i (tapLo kind from' from' i) 1 (tapN kind from' from' i) hlo (fun j hj => hw j (by omega)) (fun j hj => hw j (by omega)) (fun j hj => tapF_high h j hj) (by omega)
  refine ⟨tapF kind from' from' i i, ?_⟩
  unfold tapsOf
  rw [← e]
  show tapStep (tapF kind from' from' i) from' [] (i + ((0 : Nat) : Int)) = _
  have e0 : i + ((0 : Nat) : Int) = i := by omega
  have ec : clampP from' i = i := by unfold clampP; have := h.i0; have := h.i1; omega
  rw [e0]
  unfold tapStep
  rw [if_neg hi, if_neg (fun h => h.1 rfl), ec]
  rfl

structure TapsPlain (kind from' tt i : Int) (l : List (Int × Int)) : Prop where
  len1 : 1 ≤ l.length
  len2 : l.length ≤ 62
  at1 : ∀ k, k < l.length → 0 ≤ tapP l k ∧ tapP l k < from'
  rise : ∀ k, k + 1 < l.length → tapP l k < tapP l (k + 1)
  nz : ∀ k, k < l.length → tapW l k ≠ 0
  bd : ∀ k, k < l.length → -72057594037927937 ≤ tapW l k ∧ tapW l k ≤ 72057594037927937
  pos : kind ≠ 3 → ∀ k, k < l.length → 0 ≤ tapW l k
  sum : sumTo (tapW l) l.length = 65536
  same : from' = tt → l.length = 1 ∧ tapP l 0 = i

theorem taps_plain {kind from' tt i : Int} {l : List (Int × Int)} (h : IsTaps kind from' tt i l) (h0 : tapsErr kind from' tt i = 0) : TapsPlain kind from' tt i l := by
  have hlen := h.len
  rcases h with ⟨h1, _⟩ | ⟨_, res, hs, rfl⟩
  · exact absurd h0 h1
  · have may := tapsErr_may h0
    have SP := shares_plain (tap_ok may) hs
    have hpl := tapRun_places (tapF kind from' tt i) from' (tapLo kind from' tt i) may.f1 (tapN kind from' tt i)
    have esum : sumTo (tapW (tapsTo (tapP (tapsOf kind from' tt i)) res (tapsOf kind from' tt i).length)) (tapsTo (tapP (tapsOf kind from' tt i)) res (tapsOf kind from' tt i).length).length = 65536 := by
      have := wSum_sumTo (tapsTo (tapP (tapsOf kind from' tt i)) res (tapsOf kind from' tt i).length)
      rw [tapsTo_sum, SP.sum] at this
      exact this.symm
    have hmem : ∀ k, k < (tapsTo (tapP (tapsOf kind from' tt i)) res (tapsOf kind from' tt i).length).length → ∃ q, q < (tapsOf kind from' tt i).length ∧ tapP (tapsTo (tapP (tapsOf kind from' tt i)) res (tapsOf kind from' tt i).length) k = tapP (tapsOf kind from' tt i) q ∧ tapW (tapsTo (tapP (tapsOf kind from' tt i)) res (tapsOf kind from' tt i).length) k = res q ∧ res q ≠ 0 := fun k hk => by
      obtain ⟨q, h1, h2, h3⟩ := tapsTo_mem _ _ (tapP_mem hk)
      injection h2 with h4 h5
      exact ⟨q, h1, h4, h5, h3⟩
    have hrise := tapsTo_rise (p := tapP (tapsOf kind from' tt i)) (res := res) (tapsOf kind from' tt i).length fun a b hab hb => tapP_rise hpl.2 hab hb
    obtain ⟨l, el⟩ : ∃ l, l = tapsTo (tapP (tapsOf kind from' tt i)) res (tapsOf kind from' tt i).length := ⟨_, rfl⟩
    rw [← el] at hlen esum hmem hrise ⊢
    refine ⟨?_, hlen, fun k hk => ?_, fun k hk => tapP_rise hrise (by omega) hk, fun k hk => ?_, fun k hk => ?_, fun hk3 k hk => ?_, esum, fun e => ?_⟩
    · rcases Nat.eq_zero_or_pos l.length with h | h
      · rw [h] at esum; simp [sumTo] at esum
      · exact h
    · obtain ⟨q, hq, e1, _, _⟩ := hmem k hk
      rw [e1]
      have := hpl.1 _ (tapP_mem (l := tapsOf kind from' tt i) hq)
      exact ⟨this.1, this.2.1⟩
    · obtain ⟨q, hq, _, e2, e3⟩ := hmem k hk
      rw [e2]; exact e3
    · obtain ⟨q, hq, _, e2, e3⟩ := hmem k hk
      rw [e2]; exact SP.bd q hq
    · obtain ⟨q, hq, _, e2, e3⟩ := hmem k hk
      rw [e2]
      refine SP.pos q hq ?_
      have hkk : kind = 1 ∨ kind = 2 := by have := may.k1; have := may.k3; omega
      exact tapRun_pos (f := tapF kind from' tt i) (fun j => wK_pos (by have := may.f1; omega) hkk) from' _ _ _ (tapP_mem (l := tapsOf kind from' tt i) hq)
    · subst e
      obtain ⟨v, ev⟩ := taps_same may
      have hs0 := SP.sum
      rw [ev] at el hs0
      have e1 : ([(i, v)] : List (Int × Int)).length = 0 + 1 := rfl
      rw [e1] at el hs0
      have hr : res 0 = 65536 := by simpa [sumTo] using hs0
      have : l = [(i, 65536)] := by
        rw [el, tapsTo, hr]
        rfl
      rw [this]
      exact ⟨rfl, rfl⟩
end Go.Proofs.Ytbogemlkdncafaa
