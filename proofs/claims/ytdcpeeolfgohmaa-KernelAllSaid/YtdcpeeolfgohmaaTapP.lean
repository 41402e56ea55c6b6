/- Plain: the taps of a place: weights run over the places, those of one clamped place summed. No program is in sight. -/
import Derived.Test.YtdcpeeolfgohmaaLeaf
import Derived.Test.YtdcpeeolfgohmaaShareR
namespace Go.Proofs.Ytdcpeeolfgohmaa
set_option linter.unusedSimpArgs false
set_option linter.unusedVariables false

/-- A kernel's weight at the distance a / b, times 2 b^3. -/
def wK (kind a b : Int) : Int :=
  if kind = 1 then (if -b ≤ 2 * a ∧ 2 * a < b then wBox b else 0)
  else if kind = 2 then (if max a (-a) < b then wTent (max a (-a)) b else 0)
  else if max a (-a) < b then wCubicIn (max a (-a)) b else if max a (-a) < 2 * b then wCubicOut (max a (-a)) b else 0

def clampP (from' j : Int) : Int := min (max j 0) (from' - 1)

/-- One place more. -/
def tapStep (f : Int → Int) (from' : Int) (st : List (Int × Int)) (j : Int) : List (Int × Int) :=
  if f j = 0 then st
  else if st ≠ [] ∧ (st.getLast?.getD (0, 0)).1 = clampP from' j then st.dropLast ++ [(clampP from' j, (st.getLast?.getD (0, 0)).2 + f j)]
  else st ++ [(clampP from' j, f j)]
def tapRun (f : Int → Int) (from' lo : Int) : Nat → List (Int × Int)
  | 0 => []
  | k + 1 => tapStep f from' (tapRun f from' lo k) (lo + k)

theorem tapStep_zero {f : Int → Int} {from' : Int} {st : List (Int × Int)} {j : Int} (h : f j = 0) : tapStep f from' st j = st := if_pos h

theorem tapRun_skip (f : Int → Int) (from' lo : Int) (m : Nat) (h : ∀ k : Nat, k < m → f (lo + k) = 0) : ∀ k, tapRun f from' lo (m + k) = tapRun f from' (lo + m) k
  | 0 => by
    show tapRun f from' lo m = []
    have : ∀ q, q ≤ m → tapRun f from' lo q = [] := by
      intro q
      induction q with
      | zero => intro _; rfl
      | succ q ih => intro hq; rw [tapRun, tapStep_zero (h q (by omega)), ih (by omega)]
    exact this m (Nat.le_refl _)
  | k + 1 => by
    show tapStep f from' (tapRun f from' lo (m + k)) (lo + ((m + k : Nat) : Int)) = tapStep f from' (tapRun f from' (lo + m) k) (lo + m + k)
    rw [tapRun_skip f from' lo m h k, show lo + ((m + k : Nat) : Int) = lo + m + k by omega]
theorem tapRun_stop (f : Int → Int) (from' lo : Int) (m : Nat) (h : ∀ k : Nat, m ≤ k → f (lo + k) = 0) : ∀ k, tapRun f from' lo (m + k) = tapRun f from' lo m
  | 0 => rfl
  | k + 1 => by
    show tapStep f from' (tapRun f from' lo (m + k)) (lo + ((m + k : Nat) : Int)) = _
    rw [tapStep_zero (h (m + k) (by omega)), tapRun_stop f from' lo m h k]
/-- Two ranges that hold all weights give the same taps. -/
theorem tapRun_same (f : Int → Int) (from' lo lo' : Int) (m m' : Nat) (hlo : lo' ≤ lo) (h1 : ∀ j, j < lo → f j = 0) (h2 : ∀ j, lo + m ≤ j → f j = 0) (h3 : ∀ j, lo' + m' ≤ j → f j = 0) (hm : lo ≤ lo' + m') :
    tapRun f from' lo m = tapRun f from' lo' m' := by
  obtain ⟨d, hd⟩ := Int.eq_ofNat_of_zero_le (by omega : 0 ≤ lo - lo')
  obtain ⟨e, he⟩ := Int.eq_ofNat_of_zero_le (by omega : 0 ≤ lo' + m' - lo)
  have e1 : m' = d + e := by omega
  rw [e1, tapRun_skip f from' lo' d (fun k hk => h1 _ (by omega)) e, show lo' + (d : Int) = lo by omega]
  rcases Nat.lt_or_ge m e with h | h
  · obtain ⟨g, hg⟩ : ∃ g, e = m + g := ⟨e - m, by omega⟩
    rw [hg, tapRun_stop f from' lo m (fun k hk => h2 _ (by omega))]
  · obtain ⟨g, hg⟩ : ∃ g, m = e + g := ⟨m - e, by omega⟩
    rw [hg, tapRun_stop f from' lo e (fun k hk => h3 _ (by omega))]

theorem tapStep_len (f : Int → Int) (from' : Int) (st : List (Int × Int)) (j : Int) : (tapStep f from' st j).length ≤ st.length + 1 := by
  unfold tapStep
  split
  · omega
  · split
    · rename_i h; simp only [List.length_append, List.length_dropLast, List.length_singleton]; omega
    · simp
theorem tapRun_len (f : Int → Int) (from' lo : Int) : ∀ k, (tapRun f from' lo k).length ≤ k
  | 0 => by simp [tapRun]
  | k + 1 => by
    have := tapStep_len f from' (tapRun f from' lo k) (lo + k)
    have := tapRun_len f from' lo k
    rw [tapRun]; omega

/-- The sum of all weights, and that of their sizes. -/
def wSum : List (Int × Int) → Int
  | [] => 0
  | (_, n) :: l => n + wSum l
def wSize : List (Int × Int) → Int
  | [] => 0
  | (_, n) :: l => max n (-n) + wSize l
theorem wSum_append : ∀ a b, wSum (a ++ b) = wSum a + wSum b
  | [], b => by simp [wSum]
  | (_, n) :: a, b => by simp only [List.cons_append, wSum, wSum_append a b]; omega
theorem wSize_append : ∀ a b, wSize (a ++ b) = wSize a + wSize b
  | [], b => by simp [wSize]
  | (_, n) :: a, b => by simp only [List.cons_append, wSize, wSize_append a b]; omega
theorem last_split {st : List (Int × Int)} (h : st ≠ []) : st = st.dropLast ++ [st.getLast?.getD (0, 0)] := by
  rw [List.getLast?_eq_some_getLast h]
  exact (List.dropLast_concat_getLast h).symm
theorem tapStep_sum (f : Int → Int) (from' : Int) (st : List (Int × Int)) (j : Int) : wSum (tapStep f from' st j) = wSum st + f j ∧ wSize (tapStep f from' st j) ≤ wSize st + max (f j) (-f j) := by
  unfold tapStep
  split
  · rename_i h; rw [h]; simp
  · split
    · rename_i h
      have e := last_split h.1
      have e1 : wSum st = wSum st.dropLast + (st.getLast?.getD (0, 0)).2 := by
        conv => lhs; rw [e, wSum_append]
        simp [wSum]
      have e2 : wSize st = wSize st.dropLast + max (st.getLast?.getD (0, 0)).2 (-(st.getLast?.getD (0, 0)).2) := by
        conv => lhs; rw [e, wSize_append]
        simp [wSize]
      rw [wSum_append, wSize_append]
      simp only [wSum, wSize]
      omega
    · rw [wSum_append, wSize_append]; simp only [wSum, wSize]; omega
theorem tapRun_sum (f : Int → Int) (from' lo : Int) : ∀ k, wSum (tapRun f from' lo k) = sumTo (fun q => f (lo + q)) k
  | 0 => rfl
  | k + 1 => by rw [tapRun, (tapStep_sum f from' _ _).1, tapRun_sum f from' lo k, sumTo]
theorem tapRun_size (f : Int → Int) (from' lo : Int) {B : Int} (hB : ∀ j, -B ≤ f j ∧ f j ≤ B) : ∀ k : Nat, wSize (tapRun f from' lo k) ≤ k * B
  | 0 => by simp [tapRun, wSize]
  | k + 1 => by
    have h1 := (tapStep_sum f from' (tapRun f from' lo k) (lo + k)).2
    have h2 := tapRun_size f from' lo hB k
    have h3 := hB (lo + k)
    have e : ((k + 1 : Nat) : Int) * B = k * B + B := by rw [show ((k + 1 : Nat) : Int) = (k : Int) + 1 by omega, Int.add_mul]; omega
    rw [tapRun, e]; omega
theorem wSize_get : ∀ (l : List (Int × Int)) (k : Nat), k < l.length → (-wSize l ≤ (l.getD k (0, 0)).2 ∧ (l.getD k (0, 0)).2 ≤ wSize l) ∧ 0 ≤ wSize l
  | [], k, h => by simp at h
  | (p, n) :: l, 0, _ => by
    have h0 : 0 ≤ wSize l := by
      cases l with
      | nil => simp [wSize]
      | cons x l => exact (wSize_get (x :: l) 0 (by simp)).2
    simp only [wSize, List.getD_cons_zero]; omega
  | (p, n) :: l, k + 1, h => by
    have := wSize_get l k (by simpa using h)
    simp only [wSize, List.getD_cons_succ]; omega
theorem sumTo_left (f : Nat → Int) : ∀ n, sumTo f (n + 1) = f 0 + sumTo (fun k => f (k + 1)) n
  | 0 => by simp [sumTo]
  | n + 1 => by rw [sumTo, sumTo_left f n, sumTo]; omega
theorem wSum_sumTo : ∀ (l : List (Int × Int)), wSum l = sumTo (fun k => (l.getD k (0, 0)).2) l.length
  | [] => rfl
  | (p, n) :: l => by
    rw [List.length_cons, sumTo_left]
    simp only [List.getD_cons_zero, List.getD_cons_succ, wSum]
    rw [wSum_sumTo l]

/-- Places are within, and rise. -/
theorem tapRun_places (f : Int → Int) (from' lo : Int) (hf : 1 ≤ from') : ∀ k : Nat, (∀ x, x ∈ tapRun f from' lo k → 0 ≤ x.1 ∧ x.1 < from' ∧ x.1 ≤ clampP from' (lo + k - 1)) ∧ (tapRun f from' lo k).Pairwise fun x y => x.1 < y.1
  | 0 => by simp [tapRun]
  | k + 1 => by
    obtain ⟨h1, h2⟩ := tapRun_places f from' lo hf k
    have hc : ∀ j, 0 ≤ clampP from' j ∧ clampP from' j < from' := fun j => by unfold clampP; omega
    have hmono : clampP from' (lo + k - 1) ≤ clampP from' (lo + k) := by unfold clampP; omega
    have e : lo + ((k + 1 : Nat) : Int) - 1 = lo + k := by omega
    rw [tapRun, e]
    unfold tapStep
    split
    · exact ⟨fun x hx => by have := h1 x hx; omega, h2⟩
    · split
      · rename_i h
        have es := last_split h.1
        rw [es] at h2
        rw [List.pairwise_append] at h2
        constructor
        · intro x hx
          rcases List.mem_append.1 hx with hx | hx
          · have := h1 x (List.dropLast_subset _ hx); omega
          · rw [List.mem_singleton.1 hx]; have := hc (lo + k); exact ⟨this.1, this.2, Int.le_refl _⟩
        · rw [List.pairwise_append]
          refine ⟨h2.1, by simp, fun x hx y hy => ?_⟩
          rw [List.mem_singleton.1 hy]
          have := h2.2.2 x hx _ (List.mem_singleton.2 rfl)
          rw [h.2] at this; exact this
      · rename_i h0 h
        constructor
        · intro x hx
          rcases List.mem_append.1 hx with hx | hx
          · have := h1 x hx; omega
          · rw [List.mem_singleton.1 hx]; have := hc (lo + k); exact ⟨this.1, this.2, Int.le_refl _⟩
        · rw [List.pairwise_append]
          refine ⟨h2, by simp, fun x hx y hy => ?_⟩
          rw [List.mem_singleton.1 hy]
          show x.1 < clampP from' (lo + k)
          have hx1 := h1 x hx
          have hne : tapRun f from' lo k ≠ [] := fun e => by rw [e] at hx; cases hx
          have es := last_split hne
          have hl := h1 _ (show (tapRun f from' lo k).getLast?.getD (0, 0) ∈ tapRun f from' lo k by rw [es]; simp)
          have hne2 : ((tapRun f from' lo k).getLast?.getD (0, 0)).1 ≠ clampP from' (lo + k) := fun e => h ⟨hne, e⟩
          rw [es] at hx h2
          rw [List.pairwise_append] at h2
          rcases List.mem_append.1 hx with hx' | hx'
          · have := h2.2.2 x hx' _ (List.mem_singleton.2 rfl); omega
          · rw [List.mem_singleton.1 hx']; omega
end Go.Proofs.Ytdcpeeolfgohmaa
