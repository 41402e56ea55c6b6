/- Plain theory of a stable sort: rows as functions of a place, an order by a key (the greater first), then by the value. No program is in sight. -/
namespace Go.Proofs.Ytdcpeeolfgohmaa
set_option linter.unusedVariables false

/-- x stands ahead of y: its key is greater, or it is the lesser of equals. -/
def Ahead (K : Int → Int) (x y : Int) : Prop := K y < K x ∨ (K x = K y ∧ x < y)

theorem Ahead.trans {K : Int → Int} {x y z : Int} (h : Ahead K x y) (k : Ahead K y z) : Ahead K x z := by
  unfold Ahead at *; omega
theorem Ahead.irrefl {K : Int → Int} {x : Int} (h : Ahead K x x) : False := by
  unfold Ahead at h; omega
theorem Ahead.asymm {K : Int → Int} {x y : Int} (h : Ahead K x y) (k : Ahead K y x) : False := (h.trans k).irrefl
theorem Ahead.total {K : Int → Int} {x y : Int} (h : x ≠ y) : Ahead K x y ∨ Ahead K y x := by
  unfold Ahead; omega
/-- Of two whose values rise: the test 'the second goes ahead' is a test of keys alone. -/
theorem ahead_iff {K : Int → Int} {x y : Int} (h : x < y) : Ahead K y x ↔ K x < K y := by
  unfold Ahead; omega
theorem ahead_not {K : Int → Int} {x y : Int} (h : x < y) (k : ¬ K x < K y) : Ahead K x y := by
  unfold Ahead; omega

def SortedBy (K : Int → Int) (a b : Nat) (d : Nat → Int) : Prop := ∀ i j, a ≤ i → i < j → j < b → Ahead K (d i) (d j)

/-- d' is d, but for the places from a to b, where it holds what d holds there. -/
def Seg (a b : Nat) (d d' : Nat → Int) : Prop := (∀ k, k < a ∨ b ≤ k → d' k = d k) ∧ ∀ k, a ≤ k → k < b → ∃ q, a ≤ q ∧ q < b ∧ d' k = d q

theorem Seg.refl (a b : Nat) (d : Nat → Int) : Seg a b d d := ⟨fun _ _ => rfl, fun k h1 h2 => ⟨k, h1, h2, rfl⟩⟩
theorem Seg.trans {a b : Nat} {d d' d'' : Nat → Int} (h : Seg a b d d') (k : Seg a b d' d'') : Seg a b d d'' :=
  ⟨fun i hi => (k.1 i hi).trans (h.1 i hi), fun i h1 h2 => by
    obtain ⟨q, q1, q2, e⟩ := k.2 i h1 h2
    obtain ⟨r, r1, r2, e'⟩ := h.2 q q1 q2
    exact ⟨r, r1, r2, e.trans e'⟩⟩
theorem Seg.wider {a b a' b' : Nat} {d d' : Nat → Int} (h : Seg a b d d') (ha : a' ≤ a) (hb : b ≤ b') : Seg a' b' d d' :=
  ⟨fun i hi => h.1 i (by omega), fun i h1 h2 => by
    by_cases hi : a ≤ i ∧ i < b
    · obtain ⟨q, q1, q2, e⟩ := h.2 i hi.1 hi.2
      exact ⟨q, by omega, by omega, e⟩
    · exact ⟨i, h1, h2, h.1 i (by omega)⟩⟩
theorem SortedBy.same {K : Int → Int} {a b : Nat} {d d' : Nat → Int} (h : SortedBy K a b d) (e : ∀ k, a ≤ k → k < b → d' k = d k) : SortedBy K a b d' :=
  fun i j h1 h2 h3 => by rw [e i h1 (by omega), e j (by omega) h3]; exact h i j h1 h2 h3
theorem SortedBy.part {K : Int → Int} {a b a' b' : Nat} {d : Nat → Int} (h : SortedBy K a b d) (ha : a ≤ a') (hb : b' ≤ b) : SortedBy K a' b' d :=
  fun i j h1 h2 h3 => h i j (by omega) h2 (by omega)

/-- Every value of the first part is less than every value of the second: they stood so. -/
def Cross (a m b : Nat) (d : Nat → Int) : Prop := ∀ i j, a ≤ i → i < m → m ≤ j → j < b → d i < d j

def upd (d : Nat → Int) (i : Nat) (v : Int) : Nat → Int := fun k => if k = i then v else d k
theorem upd_same (d : Nat → Int) (i : Nat) (v : Int) : upd d i v i = v := by simp [upd]
theorem upd_other {d : Nat → Int} {i k : Nat} (v : Int) (h : k ≠ i) : upd d i v k = d k := by simp [upd, h]
def swapd (d : Nat → Int) (i j : Nat) : Nat → Int := upd (upd d i (d j)) j (d i)
theorem swapd_at (d : Nat → Int) (i j k : Nat) : swapd d i j k = if k = j then d i else if k = i then d j else d k := by
  unfold swapd upd; rfl

/-- d' has the first of the places from a on moved behind the others: to i - 1. -/
def Fwd (a i : Nat) (d d' : Nat → Int) : Prop := ∀ k, d' k = if a ≤ k ∧ k + 1 < i then d (k + 1) else if k + 1 = i ∧ a ≤ k then d a else d k
/-- d' has the last of the places up to m moved ahead of the others: to i. -/
def Bwd (i m : Nat) (d d' : Nat → Int) : Prop := ∀ k, d' k = if i < k ∧ k ≤ m then d (k - 1) else if k = i ∧ i ≤ m then d m else d k

theorem Fwd.refl (a : Nat) (d : Nat → Int) : Fwd a (a + 1) d d := fun k => by
  split
  · omega
  · split
    · rename_i h; rw [show k = a by omega]
    · rfl
theorem Fwd.step {a i : Nat} {d d' : Nat → Int} (h : Fwd a i d d') (hi : a < i) : Fwd a (i + 1) d (swapd d' (i - 1) i) := fun k => by
  rw [swapd_at]
  by_cases h1 : k = i
  · subst h1
    rw [if_pos rfl, h (k - 1), if_neg (by omega), if_pos (by omega), if_neg (by omega), if_pos (by omega)]
  · rw [if_neg h1]
    by_cases h2 : k = i - 1
    · subst h2
      rw [if_pos rfl, h i, if_neg (by omega), if_neg (by omega), if_pos (by omega), show i - 1 + 1 = i by omega]
    · rw [if_neg h2, h k]
      by_cases h3 : a ≤ k ∧ k + 1 < i
      · rw [if_pos h3, if_pos (by omega)]
      · rw [if_neg h3, if_neg (by omega), if_neg (by omega), if_neg (by omega)]
theorem Bwd.refl (m : Nat) (d : Nat → Int) : Bwd m m d d := fun k => by
  split
  · omega
  · split
    · rename_i h; rw [show k = m by omega]
    · rfl
theorem Bwd.step {i m : Nat} {d d' : Nat → Int} (h : Bwd i m d d') (hi : 0 < i) (him : i ≤ m) : Bwd (i - 1) m d (swapd d' i (i - 1)) := fun k => by
  rw [swapd_at]
  by_cases h1 : k = i - 1
  · subst h1
    rw [if_pos rfl, h i, if_neg (by omega), if_pos (by omega), if_neg (by omega), if_pos (by omega)]
  · rw [if_neg h1]
    by_cases h2 : k = i
    · subst h2
      rw [if_pos rfl, h (k - 1), if_neg (by omega), if_neg (by omega), if_pos (by omega)]
    · rw [if_neg h2, h k]
      by_cases h3 : i < k ∧ k ≤ m
      · rw [if_pos h3, if_pos (by omega)]
      · rw [if_neg h3, if_neg (by omega), if_neg (by omega), if_neg (by omega)]

theorem Fwd.seg {a i b : Nat} {d d' : Nat → Int} (h : Fwd a i d d') (hi : i ≤ b) : Seg a b d d' :=
  ⟨fun k hk => by rw [h k, if_neg (by omega), if_neg (by omega)], fun k h1 h2 => by
    rw [h k]
    by_cases h3 : a ≤ k ∧ k + 1 < i
    · rw [if_pos h3]; exact ⟨k + 1, by omega, by omega, rfl⟩
    · rw [if_neg h3]
      by_cases h4 : k + 1 = i ∧ a ≤ k
      · rw [if_pos h4]; exact ⟨a, by omega, by omega, rfl⟩
      · rw [if_neg h4]; exact ⟨k, h1, h2, rfl⟩⟩
theorem Bwd.seg {i m a b : Nat} {d d' : Nat → Int} (h : Bwd i m d d') (hi : a ≤ i) (hm : m < b) : Seg a b d d' :=
  ⟨fun k hk => by rw [h k, if_neg (by omega), if_neg (by omega)], fun k h1 h2 => by
    rw [h k]
    by_cases h3 : i < k ∧ k ≤ m
    · rw [if_pos h3]; exact ⟨k - 1, by omega, by omega, rfl⟩
    · rw [if_neg h3]
      by_cases h4 : k = i ∧ i ≤ m
      · rw [if_pos h4]; exact ⟨m, by omega, by omega, rfl⟩
      · rw [if_neg h4]; exact ⟨k, h1, h2, rfl⟩⟩

/-- One value put into its place among sorted ones behind it. -/
theorem Fwd.sorted {K : Int → Int} {a i b : Nat} {d d' : Nat → Int} (h : Fwd a i d d') (hs : SortedBy K (a + 1) b d) (ha : a < i) (hib : i ≤ b)
    (h1 : ∀ k, a < k → k < i → Ahead K (d k) (d a)) (h2 : ∀ k, i ≤ k → k < b → Ahead K (d a) (d k)) : SortedBy K a b d' := fun x y hx hxy hy => by
  rw [h x, h y]
  by_cases x1 : x + 1 < i
  · rw [if_pos ⟨hx, x1⟩]
    by_cases y1 : y + 1 < i
    · rw [if_pos ⟨by omega, y1⟩]; exact hs _ _ (by omega) (by omega) (by omega)
    · rw [if_neg (by omega)]
      by_cases y2 : y + 1 = i
      · rw [if_pos ⟨y2, by omega⟩]; exact h1 _ (by omega) (by omega)
      · rw [if_neg (by omega)]; exact hs _ _ (by omega) (by omega) hy
  · rw [if_neg (by omega), if_neg (by omega : ¬ (a ≤ y ∧ y + 1 < i)), if_neg (by omega : ¬ (y + 1 = i ∧ a ≤ y))]
    by_cases x2 : x + 1 = i
    · rw [if_pos ⟨x2, hx⟩]; exact h2 _ (by omega) hy
    · rw [if_neg (by omega)]; exact hs _ _ (by omega) hxy hy
/-- One value put into its place among sorted ones ahead of it. -/
theorem Bwd.sorted {K : Int → Int} {a i m : Nat} {d d' : Nat → Int} (h : Bwd i m d d') (hs : SortedBy K a m d) (hi : a ≤ i) (him : i ≤ m)
    (h1 : ∀ k, a ≤ k → k < i → Ahead K (d k) (d m)) (h2 : ∀ k, i ≤ k → k < m → Ahead K (d m) (d k)) : SortedBy K a (m + 1) d' := fun x y hx hxy hy => by
  rw [h x, h y]
  by_cases y1 : i < y
  · rw [if_pos (⟨y1, by omega⟩ : i < y ∧ y ≤ m)]
    by_cases x1 : i < x
    · rw [if_pos (⟨x1, by omega⟩ : i < x ∧ x ≤ m)]; exact hs _ _ (by omega) (by omega) (by omega)
    · rw [if_neg (by omega)]
      by_cases x2 : x = i
      · rw [if_pos ⟨x2, by omega⟩]; exact h2 _ (by omega) (by omega)
      · rw [if_neg (by omega)]; exact hs _ _ hx (by omega) (by omega)
  · rw [if_neg (by omega), if_neg (by omega : ¬ (i < y ∧ y ≤ m)), if_neg (by omega : ¬ (x = i ∧ i ≤ m))]
    by_cases y2 : y = i
    · rw [if_pos ⟨y2, by omega⟩]; exact h1 _ hx (by omega)
    · rw [if_neg (by omega)]; exact hs _ _ hx hxy (by omega)

/-- The parts [s, m) and [m, e) have changed places. -/
def Rot (s m e : Nat) (d d' : Nat → Int) : Prop := ∀ k, d' k = if s ≤ k ∧ k < s + (e - m) then d (m + (k - s)) else if s + (e - m) ≤ k ∧ k < e then d (k - (e - m)) else d k

theorem Rot.seg {s m e a b : Nat} {d d' : Nat → Int} (h : Rot s m e d d') (h1 : s ≤ m) (h2 : m ≤ e) (ha : a ≤ s) (hb : e ≤ b) : Seg a b d d' :=
  ⟨fun k hk => by rw [h k, if_neg (by omega), if_neg (by omega)], fun k k1 k2 => by
    rw [h k]
    by_cases h3 : s ≤ k ∧ k < s + (e - m)
    · rw [if_pos h3]; exact ⟨m + (k - s), by omega, by omega, rfl⟩
    · rw [if_neg h3]
      by_cases h4 : s + (e - m) ≤ k ∧ k < e
      · rw [if_pos h4]; exact ⟨k - (e - m), by omega, by omega, rfl⟩
      · rw [if_neg h4]; exact ⟨k, k1, k2, rfl⟩⟩
theorem Rot.none_left {m e : Nat} {d : Nat → Int} : Rot m m e d d := fun k => by
  split
  · rename_i h; rw [show m + (k - m) = k by omega]
  · split
    · omega
    · rfl
theorem Rot.none_right {s m : Nat} {d : Nat → Int} : Rot s m m d d := fun k => by
  split
  · omega
  · split
    · rw [show k - (m - m) = k by omega]
    · rfl

/-- **The merge's step**: the search's place, the parts changed, both halves merged: sorted. -/
theorem merge_step {K : Int → Int} {a m b mid s e : Nat} {d d1 : Nat → Int} (ham : a < m) (hmb : m < b) (hs1 : SortedBy K a m d) (hs2 : SortedBy K m b d) (hc : Cross a m b d)
    (hmid1 : a < mid) (hmid2 : mid < b) (hse : s + e = mid + m) (hsa : a ≤ s) (hsm : s ≤ m) (hme : m ≤ e) (heb : e ≤ b)
    (hl : a < s → e < b → Ahead K (d (s - 1)) (d e)) (hr : s < m → m < e → Ahead K (d (e - 1)) (d s)) (hrot : Rot s m e d d1) :
    SortedBy K a s d1 ∧ SortedBy K s mid d1 ∧ Cross a s mid d1 ∧ SortedBy K mid e d1 ∧ SortedBy K e b d1 ∧ Cross mid e b d1 ∧
      ∀ i j, a ≤ i → i < mid → mid ≤ j → j < b → Ahead K (d1 i) (d1 j) := by
  have hem : e - m = mid - s := by omega
  have lo : ∀ k, k < s → d1 k = d k := fun k hk => by rw [hrot k, if_neg (by omega), if_neg (by omega)]
  have p2 : ∀ k, s ≤ k → k < mid → d1 k = d (m + (k - s)) := fun k h1 h2 => by rw [hrot k, if_pos (by omega)]
  have p3 : ∀ k, mid ≤ k → k < e → d1 k = d (k - (e - m)) := fun k h1 h2 => by rw [hrot k, if_neg (by omega), if_pos (by omega)]
  have hi : ∀ k, e ≤ k → d1 k = d k := fun k hk => by rw [hrot k, if_neg (by omega), if_neg (by omega)]
  refine ⟨?_, ?_, ?_, ?_, ?_, ?_, ?_⟩
  · intro i j h1 h2 h3
    rw [lo i (by omega), lo j h3]; exact hs1 i j h1 h2 (by omega)
  · intro i j h1 h2 h3
    rw [p2 i h1 (by omega), p2 j (by omega) h3]; exact hs2 _ _ (by omega) (by omega) (by omega)
  · intro i j h1 h2 h3 h4
    rw [lo i h2, p2 j h3 h4]; exact hc _ _ h1 (by omega) (by omega) (by omega)
  · intro i j h1 h2 h3
    rw [p3 i h1 (by omega), p3 j (by omega) h3]; exact hs1 _ _ (by omega) (by omega) (by omega)
  · intro i j h1 h2 h3
    rw [hi i h1, hi j (by omega)]; exact hs2 _ _ (by omega) h2 h3
  · intro i j h1 h2 h3 h4
    rw [p3 i h1 h2, hi j h3]; exact hc _ _ (by omega) (by omega) (by omega) h4
  · intro i j h1 h2 h3 h4
    -- the four parts: A1 = [a, s), B1 = [s, mid) of d1; A2 = [mid, e), B2 = [e, b)
    by_cases i1 : i < s
    · rw [lo i i1]
      by_cases j1 : j < e
      · rw [p3 j h3 j1]; exact hs1 _ _ h1 (by omega) (by omega)
      · rw [hi j (by omega)]
        have h5 := hl (by omega) (by omega)
        have h6 : i = s - 1 ∨ Ahead K (d i) (d (s - 1)) := by
          by_cases e1 : i = s - 1
          · exact .inl e1
          · exact .inr (hs1 _ _ h1 (by omega) (by omega))
        have h7 : j = e ∨ Ahead K (d e) (d j) := by
          by_cases e1 : j = e
          · exact .inl e1
          · exact .inr (hs2 _ _ (by omega) (by omega) h4)
        have h8 : Ahead K (d i) (d e) := by
          rcases h6 with rfl | h6
          · exact h5
          · exact h6.trans h5
        rcases h7 with rfl | h7
        · exact h8
        · exact h8.trans h7
    · rw [p2 i (by omega) h2]
      by_cases j1 : j < e
      · rw [p3 j h3 j1]
        have h5 := hr (by omega) (by omega)
        have h6 : m + (i - s) = e - 1 ∨ Ahead K (d (m + (i - s))) (d (e - 1)) := by
          by_cases e1 : m + (i - s) = e - 1
          · exact .inl e1
          · exact .inr (hs2 _ _ (by omega) (by omega) (by omega))
        have h7 : j - (e - m) = s ∨ Ahead K (d s) (d (j - (e - m))) := by
          by_cases e1 : j - (e - m) = s
          · exact .inl e1
          · exact .inr (hs1 _ _ (by omega) (by omega) (by omega))
        have h8 : Ahead K (d (m + (i - s))) (d s) := by
          rcases h6 with h6 | h6
          · rw [h6]; exact h5
          · exact h6.trans h5
        rcases h7 with h7 | h7
        · rw [h7]; exact h8
        · exact h8.trans h7
      · rw [hi j (by omega)]; exact hs2 _ _ (by omega) (by omega) h4

/-- Two sorted halves of which the first stands ahead: sorted. -/
theorem SortedBy.join {K : Int → Int} {a m b : Nat} {d : Nat → Int} (h1 : SortedBy K a m d) (h2 : SortedBy K m b d) (h : ∀ i j, a ≤ i → i < m → m ≤ j → j < b → Ahead K (d i) (d j)) : SortedBy K a b d :=
  fun i j i1 ij j1 => by
    by_cases hi : i < m
    · by_cases hj : j < m
      · exact h1 i j i1 ij hj
      · exact h i j i1 hi (by omega) j1
    · exact h2 i j (by omega) ij j1
theorem Seg.ahead {K : Int → Int} {a m b : Nat} {d d' d'' : Nat → Int} (k1 : Seg a m d d') (k2 : Seg m b d' d'') (h : ∀ i j, a ≤ i → i < m → m ≤ j → j < b → Ahead K (d i) (d j)) :
    ∀ i j, a ≤ i → i < m → m ≤ j → j < b → Ahead K (d'' i) (d'' j) := fun i j h1 h2 h3 h4 => by
  rw [k2.1 i (by omega)]
  obtain ⟨q, q1, q2, e⟩ := k1.2 i h1 h2
  obtain ⟨r, r1, r2, e'⟩ := k2.2 j h3 h4
  rw [e, e', k1.1 r (by omega)]
  exact h q r q1 q2 r1 r2
end Go.Proofs.Ytdcpeeolfgohmaa
