/- slices.symMergeCmpFunc at []int, all cases; slices.insertionSortCmpFunc. slices.SortStableFunc at []int: the row sorted by keys, equals in their order. -/
import Derived.Test.YtdcpeeolfgohmaaSortE
namespace Go.Proofs.Ytdcpeeolfgohmaa
open Go.RowKit
set_option linter.unusedSimpArgs false
set_option linter.unusedVariables false

theorem symMerge_said (w0 : World) (blk n cap : Nat) (K : Int → Int) (p1 p2 p3 : Addr) (hC : CmpAt w0 blk n K p1 p2 p3) (hn : n ≤ 1000000000) (N : Nat) : MergeSaid w0 blk n cap K p1 p2 p3 N := by
  induction N with
  | zero => intro w a m b d h _ _ h1 h2; omega
  | succ N ih =>
    intro w a m b d hbN hW hI ham hmb hbn hs1 hs2 hx
    by_cases h1 : m = a + 1
    · subst h1
      have h := symMerge_one w0 w blk n cap a b d K p1 p2 p3 hW hC hI hmb hbn hn hs2 hx
      rwa [show ((a : Int) + 1) = ((a + 1 : Nat) : Int) by omega] at h
    · by_cases h2 : b = m + 1
      · subst h2
        have h := symMerge_last w0 w blk n cap a m d K p1 p2 p3 hW hC hI (by omega) hbn hn hs1 hx
        rwa [show ((m : Int) + 1) = ((m + 1 : Nat) : Int) by omega] at h
      · exact symMerge_many w0 blk n cap K p1 p2 p3 hC hn N ih w a m b d hbN hW hI (by omega) (by omega) hbn hs1 hs2 hx

/-- The values from a to b rise. -/
def Rises (a b : Nat) (d : Nat → Int) : Prop := ∀ i j, a ≤ i → i < j → j < b → d i < d j

set_option maxHeartbeats 8000000 in
set_option maxRecDepth 100000 in
theorem insertion_calls (w0 : World) (blk n cap : Nat) (K : Int → Int) (p1 p2 p3 : Addr) (hC : CmpAt w0 blk n K p1 p2 p3) (hn : n ≤ 1000000000) (w : World) (a b : Nat) (d : Nat → Int)
    (hW : RowW w0 blk n d w) (hI : InN n d) (hab : a ≤ b) (hbn : b ≤ n) (hr : Rises a b d) :
    Calls Try.prog 157 #[.slice (some ⟨blk, 0, none⟩) n cap, .int .i64 a, .int .i64 b, .func (.func 124) #[] #[.pointer (some p1), .pointer (some p2), .pointer (some p3)]] w
      fun en w' => en = .returned (.tuple #[]) ∧ ∃ d', RowW w0 blk n d' w' ∧ Seg a b d d' ∧ SortedBy K a b d' := by
  have HW : Aside (RowW w0 blk n d w) := hW
  have HC : Aside (CmpAt w0 blk n K p1 p2 p3) := hC
  have HI := Lib.hid hI
  have HRI := Lib.hid hr
  clear hW hC hI hr
  go_enter Try.func157, Try.ntmps157
  go_wp2
  go_loopg [8, 9] (b + 1) (fun k vi vj wr => ∃ (i : Nat) (di : Nat → Int), vi = .int .i64 i ∧ a < i ∧ (i ≤ b ∨ b ≤ a) ∧ b + 1 ≤ i + k ∧ Aside (RowW w0 blk n di wr) ∧ Hid (i ≤ b → Seg a i d di ∧ SortedBy K a i di) ∧ Hid (b < i → di = d))
  case atStart => exact ⟨a + 1, d, by go_num, by omega, by omega, by omega, HW, fun _ => ⟨Seg.refl _ _ _, fun x y h1 h2 h3 => by omega⟩, fun _ => rfl⟩
  case round =>
    clear HW
    obtain ⟨i, di, rfl, hai, hib, hk, HR, HS, HD⟩ := hrel
    by_cases hlt : i < b
    · have hltz : (i : Int) < (b : Int) := by omega
      have HS1 : Hid (Seg a i d di) := (HS.out (by omega)).1
      have HS2 : Hid (SortedBy K a i di) := (HS.out (by omega)).2
      clear HS HD
      go_wp2_with fail
      go_loopg [9] (i + 1) (fun k2 vj wr => ∃ (j : Nat) (dj : Nat → Int), vj = .int .i64 j ∧ a ≤ j ∧ j ≤ i ∧ j ≤ k2 ∧ Aside (RowW w0 blk n dj wr) ∧ Hid (Bwd j i di dj) ∧ Hid (∀ q, j ≤ q → q < i → Ahead K (di i) (di q)))
      case atStart => exact ⟨i, di, rfl, by omega, by omega, by omega, HR, Bwd.refl i di, fun q h1 h2 => by omega⟩
      case round =>
        clear HR
        obtain ⟨j, dj, rfl, haj, hji, hk2, HR, HB, HQ⟩ := hrel
        have OUT : Hid ((∀ q, a ≤ q → q < j → Ahead K (di q) (di i)) → Seg a (i + 1) d dj ∧ SortedBy K a (i + 1) dj) := fun h =>
          ⟨(HS1.out.wider (Nat.le_refl _) (by omega)).trans (HB.out.seg haj (by omega)), HB.out.sorted HS2.out haj hji h HQ.out⟩
        by_cases hja : a < j
        · obtain ⟨r, rfl⟩ : ∃ r, j = r + 1 := ⟨j - 1, by omega⟩
          obtain ⟨x, ex⟩ : ∃ x, x = dj (r + 1) := ⟨_, rfl⟩
          obtain ⟨y, ey⟩ : ∃ y, y = dj r := ⟨_, rfl⟩
          have ex2 : x = di i := by rw [ex, HB.out (r + 1), if_neg (by omega), if_pos (by omega)]
          have ey2 : y = di r := by rw [ey, HB.out r, if_neg (by omega), if_neg (by omega)]
          have HIi : InN n di := HI.out.seg HS1.out (by omega)
          have bx := HIi i (by omega)
          have by_ := HIi r (by omega)
          rw [← ex2] at bx
          rw [← ey2] at by_
          have hyx : y < x := by
            obtain ⟨q, q1, q2, e⟩ := HS1.out.2 r (by omega) (by omega)
            rw [ey2, ex2, e, HS1.out.1 i (by omega)]
            exact HRI.out q i q1 q2 hlt
          have c1 := HR.out.c (r + 1) (by omega)
          have c2 := HR.out.c r (by omega)
          rw [← ex] at c1
          rw [← ey] at c2
          obtain ⟨c, ec⟩ : ∃ c, c = cmpI (K y) (K x) := ⟨_, rfl⟩
          have hcl : ∀ q, Calls Try.prog 124 #[.int .i64 x, .int .i64 y, .pointer (some p1), .pointer (some p2), .pointer (some p3)] (wr.drewN q) fun e w' => e = .returned (.int .i64 c) ∧ ∃ q', w' = (wr.drewN q).drewN q' := fun q => by
            rw [ec]; exact HC.out _ _ (HR.out.drewN q) x y bx.1 bx.2 by_.1 by_.2
          have HCL := Lib.hid hcl
          have hjaz : decide ((a : Int) < ((r : Int) + 1)) = true := decide_eq_true (by omega)
          have hjb : (r : Int) + 1 < (n : Int) := by omega
          have hjc : (r : Int) < (n : Int) := by omega
          by_cases hv : K y < K x
          · have hc0 : decide (c < 0) = true := decide_eq_true (by rw [ec]; exact (cmpI_neg _ _).2 hv)
            have HA : Hid (Ahead K (di i) (di r)) := by rw [← ex2, ← ey2]; exact (ahead_iff hyx).2 hv
            have HEX := Lib.hid ex
            have HEY := Lib.hid ey
            clear ec hcl bx by_ hyx ex ey ex2 ey2 hv HIi
            go_wp2_with fail
            go_quiet ((go_at_call 124; exact Calls.quiet_of (HCL.out _)))
            have S2 : Aside (RowW w0 blk n dj (wr.drewN nq)) := HR.out.drewN nq
            clear c1 c2 HCL HR
            generalize wr.drewN nq = w2 at S2 ⊢
            have S3 : Aside (RowW w0 blk n (swapd dj (r + 1) r) ((w2.setCell ⟨blk, r + 1, none⟩ (.int .i64 y)).setCell ⟨blk, r, none⟩ (.int .i64 x)).drew) := by rw [HEX.out, HEY.out]; exact (S2.out.swap (r + 1) r).drew
            have S4 : Hid (Bwd r i di (swapd dj (r + 1) r)) := HB.out.step (by omega) (by omega)
            have c1 := S2.out.c (r + 1) (by omega)
            have c2 := S2.out.c r (by omega)
            have f1 := S2.out.f (r + 1) (by omega)
            have f2 := S2.out.f r (by omega)
            obtain ⟨u, c3⟩ := S2.out.c2 (r + 1) r (by omega) (by omega) (.int .i64 y)
            rw [← HEX.out] at c1
            rw [← HEY.out] at c2
            clear S2 HEX HEY HB
            go_wp2_with fail
            go_big_region
            clear c1 c2 c3 f1 f2
            generalize ((w2.setCell ⟨blk, r + 1, none⟩ (.int .i64 y)).setCell ⟨blk, r, none⟩ (.int .i64 x)).drew = w3 at S3 ⊢
            go_wp2
            go_roundg r
            case measure => omega
            case rel =>
              refine ⟨r, swapd dj (r + 1) r, by go_num, by omega, by omega, by omega, S3, S4, fun q h1 h2 => ?_⟩
              by_cases e : q = r
              · rw [e]; exact HA.out
              · exact HQ.out q (by omega) h2
          · have hc0 : decide (c < 0) = false := decide_eq_false (by rw [ec]; exact fun h' => hv ((cmpI_neg _ _).1 h'))
            have HA : Hid (Ahead K (di r) (di i)) := by rw [← ex2, ← ey2]; exact ahead_not hyx hv
            clear ec hcl bx by_ hyx ex ey ex2 ey2 hv HIi
            go_wp2_with fail
            go_quiet ((go_at_call 124; exact Calls.quiet_of (HCL.out _)))
            have S2 : Aside (RowW w0 blk n dj (wr.drewN nq)) := HR.out.drewN nq
            clear c1 c2 HCL HR
            go_wp2
            go_roundg (b + 1 - (i + 1))
            case measure => omega
            case rel =>
              refine ⟨i + 1, dj, by go_num, by omega, by omega, by omega, S2, fun _ => OUT.out fun q h1 h2 => ?_, fun h => by omega⟩
              by_cases e : q = r
              · rw [e]; exact HA.out
              · exact (HS2.out q r h1 (by omega) (by omega)).trans HA.out
        · have hjaz : decide ((a : Int) < (j : Int)) = false := decide_eq_false (by omega)
          go_wp2_with fail
          go_quiet (fail)
          have S2 : Aside (RowW w0 blk n dj (wr.drewN nq)) := HR.out.drewN nq
          clear HR
          go_wp2
          go_roundg (b + 1 - (i + 1))
          case measure => omega
          case rel => exact ⟨i + 1, dj, by go_num, by omega, by omega, by omega, S2, fun _ => OUT.out fun q h1 h2 => by omega, fun h => by omega⟩
    · have hltz : ¬ (i : Int) < (b : Int) := by omega
      go_wp2
      go_end0
      refine ⟨rfl, di, HR.out, ?_⟩
      by_cases h : i ≤ b
      · have e : b = i := by omega
        rw [e]; exact HS.out (by omega)
      · rw [HD.out (by omega)]; exact ⟨Seg.refl _ _ _, fun x y h1 h2 h3 => by omega⟩
end Go.Proofs.Ytdcpeeolfgohmaa

namespace Go.Proofs.Ytdcpeeolfgohmaa
open Go.RowKit
set_option linter.unusedSimpArgs false
set_option linter.unusedVariables false

/-! ### Plain: rows cut into blocks -/
def IsB (C x : Nat) : Prop := ∃ k, x = k * C
theorem isB_zero (C : Nat) : IsB C 0 := ⟨0, by simp⟩
theorem isB_add {C x : Nat} (h : IsB C x) : IsB C (x + C) := by
  obtain ⟨k, rfl⟩ := h
  exact ⟨k + 1, by rw [Nat.add_mul]; omega⟩
theorem isB_half {C x : Nat} (h : IsB (2 * C) x) : IsB C x := by
  obtain ⟨k, rfl⟩ := h
  exact ⟨k * 2, by rw [Nat.mul_assoc]⟩
theorem isB_lt {C x a : Nat} (h : IsB C x) (k : IsB C a) (hlt : x < a) : x + C ≤ a := by
  obtain ⟨p, rfl⟩ := h
  obtain ⟨q, rfl⟩ := k
  have hpq : p < q := by
    rcases Nat.lt_or_ge p q with h | h
    · exact h
    · have := Nat.mul_le_mul_right C h; omega
  have := Nat.mul_le_mul_right C (Nat.succ_le_of_lt hpq)
  rw [Nat.succ_mul] at this
  exact this

/-- All values ahead of the place x are less than those from it on. -/
def Sep (n x : Nat) (d : Nat → Int) : Prop := ∀ i j, i < x → x ≤ j → j < n → d i < d j
theorem Sep.seg {n x a b : Nat} {d d' : Nat → Int} (h : Sep n x d) (s : Seg a b d d') (hb : b ≤ n) (hx : x ≤ a ∨ b ≤ x) : Sep n x d' := fun i j h1 h2 h3 => by
  have hi : ∃ q, q < x ∧ d' i = d q := by
    by_cases hi : a ≤ i ∧ i < b
    · obtain ⟨q, q1, q2, e⟩ := s.2 i hi.1 hi.2
      exact ⟨q, by omega, e⟩
    · exact ⟨i, h1, s.1 i (by omega)⟩
  have hj : ∃ q, x ≤ q ∧ q < n ∧ d' j = d q := by
    by_cases hj : a ≤ j ∧ j < b
    · obtain ⟨q, q1, q2, e⟩ := s.2 j hj.1 hj.2
      exact ⟨q, by omega, by omega, e⟩
    · exact ⟨j, h2, h3, s.1 j (by omega)⟩
  obtain ⟨q, q1, e⟩ := hi
  obtain ⟨r, r1, r2, e'⟩ := hj
  rw [e, e']; exact h q r q1 r1 r2
theorem Sep.cross {n x a b : Nat} {d : Nat → Int} (h : Sep n x d) (hb : b ≤ n) : Cross a x b d := fun i j h1 h2 h3 h4 => h i j h2 h3 (by omega)

/-- The blocks of C ahead of a are sorted. -/
def Done (K : Int → Int) (n C a : Nat) (d : Nat → Int) : Prop := ∀ x, IsB C x → x < a → SortedBy K x (min (x + C) n) d
theorem Done.seg {K : Int → Int} {n C a b : Nat} {d d' : Nat → Int} (h : Done K n C a d) (s : Seg a b d d') (ha : IsB C a) : Done K n C a d' := fun x hx hlt => by
  have := isB_lt hx ha hlt
  exact (h x hx hlt).same fun k h1 h2 => s.1 k (by omega)
theorem Done.next {K : Int → Int} {n C a : Nat} {d : Nat → Int} (h : Done K n C a d) (ha : IsB C a) (s : SortedBy K a (min (a + C) n) d) : Done K n C (a + C) d := fun x hx hlt => by
  by_cases e : x < a
  · exact h x hx e
  · by_cases e2 : x = a
    · rw [e2]; exact s
    · have := isB_lt ha hx (by omega); omega

/-- What holds behind all merges of one width. -/
structure Phase (K : Int → Int) (n C : Nat) (d0 d : Nat → Int) : Prop where
  sg : Seg 0 n d0 d
  so : ∀ x, IsB C x → x < n → SortedBy K x (min (x + C) n) d
  se : ∀ x, IsB C x → Sep n x d

/-- What holds within the merges of width 2 C, those ahead of a being done. -/
structure Within (K : Int → Int) (n C a : Nat) (d0 d : Nat → Int) : Prop where
  sg : Seg 0 n d0 d
  dn : Done K n (2 * C) a d
  so : ∀ x, IsB C x → a ≤ x → x < n → SortedBy K x (min (x + C) n) d
  se : ∀ x, IsB (2 * C) x → Sep n x d
  s1 : ∀ x, IsB C x → a ≤ x → Sep n x d

theorem Within.start {K : Int → Int} {n C : Nat} {d0 d : Nat → Int} (h : Phase K n C d0 d) : Within K n C 0 d0 d :=
  ⟨h.sg, fun x _ h1 => by omega, fun x hx _ h2 => h.so x hx h2, fun x hx => h.se x (isB_half hx), fun x hx _ => h.se x hx⟩
theorem Within.step {K : Int → Int} {n C a : Nat} {d0 d d' : Nat → Int} (h : Within K n C a d0 d) (ha : IsB (2 * C) a) (hb : a + 2 * C ≤ n) (s : Seg a (a + 2 * C) d d') (q : SortedBy K a (a + 2 * C) d') :
    Within K n C (a + 2 * C) d0 d' :=
  ⟨h.sg.trans (s.wider (by omega) hb), (h.dn.seg s ha).next ha (by rw [Nat.min_eq_left hb]; exact q),
    fun x hx h1 h2 => (h.so x hx (by omega) h2).same fun k k1 k2 => s.1 k (by omega),
    fun x hx => (h.se x hx).seg s hb (by
      rcases Nat.lt_or_ge a x with k | k
      · exact .inr (isB_lt ha hx k)
      · exact .inl k),
    fun x hx h1 => (h.s1 x hx (by omega)).seg s hb (.inr h1)⟩
theorem Within.close {K : Int → Int} {n C a : Nat} {d0 d d' : Nat → Int} (h : Within K n C a d0 d) (ha : IsB (2 * C) a) (hn : n < a + 2 * C) (s : Seg a n d d') (q : SortedBy K a n d') :
    Phase K n (2 * C) d0 d' := by
  by_cases han : a ≤ n
  · refine ⟨h.sg.trans (s.wider (by omega) (Nat.le_refl _)), fun x hx h1 => ?_, fun x hx => ?_⟩
    · rcases Nat.lt_or_ge x a with k | k
      · exact (h.dn.seg s ha) x hx k
      · by_cases e : x = a
        · rw [e, Nat.min_eq_right (by omega)]; exact q
        · have := isB_lt ha hx (by omega); omega
    · rcases Nat.lt_or_ge a x with k | k
      · have := isB_lt ha hx k
        exact fun i j h1 h2 h3 => by omega
      · exact (h.se x hx).seg s (Nat.le_refl _) (.inl k)
  · have e : ∀ k, d' k = d k := fun k => s.1 k (by omega)
    have e' : d' = d := funext e
    rw [e']
    exact ⟨h.sg, fun x hx h1 => h.dn x hx (by omega), h.se⟩
theorem Phase.last {K : Int → Int} {n C : Nat} {d0 d : Nat → Int} (h : Phase K n C d0 d) (hn : n ≤ C) : SortedBy K 0 n d := by
  by_cases h0 : n = 0
  · subst h0; exact fun i j _ _ h3 => by omega
  · have := h.so 0 (isB_zero C) (by omega)
    rwa [Nat.zero_add, Nat.min_eq_right hn] at this

/-- The first phase: blocks of 20 by insertion. -/
structure First (K : Int → Int) (n a : Nat) (d0 d : Nat → Int) : Prop where
  sg : Seg 0 n d0 d
  dn : Done K n 20 a d
  se : ∀ x, IsB 20 x → Sep n x d
  sm : ∀ k, a ≤ k → d k = d0 k
theorem First.start {K : Int → Int} {n : Nat} {d0 : Nat → Int} (h : Rises 0 n d0) : First K n 0 d0 d0 :=
  ⟨Seg.refl _ _ _, fun x _ h1 => by omega, fun x _ i j h1 h2 h3 => h i j (by omega) (by omega) h3, fun _ _ => rfl⟩
theorem First.rises {K : Int → Int} {n a b : Nat} {d0 d : Nat → Int} (h : First K n a d0 d) (hr : Rises 0 n d0) (hb : b ≤ n) : Rises a b d := fun i j h1 h2 h3 => by
  rw [h.sm i h1, h.sm j (by omega)]; exact hr i j (by omega) h2 (by omega)
theorem First.step {K : Int → Int} {n a : Nat} {d0 d d' : Nat → Int} (h : First K n a d0 d) (ha : IsB 20 a) (hb : a + 20 ≤ n) (s : Seg a (a + 20) d d') (q : SortedBy K a (a + 20) d') : First K n (a + 20) d0 d' :=
  ⟨h.sg.trans (s.wider (by omega) hb), (h.dn.seg s ha).next ha (by rw [Nat.min_eq_left hb]; exact q),
    fun x hx => (h.se x hx).seg s hb (by
      rcases Nat.lt_or_ge a x with k | k
      · exact .inr (isB_lt ha hx k)
      · exact .inl k),
    fun k hk => (s.1 k (by omega)).trans (h.sm k (by omega))⟩
theorem First.close {K : Int → Int} {n a : Nat} {d0 d d' : Nat → Int} (h : First K n a d0 d) (ha : IsB 20 a) (han : a ≤ n) (hn : n < a + 20) (s : Seg a n d d') (q : SortedBy K a n d') : Phase K n 20 d0 d' := by
  refine ⟨h.sg.trans (s.wider (by omega) (Nat.le_refl _)), fun x hx h1 => ?_, fun x hx => ?_⟩
  · rcases Nat.lt_or_ge x a with k | k
    · exact (h.dn.seg s ha) x hx k
    · by_cases e : x = a
      · rw [e, Nat.min_eq_right (by omega)]; exact q
      · have := isB_lt ha hx (by omega); omega
  · rcases Nat.lt_or_ge a x with k | k
    · have := isB_lt ha hx k
      exact fun i j h1 h2 h3 => by omega
    · exact (h.se x hx).seg s (Nat.le_refl _) (.inl k)

/-! ### The walks -/
set_option maxHeartbeats 8000000 in
set_option maxRecDepth 100000 in
theorem stable_calls (w0 : World) (blk n cap : Nat) (K : Int → Int) (p1 p2 p3 : Addr) (hC : CmpAt w0 blk n K p1 p2 p3) (hn : n ≤ 1000000000) (w : World) (d : Nat → Int)
    (hW : RowW w0 blk n d w) (hI : InN n d) (hr : Rises 0 n d) :
    Calls Try.prog 147 #[.slice (some ⟨blk, 0, none⟩) n cap, .int .i64 n, .func (.func 124) #[] #[.pointer (some p1), .pointer (some p2), .pointer (some p3)]] w
      fun en w' => en = .returned (.tuple #[]) ∧ ∃ d', RowW w0 blk n d' w' ∧ Seg 0 n d d' ∧ SortedBy K 0 n d' := by
  have HW : Aside (RowW w0 blk n d w) := hW
  have HC : Aside (CmpAt w0 blk n K p1 p2 p3) := hC
  have HI := Lib.hid hI
  have HRI := Lib.hid hr
  have INS := Lib.hid (insertion_calls w0 blk n cap K p1 p2 p3 hC hn)
  have MRG := Lib.hid fun N => symMerge_said w0 blk n cap K p1 p2 p3 hC hn N
  clear hW hC hI hr
  go_enter Try.func147, Try.ntmps147
  go_wp2_with fail
  go_loopg [7, 8] (n + 1) (fun k va vb wr => ∃ (a : Nat) (da : Nat → Int), va = .int .i64 a ∧ vb = .int .i64 ((a : Int) + 20) ∧ a ≤ n ∧ n + 1 ≤ a + k ∧ Aside (RowW w0 blk n da wr) ∧ Hid (IsB 20 a) ∧ Hid (First K n a d da))
  case atStart => exact ⟨0, d, rfl, rfl, by omega, by omega, HW, isB_zero 20, First.start HRI.out⟩
  case round =>
    clear HW
    obtain ⟨a, da, rfl, rfl, han, hk, HR, HB, HF⟩ := hrel
    by_cases hlt : a + 20 ≤ n
    · have hltz : (a : Int) + 20 ≤ (n : Int) := by omega
      have hc := INS.out wr a (a + 20) da HR.out (HI.out.seg HF.out.sg (Nat.le_refl _)) (by omega) hlt (HF.out.rises HRI.out hlt)
      rw [show ((a + 20 : Nat) : Int) = (a : Int) + 20 by omega] at hc
      have HCc := Lib.hid hc
      clear hc
      go_wp2_with (go_at_call 157; refine HCc.out.mono ?_; rintro e1 w1 ⟨rfl, hq⟩; have HQ := Lib.hid hq; clear hq)
      go_roundg (n + 1 - (a + 20))
      case measure => omega
      case rel =>
        obtain ⟨d', h1, h2, h3⟩ := HQ.out
        exact ⟨a + 20, d', by go_num, by go_num, by omega, by omega, h1, isB_add HB.out, HF.out.step HB.out hlt h2 h3⟩
    · have hltz : ¬ (a : Int) + 20 ≤ (n : Int) := by omega
      have hc := INS.out wr a n da HR.out (HI.out.seg HF.out.sg (Nat.le_refl _)) (by omega) (Nat.le_refl _) (HF.out.rises HRI.out (Nat.le_refl _))
      have HCc := Lib.hid hc
      clear hc
      go_wp2_with (go_at_call 157; refine HCc.out.mono ?_; rintro e1 w1 ⟨rfl, hq⟩; have HQ := Lib.hid hq; clear hq)
      have START : Hid (∃ d', Aside (RowW w0 blk n d' w1) ∧ Phase K n 20 d d') := by
        obtain ⟨d', h1, h2, h3⟩ := HQ.out
        exact ⟨d', h1, HF.out.close HB.out han (by omega) h2 h3⟩
      clear HQ HCc HR HF HB hltz hlt hk han
      go_loopg [6, 7, 8, 9] (n + 1) (fun k vs va vb vm wr => ∃ (B : Nat) (dB : Nat → Int), vs = .int .i64 B ∧ 20 ≤ B ∧ B ≤ 4000000000 ∧ n + 1 ≤ B + k ∧ Aside (RowW w0 blk n dB wr) ∧ Hid (Phase K n B d dB))
      case atStart =>
        obtain ⟨d', h1, h2⟩ := START.out
        exact ⟨20, d', rfl, by omega, by omega, by omega, h1, h2⟩
      case round =>
        clear START
        obtain ⟨B, dB, rfl, hB20, hB4, hk, HR, HP⟩ := hrel
        by_cases hlt : B < n
        · have hltz : (B : Int) < (n : Int) := by omega
          go_wp2_with fail
          go_loopg [7, 8] (n + 1) (fun k va vb wr => ∃ (a : Nat) (da : Nat → Int), va = .int .i64 a ∧ vb = .int .i64 ((a : Int) + 2 * (B : Int)) ∧ a ≤ n ∧ n + 1 ≤ a + k ∧ Aside (RowW w0 blk n da wr) ∧ Hid (IsB (2 * B) a) ∧ Hid (Within K n B a d da))
          case atStart => exact ⟨0, dB, rfl, by first | rfl | go_num | (congr 1; omega), by omega, by omega, HR, isB_zero _, Within.start HP.out⟩
          case round =>
            clear HR HP
            obtain ⟨a, da, rfl, rfl, han, hka, HR, HB, HF⟩ := hrel
            by_cases hlt2 : a + 2 * B ≤ n
            · have hltz2 : (a : Int) + 2 * (B : Int) ≤ (n : Int) := by omega
              have hc := MRG.out (2 * B) wr a (a + B) (a + 2 * B) da (by omega) HR.out (HI.out.seg HF.out.sg (Nat.le_refl _)) (by omega) (by omega) hlt2
                (by have := HF.out.so a (isB_half HB.out) (Nat.le_refl _) (by omega); rwa [Nat.min_eq_left (by omega)] at this)
                (by have := HF.out.so (a + B) (isB_add (isB_half HB.out)) (by omega) (by omega); rwa [Nat.min_eq_left (by omega), show a + B + B = a + 2 * B by omega] at this)
                (Sep.cross (HF.out.s1 (a + B) (isB_add (isB_half HB.out)) (by omega)) hlt2)
              rw [show ((a + B : Nat) : Int) = (a : Int) + (B : Int) by omega, show ((a + 2 * B : Nat) : Int) = (a : Int) + 2 * (B : Int) by omega] at hc
              have HCc := Lib.hid hc
              clear hc
              go_wp2_with (go_at_call 158; refine HCc.out.mono ?_; rintro e1 w1 ⟨rfl, hq⟩; have HQ := Lib.hid hq; clear hq)
              go_roundg (n + 1 - (a + 2 * B))
              case measure => omega
              case rel =>
                obtain ⟨d', h1, h2, h3⟩ := HQ.out
                exact ⟨a + 2 * B, d', by go_num, by first | rfl | go_num | (congr 1; omega), by omega, by omega, h1, isB_add HB.out, HF.out.step HB.out hlt2 h2 h3⟩
            · have hltz2 : ¬ (a : Int) + 2 * (B : Int) ≤ (n : Int) := by omega
              by_cases hm : a + B < n
              · have hmz : (a : Int) + (B : Int) < (n : Int) := by omega
                have hc := MRG.out n wr a (a + B) n da (by omega) HR.out (HI.out.seg HF.out.sg (Nat.le_refl _)) (by omega) hm (Nat.le_refl _)
                  (by have := HF.out.so a (isB_half HB.out) (Nat.le_refl _) (by omega); rwa [Nat.min_eq_left (by omega)] at this)
                  (by have := HF.out.so (a + B) (isB_add (isB_half HB.out)) (by omega) hm; rwa [Nat.min_eq_right (by omega)] at this)
                  (Sep.cross (HF.out.s1 (a + B) (isB_add (isB_half HB.out)) (by omega)) (Nat.le_refl _))
                rw [show ((a + B : Nat) : Int) = (a : Int) + (B : Int) by omega] at hc
                have HCc := Lib.hid hc
                clear hc
                go_wp2_with (go_at_call 158; refine HCc.out.mono ?_; rintro e1 w1 ⟨rfl, hq⟩; have HQ := Lib.hid hq; clear hq)
                go_roundg (n + 1 - 2 * B)
                case measure => omega
                case rel =>
                  obtain ⟨d', h1, h2, h3⟩ := HQ.out
                  exact ⟨2 * B, d', by first | rfl | go_num | (congr 1; omega), by omega, by omega, by omega, h1, HF.out.close HB.out (by omega) h2 h3⟩
              · have hmz : ¬ (a : Int) + (B : Int) < (n : Int) := by omega
                go_wp2_with fail
                go_roundg (n + 1 - 2 * B)
                case measure => omega
                case rel =>
                  refine ⟨2 * B, da, by first | rfl | go_num | (congr 1; omega), by omega, by omega, by omega, HR, HF.out.close HB.out (by omega) (Seg.refl _ _ _) ?_⟩
                  by_cases e : a < n
                  · have := HF.out.so a (isB_half HB.out) (Nat.le_refl _) e
                    rwa [Nat.min_eq_right (by omega)] at this
                  · exact fun i j h1 h2 h3 => by omega
        · have hltz : ¬ (B : Int) < (n : Int) := by omega
          go_wp2
          go_end0
          exact ⟨rfl, dB, HR.out, HP.out.sg, HP.out.last (by omega)⟩

set_option maxHeartbeats 800000 in
theorem sortStable_calls (w0 : World) (blk n cap : Nat) (K : Int → Int) (p1 p2 p3 : Addr) (hC : CmpAt w0 blk n K p1 p2 p3) (hn : n ≤ 1000000000) (w : World) (d : Nat → Int)
    (hW : RowW w0 blk n d w) (hI : InN n d) (hr : Rises 0 n d) :
    Calls Try.prog 123 #[.slice (some ⟨blk, 0, none⟩) n cap, .func (.func 124) #[] #[.pointer (some p1), .pointer (some p2), .pointer (some p3)]] w
      fun en w' => en = .returned (.tuple #[]) ∧ ∃ d', RowW w0 blk n d' w' ∧ Seg 0 n d d' ∧ SortedBy K 0 n d' := by
  have HS := Lib.hid (stable_calls w0 blk n cap K p1 p2 p3 hC hn w d hW hI hr)
  clear hC hW hI hr
  go_enter Try.func123, Try.ntmps123
  go_wp2_with (go_at_call 147; refine HS.out.mono ?_; rintro e1 w1 ⟨rfl, hq⟩; have HQ := Lib.hid hq; clear hq)
  go_end0
  exact ⟨rfl, HQ.out⟩
end Go.Proofs.Ytdcpeeolfgohmaa
