/- slices.symMergeCmpFunc at []int, all cases; slices.insertionSortCmpFunc. -/
import Derived.Test.YtdcpeeolfgohmaaSortE
namespace Go.Proofs.Ytdcpeeolfgohmaa
open Go.RowKit
set_option linter.unusedSimpArgs false
set_option linter.unusedVariables false

theorem symMerge_said (w0 : World) (blk n cap : Nat) (K : Int → Int) (p1 p2 p3 : Addr) (hC : CmpAt w0 blk n K p1 p2 p3) (hn : n ≤ 1000000000) (N : Nat) : MergeSaid w0 blk n cap K p1 p2 p3 N := by
  induction N with
  | zero => intro w a m b d h _ _ h1 h2; omega
  | succ N ih =>
    intro w a m b d hbN hW hI ham hmb hbn hs1 hs2 hx
    by_cases h1 : m = a + 1
    · subst h1
      have h := symMerge_one w0 w blk n cap a b d K p1 p2 p3 hW hC hI hmb hbn hn hs2 hx
      rwa [show ((a : Int) + 1) = ((a + 1 : Nat) : Int) by omega] at h
    · by_cases h2 : b = m + 1
      · subst h2
        have h := symMerge_last w0 w blk n cap a m d K p1 p2 p3 hW hC hI (by omega) hbn hn hs1 hx
        rwa [show ((m : Int) + 1) = ((m + 1 : Nat) : Int) by omega] at h
      · exact symMerge_many w0 blk n cap K p1 p2 p3 hC hn N ih w a m b d hbN hW hI (by omega) (by omega) hbn hs1 hs2 hx

/-- The values from a to b rise. -/
def Rises (a b : Nat) (d : Nat → Int) : Prop := ∀ i j, a ≤ i → i < j → j < b → d i < d j

set_option maxHeartbeats 8000000 in
set_option maxRecDepth 100000 in
theorem insertion_calls (w0 : World) (blk n cap : Nat) (K : Int → Int) (p1 p2 p3 : Addr) (hC : CmpAt w0 blk n K p1 p2 p3) (hn : n ≤ 1000000000) (w : World) (a b : Nat) (d : Nat → Int)
    (hW : RowW w0 blk n d w) (hI : InN n d) (hab : a ≤ b) (hbn : b ≤ n) (hr : Rises a b d) :
    Calls Try.prog 157 #[.slice (some ⟨blk, 0, none⟩) n cap, .int .i64 a, .int .i64 b, .func (.func 124) #[] #[.pointer (some p1), .pointer (some p2), .pointer (some p3)]] w
      fun en w' => en = .returned (.tuple #[]) ∧ ∃ d', RowW w0 blk n d' w' ∧ Seg a b d d' ∧ SortedBy K a b d' := by
  have HW : Aside (RowW w0 blk n d w) := hW
  have HC : Aside (CmpAt w0 blk n K p1 p2 p3) := hC
  have HI := Lib.hid hI
  have HRI := Lib.hid hr
  clear hW hC hI hr
  go_enter Try.func157, Try.ntmps157
  go_wp2
  go_loopg [8, 9] (b + 1) (fun k vi vj wr => ∃ (i : Nat) (di : Nat → Int), vi = .int .i64 i ∧ a < i ∧ (i ≤ b ∨ b ≤ a) ∧ b + 1 ≤ i + k ∧ Aside (RowW w0 blk n di wr) ∧ Hid (i ≤ b → Seg a i d di ∧ SortedBy K a i di) ∧ Hid (b < i → di = d))
  case atStart => exact ⟨a + 1, d, by go_num, by omega, by omega, by omega, HW, fun _ => ⟨Seg.refl _ _ _, fun x y h1 h2 h3 => by omega⟩, fun _ => rfl⟩
  case round =>
    clear HW
    obtain ⟨i, di, rfl, hai, hib, hk, HR, HS, HD⟩ := hrel
    by_cases hlt : i < b
    · have hltz : (i : Int) < (b : Int) := by omega
      have HS1 : Hid (Seg a i d di) := (HS.out (by omega)).1
      have HS2 : Hid (SortedBy K a i di) := (HS.out (by omega)).2
      clear HS HD
      go_wp2_with fail
      go_loopg [9] (i + 1) (fun k2 vj wr => ∃ (j : Nat) (dj : Nat → Int), vj = .int .i64 j ∧ a ≤ j ∧ j ≤ i ∧ j ≤ k2 ∧ Aside (RowW w0 blk n dj wr) ∧ Hid (Bwd j i di dj) ∧ Hid (∀ q, j ≤ q → q < i → Ahead K (di i) (di q)))
      case atStart => exact ⟨i, di, rfl, by omega, by omega, by omega, HR, Bwd.refl i di, fun q h1 h2 => by omega⟩
      case round =>
        clear HR
        obtain ⟨j, dj, rfl, haj, hji, hk2, HR, HB, HQ⟩ := hrel
        have OUT : Hid ((∀ q, a ≤ q → q < j → Ahead K (di q) (di i)) → Seg a (i + 1) d dj ∧ SortedBy K a (i + 1) dj) := fun h =>
          ⟨(HS1.out.wider (Nat.le_refl _) (by omega)).trans (HB.out.seg haj (by omega)), HB.out.sorted HS2.out haj hji h HQ.out⟩
        by_cases hja : a < j
        · obtain ⟨r, rfl⟩ : ∃ r, j = r + 1 := ⟨j - 1, by omega⟩
          obtain ⟨x, ex⟩ : ∃ x, x = dj (r + 1) := ⟨_, rfl⟩
          obtain ⟨y, ey⟩ : ∃ y, y = dj r := ⟨_, rfl⟩
          have ex2 : x = di i := by rw [ex, HB.out (r + 1), if_neg (by omega), if_pos (by omega)]
          have ey2 : y = di r := by rw [ey, HB.out r, if_neg (by omega), if_neg (by omega)]
          have HIi : InN n di := HI.out.seg HS1.out (by omega)
          have bx := HIi i (by omega)
          have by_ := HIi r (by omega)
          rw [← ex2] at bx
          rw [← ey2] at by_
          have hyx : y < x := by
            obtain ⟨q, q1, q2, e⟩ := HS1.out.2 r (by omega) (by omega)
            rw [ey2, ex2, e, HS1.out.1 i (by omega)]
            exact HRI.out q i q1 q2 hlt
          have c1 := HR.out.c (r + 1) (by omega)
          have c2 := HR.out.c r (by omega)
          rw [← ex] at c1
          rw [← ey] at c2
          obtain ⟨c, ec⟩ : ∃ c, c = cmpI (K y) (K x) := ⟨_, rfl⟩
          have hcl : ∀ q, Calls Try.prog 124 #[.int .i64 x, .int .i64 y, .pointer (some p1), .pointer (some p2), .pointer (some p3)] (wr.drewN q) fun e w' => e = .returned (.int .i64 c) ∧ ∃ q', w' = (wr.drewN q).drewN q' := fun q => by
            rw [ec]; exact HC.out _ _ (HR.out.drewN q) x y bx.1 bx.2 by_.1 by_.2
          have HCL := Lib.hid hcl
          have hjaz : decide ((a : Int) < ((r : Int) + 1)) = true := decide_eq_true (by omega)
          have hjb : (r : Int) + 1 < (n : Int) := by omega
          have hjc : (r : Int) < (n : Int) := by omega
          by_cases hv : K y < K x
          · have hc0 : decide (c < 0) = true := decide_eq_true (by rw [ec]; exact (cmpI_neg _ _).2 hv)
            have HA : Hid (Ahead K (di i) (di r)) := by rw [← ex2, ← ey2]; exact (ahead_iff hyx).2 hv
            have HEX := Lib.hid ex
            have HEY := Lib.hid ey
            clear ec hcl bx by_ hyx ex ey ex2 ey2 hv HIi
            go_wp2_with fail
            go_quiet ((go_at_call 124; exact Calls.quiet_of (HCL.out _)))
            have S2 : Aside (RowW w0 blk n dj (wr.drewN nq)) := HR.out.drewN nq
            clear c1 c2 HCL HR
            generalize wr.drewN nq = w2 at S2 ⊢
            have S3 : Aside (RowW w0 blk n (swapd dj (r + 1) r) ((w2.setCell ⟨blk, r + 1, none⟩ (.int .i64 y)).setCell ⟨blk, r, none⟩ (.int .i64 x)).drew) := by rw [HEX.out, HEY.out]; exact (S2.out.swap (r + 1) r).drew
            have S4 : Hid (Bwd r i di (swapd dj (r + 1) r)) := HB.out.step (by omega) (by omega)
            have c1 := S2.out.c (r + 1) (by omega)
            have c2 := S2.out.c r (by omega)
            have f1 := S2.out.f (r + 1) (by omega)
            have f2 := S2.out.f r (by omega)
            obtain ⟨u, c3⟩ := S2.out.c2 (r + 1) r (by omega) (by omega) (.int .i64 y)
            rw [← HEX.out] at c1
            rw [← HEY.out] at c2
            clear S2 HEX HEY HB
            go_wp2_with fail
            go_big_region
            clear c1 c2 c3 f1 f2
            generalize ((w2.setCell ⟨blk, r + 1, none⟩ (.int .i64 y)).setCell ⟨blk, r, none⟩ (.int .i64 x)).drew = w3 at S3 ⊢
            go_wp2
            go_roundg r
            case measure => omega
            case rel =>
              refine ⟨r, swapd dj (r + 1) r, by go_num, by omega, by omega, by omega, S3, S4, fun q h1 h2 => ?_⟩
              by_cases e : q = r
              · rw [e]; exact HA.out
              · exact HQ.out q (by omega) h2
          · have hc0 : decide (c < 0) = false := decide_eq_false (by rw [ec]; exact fun h' => hv ((cmpI_neg _ _).1 h'))
            have HA : Hid (Ahead K (di r) (di i)) := by rw [← ex2, ← ey2]; exact ahead_not hyx hv
            clear ec hcl bx by_ hyx ex ey ex2 ey2 hv HIi
            go_wp2_with fail
            go_quiet ((go_at_call 124; exact Calls.quiet_of (HCL.out _)))
            have S2 : Aside (RowW w0 blk n dj (wr.drewN nq)) := HR.out.drewN nq
            clear c1 c2 HCL HR
            go_wp2
            go_roundg (b + 1 - (i + 1))
            case measure => omega
            case rel =>
              refine ⟨i + 1, dj, by go_num, by omega, by omega, by omega, S2, fun _ => OUT.out fun q h1 h2 => ?_, fun h => by omega⟩
              by_cases e : q = r
              · rw [e]; exact HA.out
              · exact (HS2.out q r h1 (by omega) (by omega)).trans HA.out
        · have hjaz : decide ((a : Int) < (j : Int)) = false := decide_eq_false (by omega)
          go_wp2_with fail
          go_quiet (fail)
          have S2 : Aside (RowW w0 blk n dj (wr.drewN nq)) := HR.out.drewN nq
          clear HR
          go_wp2
          go_roundg (b + 1 - (i + 1))
          case measure => omega
          case rel => exact ⟨i + 1, dj, by go_num, by omega, by omega, by omega, S2, fun _ => OUT.out fun q h1 h2 => by omega, fun h => by omega⟩
    · have hltz : ¬ (i : Int) < (b : Int) := by omega
      go_wp2
      go_end0
      refine ⟨rfl, di, HR.out, ?_⟩
      by_cases h : i ≤ b
      · have e : b = i := by omega
        rw [e]; exact HS.out (by omega)
      · rw [HD.out (by omega)]; exact ⟨Seg.refl _ _ _, fun x y h1 h2 h3 => by omega⟩
end Go.Proofs.Ytdcpeeolfgohmaa
