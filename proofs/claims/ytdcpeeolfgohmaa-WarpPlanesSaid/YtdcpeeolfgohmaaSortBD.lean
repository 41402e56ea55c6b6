/- slices.rotateCmpFunc at []int. slices.symMergeCmpFunc at []int, where the first part has one element. slices.symMergeCmpFunc at []int, where the second part has one element. -/
import Derived.Test.YtdcpeeolfgohmaaSortA
namespace Go.Proofs.Ytdcpeeolfgohmaa
open Go.RowKit
set_option linter.unusedSimpArgs false
set_option linter.unusedVariables false

set_option maxHeartbeats 4000000 in
set_option maxRecDepth 100000 in
theorem rotate_calls (w0 w : World) (blk n cap s m e : Nat) (d : Nat → Int) (fv : Value) (hW : RowW w0 blk n d w) (hsm : s < m) (hme : m < e) (he : e ≤ n) (hn : n ≤ 1000000000) :
    Calls Try.prog 163 #[.slice (some ⟨blk, 0, none⟩) n cap, .int .i64 s, .int .i64 m, .int .i64 e, fv] w fun en w' => en = .returned (.tuple #[]) ∧ ∃ d', RowW w0 blk n d' w' ∧ Rot s m e d d' := by
  have HW : Aside (RowW w0 blk n d w) := hW
  clear hW
  go_enter Try.func163, Try.ntmps163
  go_wp2
  go_loopg [10, 11] (m + e) (fun k vi vj wr => ∃ (i j : Nat) (d' : Nat → Int), vi = .int .i64 i ∧ vj = .int .i64 j ∧ 0 < i ∧ 0 < j ∧ i ≤ m ∧ m + j ≤ n ∧ i + j ≤ k ∧ Aside (RowW w0 blk n d' wr) ∧ Hid (RotTo s m e i j d d'))
  case atStart => exact ⟨m - s, e - m, d, by go_num, by go_num, by omega, by omega, by omega, by omega, by omega, HW, RotTo.start s m e d (by omega) (by omega)⟩
  case round =>
    clear HW
    obtain ⟨i, j, d', rfl, rfl, hi0, hj0, him, hjn, hk, HR, HS⟩ := hrel
    by_cases hij : i = j
    · subst hij
      have hb : ((i : Int) != (i : Int)) = false := by simp
      have hc := fun W (h : RowW w0 blk n d' W) => swapRange_calls w0 W blk n cap (m - i) m i d' fv h (by omega) (by omega) hn
      have z1 : ((m - i : Nat) : Int) = (m : Int) - (i : Int) := by omega
      rw [z1] at hc
      clear z1
      have HC := Lib.hid hc
      clear hc
      go_wp2_with (go_at_call 166; refine (HC.out _ HR.out).mono ?_; rintro e1 w1 ⟨rfl, hq⟩)
      go_end0
      obtain ⟨d1, h1, h2⟩ := hq
      exact ⟨rfl, d1, h1, rot_end HS.out him h2⟩
    · have hb : ((i : Int) != (j : Int)) = true := by rw [bne_iff_ne]; omega
      rcases Nat.lt_or_ge j i with h | h
      · have hd : (j : Int) < (i : Int) := by omega
        have hc := fun W (h : RowW w0 blk n d' W) => swapRange_calls w0 W blk n cap (m - i) m j d' fv h (by omega) (by omega) hn
        have z1 : ((m - i : Nat) : Int) = (m : Int) - (i : Int) := by omega
        rw [z1] at hc
        clear z1
        have HC := Lib.hid hc
        clear hc
        go_wp2_with (go_at_call 166; refine (HC.out _ HR.out).mono ?_; rintro e1 w1 ⟨rfl, hq⟩; have HQ := Lib.hid hq; clear hq)
        go_roundg (i - j + j)
        case measure => omega
        case rel =>
          obtain ⟨d1, h1, h2⟩ := HQ.out
          exact ⟨i - j, j, d1, by go_num, rfl, by omega, hj0, by omega, hjn, by omega, h1, rot_left HS.out h him h2⟩
      · have h : i < j := by omega
        have hd : ¬ (j : Int) < (i : Int) := by omega
        have hc := fun W (h : RowW w0 blk n d' W) => swapRange_calls w0 W blk n cap (m - i) (m + j - i) i d' fv h (by omega) (by omega) hn
        have z1 : ((m - i : Nat) : Int) = (m : Int) - (i : Int) := by omega
        have z2 : ((m + j - i : Nat) : Int) = (m : Int) + (j : Int) - (i : Int) := by omega
        rw [z1, z2] at hc
        clear z1 z2
        have HC := Lib.hid hc
        clear hc
        go_wp2_with (go_at_call 166; refine (HC.out _ HR.out).mono ?_; rintro e1 w1 ⟨rfl, hq⟩; have HQ := Lib.hid hq; clear hq)
        go_roundg (i + (j - i))
        case measure => omega
        case rel =>
          obtain ⟨d1, h1, h2⟩ := HQ.out
          exact ⟨i, j - i, d1, rfl, by go_num, hi0, by omega, him, by omega, by omega, h1, rot_right HS.out h him h2⟩
end Go.Proofs.Ytdcpeeolfgohmaa

namespace Go.Proofs.Ytdcpeeolfgohmaa
open Go.RowKit
set_option linter.unusedSimpArgs false
set_option linter.unusedVariables false

def cmpI (u v : Int) : Int := if u < v then -1 else if v < u then 1 else 0
theorem cmpI_neg (u v : Int) : cmpI u v < 0 ↔ u < v := by
  unfold cmpI
  by_cases h1 : u < v
  · simp [h1]
  · by_cases h2 : v < u <;> simp [h1, h2]

/-- The comparison by its contract, in every world in which only the row has turned. -/
def CmpAt (w0 : World) (blk n : Nat) (K : Int → Int) (p1 p2 p3 : Addr) : Prop :=
  ∀ (W : World) (d : Nat → Int), RowW w0 blk n d W → ∀ x y : Int, 0 ≤ x → x < n → 0 ≤ y → y < n →
    Calls Try.prog 124 #[.int .i64 x, .int .i64 y, .pointer (some p1), .pointer (some p2), .pointer (some p3)] W fun e w' => e = .returned (.int .i64 (cmpI (K y) (K x))) ∧ ∃ q, w' = W.drewN q

/-- The row's values are places of the row. -/
def InN (n : Nat) (d : Nat → Int) : Prop := ∀ k, k < n → 0 ≤ d k ∧ d k < n

theorem InN.seg {n a b : Nat} {d d' : Nat → Int} (h : InN n d) (s : Seg a b d d') (hb : b ≤ n) : InN n d' := fun k hk => by
  by_cases h1 : a ≤ k ∧ k < b
  · obtain ⟨q, q1, q2, e⟩ := s.2 k h1.1 h1.2
    rw [e]; exact h q (by omega)
  · rw [s.1 k (by omega)]; exact h k hk

set_option maxHeartbeats 4000000 in
set_option maxRecDepth 100000 in
theorem symMerge_one (w0 w : World) (blk n cap a b : Nat) (d : Nat → Int) (K : Int → Int) (p1 p2 p3 : Addr) (hW : RowW w0 blk n d w) (hC : CmpAt w0 blk n K p1 p2 p3) (hI : InN n d)
    (hab : a + 1 < b) (hb : b ≤ n) (hn : n ≤ 1000000000) (hs : SortedBy K (a + 1) b d) (hx : Cross a (a + 1) b d) :
    Calls Try.prog 158 #[.slice (some ⟨blk, 0, none⟩) n cap, .int .i64 a, .int .i64 ((a : Int) + 1), .int .i64 b, .func (.func 124) #[] #[.pointer (some p1), .pointer (some p2), .pointer (some p3)]] w
      fun en w' => en = .returned (.tuple #[]) ∧ ∃ d', RowW w0 blk n d' w' ∧ Seg a b d d' ∧ SortedBy K a b d' := by
  have HW : Aside (RowW w0 blk n d w) := hW
  have HC : Aside (CmpAt w0 blk n K p1 p2 p3) := hC
  have HI := Lib.hid hI
  have HS := Lib.hid hs
  have HX := Lib.hid hx
  clear hW hC hI hs hx
  have t1 : ((a : Int) + 1 - (a : Int) == 1) = true := by rw [beq_iff_eq]; omega
  go_enter Try.func158, Try.ntmps158
  go_wp2_with fail
  go_loopg [10, 11, 12] (b + 1) (fun k vi vj vh wr => ∃ (i j : Nat), vi = .int .i64 i ∧ vj = .int .i64 j ∧ a < i ∧ i ≤ j ∧ j ≤ b ∧ j ≤ i + k ∧ Aside (RowW w0 blk n d wr) ∧ Hid (∀ q, a < q → q < i → Ahead K (d q) (d a)) ∧ Hid (∀ q, j ≤ q → q < b → Ahead K (d a) (d q)))
  case atStart => exact ⟨a + 1, b, by go_num, rfl, by omega, by omega, by omega, by omega, HW, fun q h1 h2 => by omega, fun q h1 h2 => by omega⟩
  case round =>
    clear HW
    obtain ⟨i, j, rfl, rfl, hai, hij, hjb, hk, HR, HL, HG⟩ := hrel
    by_cases hlt : i < j
    · have hltz : (i : Int) < (j : Int) := by omega
      obtain ⟨h, hh⟩ : ∃ h, h = (i + j) / 2 := ⟨_, rfl⟩
      have zh : (h : Int) = ((i : Int) + (j : Int)) / 2 := by omega
      obtain ⟨x, ex⟩ : ∃ x, x = d h := ⟨_, rfl⟩
      obtain ⟨y, ey⟩ : ∃ y, y = d a := ⟨_, rfl⟩
      have bx := HI.out h (by omega)
      have by_ := HI.out a (by omega)
      rw [← ex] at bx
      rw [← ey] at by_
      have hyx : y < x := by rw [ex, ey]; exact HX.out a h (by omega) (by omega) (by omega) (by omega)
      have c1 := HR.out.c h (by omega)
      have c2 := HR.out.c a (by omega)
      rw [← ex] at c1
      rw [← ey] at c2
      obtain ⟨c, ec⟩ : ∃ c, c = cmpI (K y) (K x) := ⟨_, rfl⟩
      have hcl : ∀ q, Calls Try.prog 124 #[.int .i64 x, .int .i64 y, .pointer (some p1), .pointer (some p2), .pointer (some p3)] (wr.drewN q) fun e w' => e = .returned (.int .i64 c) ∧ ∃ q', w' = (wr.drewN q).drewN q' := fun q => by
        rw [ec]; exact HC.out _ _ (HR.out.drewN q) x y bx.1 bx.2 by_.1 by_.2
      have HCL := Lib.hid hcl
      have hN : h < j ∧ i ≤ h := by omega
      rw [hh] at c1
      by_cases hv : K y < K x
      · have hc0 : decide (c < 0) = true := decide_eq_true (by rw [ec]; exact (cmpI_neg _ _).2 hv)
        have HA : Hid (Ahead K (d h) (d a)) := by rw [← ex, ← ey]; exact (ahead_iff hyx).2 hv
        clear ec hcl bx by_ hyx ex ey hv zh
        go_wp2_with fail
        go_quiet ((go_at_call 124; exact Calls.quiet_of (HCL.out _)))
        have S2 : Aside (RowW w0 blk n d (wr.drewN nq)) := HR.out.drewN nq
        clear c1 c2 HCL HR
        go_wp2
        go_roundg (j - (h + 1))
        case measure => omega
        case rel =>
          refine ⟨h + 1, j, by rw [hh]; go_num, rfl, by omega, by omega, hjb, by omega, S2, fun q h1 h2 => ?_, HG⟩
          by_cases e : q = h
          · rw [e]; exact HA.out
          · exact (HS.out q h (by omega) (by omega) (by omega)).trans HA.out
      · have hc0 : decide (c < 0) = false := decide_eq_false (by rw [ec]; exact fun h' => hv ((cmpI_neg _ _).1 h'))
        have HA : Hid (Ahead K (d a) (d h)) := by rw [← ex, ← ey]; exact ahead_not hyx hv
        clear ec hcl bx by_ hyx ex ey hv zh
        go_wp2_with fail
        go_quiet ((go_at_call 124; exact Calls.quiet_of (HCL.out _)))
        have S2 : Aside (RowW w0 blk n d (wr.drewN nq)) := HR.out.drewN nq
        clear c1 c2 HCL HR
        go_wp2
        go_roundg (h - i)
        case measure => omega
        case rel =>
          refine ⟨i, h, rfl, by rw [hh]; go_num, by omega, by omega, by omega, by omega, S2, HL, fun q h1 h2 => ?_⟩
          by_cases e : q = h
          · rw [e]; exact HA.out
          · exact HA.out.trans (HS.out h q (by omega) (by omega) (by omega))
    · have hltz : ¬ (i : Int) < (j : Int) := by omega
      go_wp2_with fail
      go_loopg [13] (i + 1) (fun k vk wr => ∃ (p : Nat) (d' : Nat → Int), vk = .int .i64 p ∧ a ≤ p ∧ p + 1 ≤ i ∧ i ≤ p + k ∧ Aside (RowW w0 blk n d' wr) ∧ Hid (Fwd a (p + 1) d d'))
      case atStart => exact ⟨a, d, rfl, by omega, by omega, by omega, HR, Fwd.refl a d⟩
      case round =>
        clear HR
        obtain ⟨p, d', rfl, hap, hpi, hk2, HR, HF⟩ := hrel
        by_cases hp : p + 1 < i
        · have hpz : (p : Int) < (i : Int) - 1 := by omega
          obtain ⟨x, hx⟩ : ∃ x, x = d' p := ⟨_, rfl⟩
          obtain ⟨y, hy⟩ : ∃ y, y = d' (p + 1) := ⟨_, rfl⟩
          have S3 : Aside (RowW w0 blk n (swapd d' p (p + 1)) ((wr.setCell ⟨blk, p, none⟩ (.int .i64 y)).setCell ⟨blk, p + 1, none⟩ (.int .i64 x)).drew) := by rw [hx, hy]; exact (HR.out.swap p (p + 1)).drew
          have S4 : Hid (Fwd a (p + 1 + 1) d (swapd d' p (p + 1))) := HF.out.step (by omega)
          have c1 := HR.out.c p (by omega)
          have c2 := HR.out.c (p + 1) (by omega)
          have f1 := HR.out.f p (by omega)
          have f2 := HR.out.f (p + 1) (by omega)
          obtain ⟨u, c3⟩ := HR.out.c2 p (p + 1) (by omega) (by omega) (.int .i64 y)
          rw [← hx] at c1
          rw [← hy] at c2
          have e6 : (p : Int) + 1 < (n : Int) := by omega
          have e5 : (p : Int) < (n : Int) := by omega
          clear HR HF hx hy
          go_wp2_with fail
          go_big_region
          clear c1 c2 c3 f1 f2
          generalize ((wr.setCell ⟨blk, p, none⟩ (.int .i64 y)).setCell ⟨blk, p + 1, none⟩ (.int .i64 x)).drew = w3 at S3 ⊢
          go_wp2
          go_roundg (i - (p + 1))
          case measure => omega
          case rel => exact ⟨p + 1, swapd d' p (p + 1), by go_num, by omega, by omega, by omega, S3, S4⟩
        · have hpz : ¬ (p : Int) < (i : Int) - 1 := by omega
          go_wp2
          refine bodyPost_ret (results_none rfl _ _ _) rfl ?_
          have e : p + 1 = i := by omega
          have e2 : j = i := by omega
          refine ⟨rfl, d', HR.out, ?_, ?_⟩
          · have h1 := HF.out; rw [e] at h1; exact h1.seg (by omega)
          · have h1 := HF.out; rw [e] at h1
            exact h1.sorted HS.out hai (by omega) HL.out (by rw [← e2]; exact HG.out)
end Go.Proofs.Ytdcpeeolfgohmaa

namespace Go.Proofs.Ytdcpeeolfgohmaa
open Go.RowKit
set_option linter.unusedSimpArgs false
set_option linter.unusedVariables false

set_option maxHeartbeats 4000000 in
set_option maxRecDepth 100000 in
theorem symMerge_last (w0 w : World) (blk n cap a m : Nat) (d : Nat → Int) (K : Int → Int) (p1 p2 p3 : Addr) (hW : RowW w0 blk n d w) (hC : CmpAt w0 blk n K p1 p2 p3) (hI : InN n d)
    (ham : a + 1 < m) (hb : m + 1 ≤ n) (hn : n ≤ 1000000000) (hs : SortedBy K a m d) (hx : Cross a m (m + 1) d) :
    Calls Try.prog 158 #[.slice (some ⟨blk, 0, none⟩) n cap, .int .i64 a, .int .i64 m, .int .i64 ((m : Int) + 1), .func (.func 124) #[] #[.pointer (some p1), .pointer (some p2), .pointer (some p3)]] w
      fun en w' => en = .returned (.tuple #[]) ∧ ∃ d', RowW w0 blk n d' w' ∧ Seg a (m + 1) d d' ∧ SortedBy K a (m + 1) d' := by
  have HW : Aside (RowW w0 blk n d w) := hW
  have HC : Aside (CmpAt w0 blk n K p1 p2 p3) := hC
  have HI := Lib.hid hI
  have HS := Lib.hid hs
  have HX := Lib.hid hx
  clear hW hC hI hs hx
  have t1 : ((m : Int) - (a : Int) == 1) = false := by rw [beq_eq_false_iff_ne]; omega
  have t2 : ((m : Int) + 1 - (m : Int) == 1) = true := by rw [beq_iff_eq]; omega
  go_enter Try.func158, Try.ntmps158
  go_wp2_with fail
  go_loopg [14, 15, 16] (m + 1) (fun k vi vj vh wr => ∃ (i j : Nat), vi = .int .i64 i ∧ vj = .int .i64 j ∧ a ≤ i ∧ i ≤ j ∧ j ≤ m ∧ j ≤ i + k ∧ Aside (RowW w0 blk n d wr) ∧ Hid (∀ q, a ≤ q → q < i → Ahead K (d q) (d m)) ∧ Hid (∀ q, j ≤ q → q < m → Ahead K (d m) (d q)))
  case atStart => exact ⟨a, m, rfl, rfl, by omega, by omega, by omega, by omega, HW, fun q h1 h2 => by omega, fun q h1 h2 => by omega⟩
  case round =>
    clear HW
    obtain ⟨i, j, rfl, rfl, hai, hij, hjb, hk, HR, HL, HG⟩ := hrel
    by_cases hlt : i < j
    · have hltz : (i : Int) < (j : Int) := by omega
      obtain ⟨h, hh⟩ : ∃ h, h = (i + j) / 2 := ⟨_, rfl⟩
      have zh : (h : Int) = ((i : Int) + (j : Int)) / 2 := by omega
      obtain ⟨x, ex⟩ : ∃ x, x = d m := ⟨_, rfl⟩
      obtain ⟨y, ey⟩ : ∃ y, y = d h := ⟨_, rfl⟩
      have bx := HI.out m (by omega)
      have by_ := HI.out h (by omega)
      rw [← ex] at bx
      rw [← ey] at by_
      have hyx : y < x := by rw [ex, ey]; exact HX.out h m (by omega) (by omega) (by omega) (by omega)
      have c1 := HR.out.c m (by omega)
      have c2 := HR.out.c h (by omega)
      rw [← ex] at c1
      rw [← ey] at c2
      obtain ⟨c, ec⟩ : ∃ c, c = cmpI (K y) (K x) := ⟨_, rfl⟩
      have hcl : ∀ q, Calls Try.prog 124 #[.int .i64 x, .int .i64 y, .pointer (some p1), .pointer (some p2), .pointer (some p3)] (wr.drewN q) fun e w' => e = .returned (.int .i64 c) ∧ ∃ q', w' = (wr.drewN q).drewN q' := fun q => by
        rw [ec]; exact HC.out _ _ (HR.out.drewN q) x y bx.1 bx.2 by_.1 by_.2
      have HCL := Lib.hid hcl
      have hN : h < j ∧ i ≤ h := by omega
      rw [hh] at c2
      by_cases hv : K y < K x
      · have hc0 : decide (c < 0) = true := decide_eq_true (by rw [ec]; exact (cmpI_neg _ _).2 hv)
        have HA : Hid (Ahead K (d m) (d h)) := by rw [← ex, ← ey]; exact (ahead_iff hyx).2 hv
        clear ec hcl bx by_ hyx ex ey hv zh
        go_wp2_with fail
        go_quiet ((go_at_call 124; exact Calls.quiet_of (HCL.out _)))
        have S2 : Aside (RowW w0 blk n d (wr.drewN nq)) := HR.out.drewN nq
        clear c1 c2 HCL HR
        go_wp2
        go_roundg (h - i)
        case measure => omega
        case rel =>
          refine ⟨i, h, rfl, by rw [hh]; go_num, by omega, by omega, by omega, by omega, S2, HL, fun q h1 h2 => ?_⟩
          by_cases e : q = h
          · rw [e]; exact HA.out
          · exact HA.out.trans (HS.out h q (by omega) (by omega) (by omega))
      · have hc0 : decide (c < 0) = false := decide_eq_false (by rw [ec]; exact fun h' => hv ((cmpI_neg _ _).1 h'))
        have HA : Hid (Ahead K (d h) (d m)) := by rw [← ex, ← ey]; exact ahead_not hyx hv
        clear ec hcl bx by_ hyx ex ey hv zh
        go_wp2_with fail
        go_quiet ((go_at_call 124; exact Calls.quiet_of (HCL.out _)))
        have S2 : Aside (RowW w0 blk n d (wr.drewN nq)) := HR.out.drewN nq
        clear c1 c2 HCL HR
        go_wp2
        go_roundg (j - (h + 1))
        case measure => omega
        case rel =>
          refine ⟨h + 1, j, by rw [hh]; go_num, rfl, by omega, by omega, hjb, by omega, S2, fun q h1 h2 => ?_, HG⟩
          by_cases e : q = h
          · rw [e]; exact HA.out
          · exact (HS.out q h (by omega) (by omega) (by omega)).trans HA.out
    · have hltz : ¬ (i : Int) < (j : Int) := by omega
      go_wp2_with fail
      go_loopg [17] (m + 1) (fun k vk wr => ∃ (p : Nat) (d' : Nat → Int), vk = .int .i64 p ∧ i ≤ p ∧ p ≤ m ∧ p ≤ i + k ∧ Aside (RowW w0 blk n d' wr) ∧ Hid (Bwd p m d d'))
      case atStart => exact ⟨m, d, rfl, by omega, by omega, by omega, HR, Bwd.refl m d⟩
      case round =>
        clear HR
        obtain ⟨p, d', rfl, hip, hpm, hk2, HR, HF⟩ := hrel
        by_cases hp : i < p
        · obtain ⟨r, rfl⟩ : ∃ r, p = r + 1 := ⟨p - 1, by omega⟩
          have hpz : (i : Int) < ((r + 1 : Nat) : Int) := by omega
          obtain ⟨x, hx⟩ : ∃ x, x = d' (r + 1) := ⟨_, rfl⟩
          obtain ⟨y, hy⟩ : ∃ y, y = d' r := ⟨_, rfl⟩
          have S3 : Aside (RowW w0 blk n (swapd d' (r + 1) r) ((wr.setCell ⟨blk, r + 1, none⟩ (.int .i64 y)).setCell ⟨blk, r, none⟩ (.int .i64 x)).drew) := by rw [hx, hy]; exact (HR.out.swap (r + 1) r).drew
          have S4 : Hid (Bwd r m d (swapd d' (r + 1) r)) := HF.out.step (by omega) (by omega)
          have c1 := HR.out.c (r + 1) (by omega)
          have c2 := HR.out.c r (by omega)
          have f1 := HR.out.f (r + 1) (by omega)
          have f2 := HR.out.f r (by omega)
          obtain ⟨u, c3⟩ := HR.out.c2 (r + 1) r (by omega) (by omega) (.int .i64 y)
          rw [← hx] at c1
          rw [← hy] at c2
          have e6 : (r : Int) + 1 < (n : Int) := by omega
          have e5 : (r : Int) < (n : Int) := by omega
          have e7 : (i : Int) < (r : Int) + 1 := by omega
          clear HR HF hx hy hpz
          go_wp2_with fail
          go_big_region
          clear c1 c2 c3 f1 f2
          generalize ((wr.setCell ⟨blk, r + 1, none⟩ (.int .i64 y)).setCell ⟨blk, r, none⟩ (.int .i64 x)).drew = w3 at S3 ⊢
          go_wp2
          go_roundg (r - i)
          case measure => omega
          case rel => exact ⟨r, swapd d' (r + 1) r, by go_num, by omega, by omega, by omega, S3, S4⟩
        · have hpz : ¬ (i : Int) < (p : Int) := by omega
          go_wp2
          refine bodyPost_ret (results_none rfl _ _ _) rfl ?_
          have e : p = i := by omega
          have e2 : j = i := by omega
          refine ⟨rfl, d', HR.out, ?_, ?_⟩
          · have h1 := HF.out; rw [e] at h1; exact h1.seg (by omega) (by omega)
          · have h1 := HF.out; rw [e] at h1
            exact h1.sorted HS.out hai (by omega) HL.out (by rw [← e2]; exact HG.out)
end Go.Proofs.Ytdcpeeolfgohmaa
