/- slices.symMergeCmpFunc at []int, where the second part has one element. -/
import Derived.Test.YtdcpeeolfgohmaaSortC
namespace Go.Proofs.Ytdcpeeolfgohmaa
open Go.RowKit
set_option linter.unusedSimpArgs false
set_option linter.unusedVariables false

set_option maxHeartbeats 4000000 in
set_option maxRecDepth 100000 in
theorem symMerge_last (w0 w : World) (blk n cap a m : Nat) (d : Nat → Int) (K : Int → Int) (p1 p2 p3 : Addr) (hW : RowW w0 blk n d w) (hC : CmpAt w0 blk n K p1 p2 p3) (hI : InN n d)
    (ham : a + 1 < m) (hb : m + 1 ≤ n) (hn : n ≤ 1000000000) (hs : SortedBy K a m d) (hx : Cross a m (m + 1) d) :
    Calls Try.prog 158 #[.slice (some ⟨blk, 0, none⟩) n cap, .int .i64 a, .int .i64 m, .int .i64 ((m : Int) + 1), .func (.func 124) #[] #[.pointer (some p1), .pointer (some p2), .pointer (some p3)]] w
      fun en w' => en = .returned (.tuple #[]) ∧ ∃ d', RowW w0 blk n d' w' ∧ Seg a (m + 1) d d' ∧ SortedBy K a (m + 1) d' := by
  have HW : Aside (RowW w0 blk n d w) := hW
  have HC : Aside (CmpAt w0 blk n K p1 p2 p3) := hC
  have HI := Lib.hid hI
  have HS := Lib.hid hs
  have HX := Lib.hid hx
  clear hW hC hI hs hx
  have t1 : ((m : Int) - (a : Int) == 1) = false := by rw [beq_eq_false_iff_ne]; omega
  have t2 : ((m : Int) + 1 - (m : Int) == 1) = true := by rw [beq_iff_eq]; omega
  go_enter Try.func158, Try.ntmps158
  go_wp2_with fail
  go_loopg [14, 15, 16] (m + 1) (fun k vi vj vh wr => ∃ (i j : Nat), vi = .int .i64 i ∧ vj = .int .i64 j ∧ a ≤ i ∧ i ≤ j ∧ j ≤ m ∧ j ≤ i + k ∧ Aside (RowW w0 blk n d wr) ∧ Hid (∀ q, a ≤ q → q < i → Ahead K (d q) (d m)) ∧ Hid (∀ q, j ≤ q → q < m → Ahead K (d m) (d q)))
  case atStart => exact ⟨a, m, rfl, rfl, by omega, by omega, by omega, by omega, HW, fun q h1 h2 => by omega, fun q h1 h2 => by omega⟩
  case round =>
    clear HW
    obtain ⟨i, j, rfl, rfl, hai, hij, hjb, hk, HR, HL, HG⟩ := hrel
    by_cases hlt : i < j
    · have hltz : (i : Int) < (j : Int) := by omega
      obtain ⟨h, hh⟩ : ∃ h, h = (i + j) / 2 := ⟨_, rfl⟩
      have zh : (h : Int) = ((i : Int) + (j : Int)) / 2 := by omega
      obtain ⟨x, ex⟩ : ∃ x, x = d m := ⟨_, rfl⟩
      obtain ⟨y, ey⟩ : ∃ y, y = d h := ⟨_, rfl⟩
      have bx := HI.out m (by omega)
      have by_ := HI.out h (by omega)
      rw [← ex] at bx
      rw [← ey] at by_
      have hyx : y < x := by rw [ex, ey]; exact HX.out h m (by omega) (by omega) (by omega) (by omega)
      have c1 := HR.out.c m (by omega)
      have c2 := HR.out.c h (by omega)
      rw [← ex] at c1
      rw [← ey] at c2
      obtain ⟨c, ec⟩ : ∃ c, c = cmpI (K y) (K x) := ⟨_, rfl⟩
      have hcl : ∀ q, Calls Try.prog 124 #[.int .i64 x, .int .i64 y, .pointer (some p1), .pointer (some p2), .pointer (some p3)] (wr.drewN q) fun e w' => e = .returned (.int .i64 c) ∧ ∃ q', w' = (wr.drewN q).drewN q' := fun q => by
        rw [ec]; exact HC.out _ _ (HR.out.drewN q) x y bx.1 bx.2 by_.1 by_.2
      have HCL := Lib.hid hcl
      have hN : h < j ∧ i ≤ h := by omega
      rw [hh] at c2
      by_cases hv : K y < K x
      · have hc0 : decide (c < 0) = true := decide_eq_true (by rw [ec]; exact (cmpI_neg _ _).2 hv)
        have HA : Hid (Ahead K (d m) (d h)) := by rw [← ex, ← ey]; exact (ahead_iff hyx).2 hv
        clear ec hcl bx by_ hyx ex ey hv zh
        go_wp2_with fail
        go_quiet ((go_at_call 124; exact Calls.quiet_of (HCL.out _)))
        have S2 : Aside (RowW w0 blk n d (wr.drewN nq)) := HR.out.drewN nq
        clear c1 c2 HCL HR
        go_wp2
        go_roundg (h - i)
        case measure => omega
        case rel =>
          refine ⟨i, h, rfl, by rw [hh]; go_num, by omega, by omega, by omega, by omega, S2, HL, fun q h1 h2 => ?_⟩
          by_cases e : q = h
          · rw [e]; exact HA.out
          · exact HA.out.trans (HS.out h q (by omega) (by omega) (by omega))
      · have hc0 : decide (c < 0) = false := decide_eq_false (by rw [ec]; exact fun h' => hv ((cmpI_neg _ _).1 h'))
        have HA : Hid (Ahead K (d h) (d m)) := by rw [← ex, ← ey]; exact ahead_not hyx hv
        clear ec hcl bx by_ hyx ex ey hv zh
        go_wp2_with fail
        go_quiet ((go_at_call 124; exact Calls.quiet_of (HCL.out _)))
        have S2 : Aside (RowW w0 blk n d (wr.drewN nq)) := HR.out.drewN nq
        clear c1 c2 HCL HR
        go_wp2
        go_roundg (j - (h + 1))
        case measure => omega
        case rel =>
          refine ⟨h + 1, j, by rw [hh]; go_num, rfl, by omega, by omega, hjb, by omega, S2, fun q h1 h2 => ?_, HG⟩
          by_cases e : q = h
          · rw [e]; exact HA.out
          · exact (HS.out q h (by omega) (by omega) (by omega)).trans HA.out
    · have hltz : ¬ (i : Int) < (j : Int) := by omega
      go_wp2_with fail
      go_loopg [17] (m + 1) (fun k vk wr => ∃ (p : Nat) (d' : Nat → Int), vk = .int .i64 p ∧ i ≤ p ∧ p ≤ m ∧ p ≤ i + k ∧ Aside (RowW w0 blk n d' wr) ∧ Hid (Bwd p m d d'))
      case atStart => exact ⟨m, d, rfl, by omega, by omega, by omega, HR, Bwd.refl m d⟩
      case round =>
        clear HR
        obtain ⟨p, d', rfl, hip, hpm, hk2, HR, HF⟩ := hrel
        by_cases hp : i < p
        · obtain ⟨r, rfl⟩ : ∃ r, p = r + 1 := ⟨p - 1, by omega⟩
          have hpz : (i : Int) < ((r + 1 : Nat) : Int) := by omega
          obtain ⟨x, hx⟩ : ∃ x, x = d' (r + 1) := ⟨_, rfl⟩
          obtain ⟨y, hy⟩ : ∃ y, y = d' r := ⟨_, rfl⟩
          have S3 : Aside (RowW w0 blk n (swapd d' (r + 1) r) ((wr.setCell ⟨blk, r + 1, none⟩ (.int .i64 y)).setCell ⟨blk, r, none⟩ (.int .i64 x)).drew) := by rw [hx, hy]; exact (HR.out.swap (r + 1) r).drew
          have S4 : Hid (Bwd r m d (swapd d' (r + 1) r)) := HF.out.step (by omega) (by omega)
          have c1 := HR.out.c (r + 1) (by omega)
          have c2 := HR.out.c r (by omega)
          have f1 := HR.out.f (r + 1) (by omega)
          have f2 := HR.out.f r (by omega)
          obtain ⟨u, c3⟩ := HR.out.c2 (r + 1) r (by omega) (by omega) (.int .i64 y)
          rw [← hx] at c1
          rw [← hy] at c2
          have e6 : (r : Int) + 1 < (n : Int) := by omega
          have e5 : (r : Int) < (n : Int) := by omega
          have e7 : (i : Int) < (r : Int) + 1 := by omega
          clear HR HF hx hy hpz
          go_wp2_with fail
          go_big_region
          clear c1 c2 c3 f1 f2
          generalize ((wr.setCell ⟨blk, r + 1, none⟩ (.int .i64 y)).setCell ⟨blk, r, none⟩ (.int .i64 x)).drew = w3 at S3 ⊢
          go_wp2
          go_roundg (r - i)
          case measure => omega
          case rel => exact ⟨r, swapd d' (r + 1) r, by go_num, by omega, by omega, by omega, S3, S4⟩
        · have hpz : ¬ (i : Int) < (p : Int) := by omega
          go_wp2
          refine bodyPost_ret (results_none rfl _ _ _) rfl ?_
          have e : p = i := by omega
          have e2 : j = i := by omega
          refine ⟨rfl, d', HR.out, ?_, ?_⟩
          · have h1 := HF.out; rw [e] at h1; exact h1.seg (by omega) (by omega)
          · have h1 := HF.out; rw [e] at h1
            exact h1.sorted HS.out hai (by omega) HL.out (by rw [← e2]; exact HG.out)
end Go.Proofs.Ytdcpeeolfgohmaa
