/- slices.rotateCmpFunc at []int. -/
import Derived.Test.YtdcpeeolfgohmaaSortA
namespace Go.Proofs.Ytdcpeeolfgohmaa
open Go.RowKit
set_option linter.unusedSimpArgs false
set_option linter.unusedVariables false

set_option maxHeartbeats 4000000 in
set_option maxRecDepth 100000 in
theorem rotate_calls (w0 w : World) (blk n cap s m e : Nat) (d : Nat → Int) (fv : Value) (hW : RowW w0 blk n d w) (hsm : s < m) (hme : m < e) (he : e ≤ n) (hn : n ≤ 1000000000) :
    Calls Try.prog 163 #[.slice (some ⟨blk, 0, none⟩) n cap, .int .i64 s, .int .i64 m, .int .i64 e, fv] w fun en w' => en = .returned (.tuple #[]) ∧ ∃ d', RowW w0 blk n d' w' ∧ Rot s m e d d' := by
  have HW : Aside (RowW w0 blk n d w) := hW
  clear hW
  go_enter Try.func163, Try.ntmps163
  go_wp2
  go_loopg [10, 11] (m + e) (fun k vi vj wr => ∃ (i j : Nat) (d' : Nat → Int), vi = .int .i64 i ∧ vj = .int .i64 j ∧ 0 < i ∧ 0 < j ∧ i ≤ m ∧ m + j ≤ n ∧ i + j ≤ k ∧ Aside (RowW w0 blk n d' wr) ∧ Hid (RotTo s m e i j d d'))
  case atStart => exact ⟨m - s, e - m, d, by go_num, by go_num, by omega, by omega, by omega, by omega, by omega, HW, RotTo.start s m e d (by omega) (by omega)⟩
  case round =>
    clear HW
    obtain ⟨i, j, d', rfl, rfl, hi0, hj0, him, hjn, hk, HR, HS⟩ := hrel
    by_cases hij : i = j
    · subst hij
      have hb : ((i : Int) != (i : Int)) = false := by simp
      have hc := fun W (h : RowW w0 blk n d' W) => swapRange_calls w0 W blk n cap (m - i) m i d' fv h (by omega) (by omega) hn
      have z1 : ((m - i : Nat) : Int) = (m : Int) - (i : Int) := by omega
      rw [z1] at hc
      clear z1
      have HC := Lib.hid hc
      clear hc
      go_wp2_with (go_at_call 166; refine (HC.out _ HR.out).mono ?_; rintro e1 w1 ⟨rfl, hq⟩)
      go_end0
      obtain ⟨d1, h1, h2⟩ := hq
      exact ⟨rfl, d1, h1, rot_end HS.out him h2⟩
    · have hb : ((i : Int) != (j : Int)) = true := by rw [bne_iff_ne]; omega
      rcases Nat.lt_or_ge j i with h | h
      · have hd : (j : Int) < (i : Int) := by omega
        have hc := fun W (h : RowW w0 blk n d' W) => swapRange_calls w0 W blk n cap (m - i) m j d' fv h (by omega) (by omega) hn
        have z1 : ((m - i : Nat) : Int) = (m : Int) - (i : Int) := by omega
        rw [z1] at hc
        clear z1
        have HC := Lib.hid hc
        clear hc
        go_wp2_with (go_at_call 166; refine (HC.out _ HR.out).mono ?_; rintro e1 w1 ⟨rfl, hq⟩; have HQ := Lib.hid hq; clear hq)
        go_roundg (i - j + j)
        case measure => omega
        case rel =>
          obtain ⟨d1, h1, h2⟩ := HQ.out
          exact ⟨i - j, j, d1, by go_num, rfl, by omega, hj0, by omega, hjn, by omega, h1, rot_left HS.out h him h2⟩
      · have h : i < j := by omega
        have hd : ¬ (j : Int) < (i : Int) := by omega
        have hc := fun W (h : RowW w0 blk n d' W) => swapRange_calls w0 W blk n cap (m - i) (m + j - i) i d' fv h (by omega) (by omega) hn
        have z1 : ((m - i : Nat) : Int) = (m : Int) - (i : Int) := by omega
        have z2 : ((m + j - i : Nat) : Int) = (m : Int) + (j : Int) - (i : Int) := by omega
        rw [z1, z2] at hc
        clear z1 z2
        have HC := Lib.hid hc
        clear hc
        go_wp2_with (go_at_call 166; refine (HC.out _ HR.out).mono ?_; rintro e1 w1 ⟨rfl, hq⟩; have HQ := Lib.hid hq; clear hq)
        go_roundg (i + (j - i))
        case measure => omega
        case rel =>
          obtain ⟨d1, h1, h2⟩ := HQ.out
          exact ⟨i, j - i, d1, rfl, by go_num, hi0, by omega, him, by omega, by omega, h1, rot_right HS.out h him h2⟩
end Go.Proofs.Ytdcpeeolfgohmaa
