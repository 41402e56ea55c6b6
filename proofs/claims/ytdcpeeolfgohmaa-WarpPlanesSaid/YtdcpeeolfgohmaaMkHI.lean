/- halidelaw28.few, halidehelp.May, Plane. halidelaw28.made: NaNs told as the made one. -/
import Derived.Test.YtdcpeeolfgohmaaMkA
import Derived.Test.YtdcpeeolfgohmaaWsA
import Derived.Test.YtdcpeeolfgohmaaDot
namespace Go.Proofs.Ytdcpeeolfgohmaa
open Go.RowKit Go.Proofs.YtdcpeeolfgohmaaW.PrintWords
set_option linter.unusedSimpArgs false
set_option linter.unusedVariables false
attribute [local go_sem] Oper.semAt_some

set_option maxRecDepth 100000 in
theorem few_calls (w : World) (W H : Int) (A : Option Addr) (n c : Nat) (hn : n ≤ 9223372036854775807) :
    Calls Try.prog 28 #[.agg (plC W H A n c)] w fun e w' => WGives w (.bool (decide (n ≤ 700))) e w' := by
  have HB : Hid (Below w.heap.size w (w.alloc (.cells #[.int .i64 W, .int .i64 H, .slice A n c] 55))) := (show Below _ _ _ from (Below.refl _ _).alloc (Nat.le_refl _) _)
  have HD : Hid (decide (n ≤ 700) = decide ((n : Int) ≤ 700)) := (show _ = _ from by simp only [decide_eq_decide]; omega)
  rw [HD.out]
  clear HD
  unfold plC WGives
  go_enter Try.func28, Try.ntmps28
  go_wp2
  go_ret
  exact ⟨rfl, HB.out⟩
set_option maxRecDepth 100000 in
theorem may_calls (w : World) (W H : Int) (A : Option Addr) (n c : Nat) (hn : n ≤ 1000000000) :
    Calls Try.prog 34 #[.agg (plC W H A n c)] w fun e w' => WGives w (.int .i64 (plE W H n)) e w' := by
  have HS := Lib.hid fun W' => rsize_calls W' W H
  have HB : Hid (Below w.heap.size w (w.alloc (.cells #[.int .i64 W, .int .i64 H, .slice A n c] 55))) := (show Below _ _ _ from (Below.refl _ _).alloc (Nat.le_refl _) _)
  unfold plC WGives
  cases hs : sizeB W H with
  | false =>
    have HF : Hid (plE W H n = 50) := (show _ = _ from if_pos hs)
    rw [hs] at HS
    clear hs
    go_enter Try.func34, Try.ntmps34
    go_wp2_with (go_at_call 69; refine (HS.out _).mono ?_; rintro e1 w1 ⟨rfl, rfl⟩)
    go_ret
    exact ⟨wret HF.out.symm, HB.out⟩
  | true =>
    obtain ⟨a1, a2, a3, a4, a5, a6⟩ := sizeB_in hs
    have hs2 : ¬ (sizeB W H = false) := by rw [hs]; decide
    have HP : ∃ p, W * H = p ∧ IntKind.i64.wrap (W * H) = p := ⟨_, rfl, IntWalk.i64_in _ (by omega)⟩
    obtain ⟨p, ep, WP⟩ := HP
    rw [ep] at a5 a6
    by_cases hp : (n : Int) = p
    · have HF : Hid (plE W H n = 0) := (show _ = _ from by unfold plE; rw [if_neg hs2, if_neg (fun h => h (hp.trans ep.symm))])
      have hb : ((n : Int) != p) = false := by rw [hp]; exact bne_self_eq_false _
      rw [hs] at HS
      clear hs hs2 hp ep
      go_enter Try.func34, Try.ntmps34
      go_wp2_with (go_at_call 69; refine (HS.out _).mono ?_; rintro e1 w1 ⟨rfl, rfl⟩)
      go_ret
      exact ⟨wret HF.out.symm, HB.out⟩
    · have HF : Hid (plE W H n = 51) := (show _ = _ from by unfold plE; rw [if_neg hs2, if_pos (fun h => hp (h.trans ep))])
      have hb : ((n : Int) != p) = true := by rw [bne_iff_ne]; exact hp
      rw [hs] at HS
      clear hs hs2 hp ep
      go_enter Try.func34, Try.ntmps34
      go_wp2_with (go_at_call 69; refine (HS.out _).mono ?_; rintro e1 w1 ⟨rfl, rfl⟩)
      go_ret
      exact ⟨wret HF.out.symm, HB.out⟩

set_option maxHeartbeats 1600000 in
set_option maxRecDepth 100000 in
theorem hplane_yes (w : World) (W H : Int) (A B : Option Addr) (n c d : Nat) (x y : Nat → Nat) (hx : RowU w A n x) (hy : RowU w B n y) (hn : n ≤ 4611686018427387904) (he : ∀ k, k < n → x k = y k) :
    Calls Try.prog 32 #[.agg (plC W H A n c), .agg (plC W H B n d)] w fun e w' => WGives w (.bool true) e w' := by
  obtain ⟨w1, e1⟩ : ∃ w1, w1 = w.alloc (.cells (plC W H A n c) 55) := ⟨_, rfl⟩
  have b1 : Below w.heap.size w w1 := by rw [e1]; exact (Below.refl _ _).alloc (Nat.le_refl _) _
  have b2 := (Below.refl w1.heap.size w1).alloc (Nat.le_refl _) (.cells (plC W H B n d) 55)
  have HB := ujoin b1 b2
  have HW := Lib.hid fun W' (hb : Below w.heap.size w W') => words_yes W' A B n c d x y (hx.below hb) (hy.below hb) hn he
  subst e1
  have HB1 := Lib.hid HB
  clear hx hy he b1 b2 HB
  unfold plC at *
  unfold WGives
  go_enter Try.func32, Try.ntmps32
  go_wp2_with (go_at_call 57; refine (HW.out _ HB1.out).mono ?_; rintro e1 w3 ⟨rfl, hd⟩; have HB3 := Lib.hid (ujoin HB1.out hd.below); clear hd)
  go_ret
  exact ⟨rfl, HB3.out⟩
attribute [local go_sem] Oper.semAt_some

theorem nan32_iff (s : Nat) (hs : s < 4294967296) : (rd32 s).isNaN = true ↔ 2139095040 < s % 2147483648 := by
  have e1 : s / 2 ^ 23 % 2 ^ 8 = s % 2147483648 / 8388608 := by
    rw [show (2 : Nat) ^ 23 = 8388608 from rfl, show (2 : Nat) ^ 8 = 256 from rfl]; omega
  have e2 : s % 2 ^ 23 = s % 2147483648 % 8388608 := by
    rw [show (2 : Nat) ^ 23 = 8388608 from rfl]; omega
  rw [rd32, read_parts 23 8 150 255 isF32, e1, e2]
  obtain ⟨t, et⟩ : ∃ t, t = s % 2147483648 := ⟨_, rfl⟩
  have ht : t < 2147483648 := by rw [et]; omega
  rw [← et]
  by_cases h1 : t / 8388608 = 255
  · rw [if_pos h1]
    by_cases h2 : t % 8388608 = 0
    · rw [if_pos h2]; simp [Ieee.Datum.isNaN]; omega
    · rw [if_neg h2]; simp [Ieee.Datum.isNaN]; omega
  · rw [if_neg h1]
    split <;> (simp [Ieee.Datum.isNaN]; omega)
set_option maxRecDepth 100000 in
theorem lmade_calls (s : Nat) (hs : s < 4294967296) (w : World) : Calls Try.prog 37 #[.int .u32 (s : Int)] w fun e w' => e = .returned (.int .u32 ((first32 s : Nat) : Int)) ∧ w = w' := by
  have hi := nan32_iff s hs
  have hm : bits .and .u32 (s : Int) 2147483647 = ((s % 2147483648 : Nat) : Int) := u_mask32 s 31 (by decide) hs
  obtain ⟨t, et⟩ : ∃ t, t = s % 2147483648 := ⟨_, rfl⟩
  rw [← et] at hi hm
  by_cases h : 2139095040 < t
  · have hz : (2139095040 : Int) < (t : Int) := by omega
    have HF : Hid (first32 s = 2143289344) := (show _ = _ from by unfold first32; rw [if_pos (hi.2 h)])
    clear hi et h
    go_enter Try.func37, Try.ntmps37
    go_wp2
    go_ret
    exact ⟨by rw [HF.out]; rfl, rfl⟩
  · have hz : ¬ (2139095040 : Int) < (t : Int) := by omega
    have HF : Hid (first32 s = s) := (show _ = _ from by unfold first32; rw [if_neg (fun k => h (hi.1 k))])
    clear hi et h
    go_enter Try.func37, Try.ntmps37
    go_wp2
    go_ret
    exact ⟨by rw [HF.out]; rfl, rfl⟩
end Go.Proofs.Ytdcpeeolfgohmaa
