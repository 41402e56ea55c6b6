/- cmp.Compare at int; the closure by which kernel.shares compares. -/
import Derived.Test.YtdcpeeolfgohmaaSortFG
import Derived.Test.YtdcpeeolfgohmaaLeaf
namespace Go.Proofs.Ytdcpeeolfgohmaa
open Go.RowKit
set_option linter.unusedSimpArgs false
set_option linter.unusedVariables false

set_option maxHeartbeats 800000 in
theorem compare_calls (x y : Int) (w : World) : Calls Try.prog 125 #[.int .i64 x, .int .i64 y] w fun e w' => e = .returned (.int .i64 (cmpI x y)) ∧ w = w' := by
  rcases Int.lt_trichotomy x y with h | h | h
  · have E : Hid (cmpI x y = -1) := (show _ = _ by unfold cmpI; rw [if_pos h])
    have hd : decide (x < y) = true := decide_eq_true h
    go_enter Try.func125, Try.ntmps125
    go_wp2
    go_ret
    exact ⟨ret_eq E.out.symm, rfl⟩
  · have E : Hid (cmpI x y = 0) := (show _ = _ by unfold cmpI; rw [if_neg (by omega), if_neg (by omega)])
    have hd : decide (x < y) = false := decide_eq_false (by omega)
    have hd2 : decide (y < x) = false := decide_eq_false (by omega)
    clear h
    go_enter Try.func125, Try.ntmps125
    go_wp2
    go_ret
    exact ⟨ret_eq E.out.symm, rfl⟩
  · have E : Hid (cmpI x y = 1) := (show _ = _ by unfold cmpI; rw [if_neg (by omega), if_pos h])
    have hd : decide (x < y) = false := decide_eq_false (by omega)
    have hd2 : decide (y < x) = true := decide_eq_true h
    go_enter Try.func125, Try.ntmps125
    go_wp2
    go_ret
    exact ⟨ret_eq E.out.symm, rfl⟩

theorem sub_in {a b : Int} (h1 : -1152921504606846976 ≤ a) (h2 : a ≤ 1152921504606846976) (h3 : -1152921504606846976 ≤ b) (h4 : b ≤ 1152921504606846976) : IntKind.i64.wrap (a - b) = a - b := IntWalk.i64_in _ (by omega)

/-- The rest of a share, times the sum. -/
def restOf (x out : Nat → Int) (s : Int) (k : Int) : Int := 65536 * x k.toNat - out k.toNat * s

set_option maxHeartbeats 4000000 in
set_option maxRecDepth 100000 in
theorem cmpShares_calls (w : World) (n c bo : Nat) (x out : Nat → Int) (s : Int) (ad pw px ps : Addr) (i j : Int) (hn : n ≤ 1000)
    (hw : w.cell? pw = some (.slice (some ad) n c)) (hx : w.cell? px = some (.slice (some ⟨bo, 0, none⟩) n n)) (hs : w.cell? ps = some (.int .i64 s))
    (hxi : w.cell? (ad.add i.toNat) = some (.int .i64 (x i.toNat))) (hxj : w.cell? (ad.add j.toNat) = some (.int .i64 (x j.toNat)))
    (hoi : w.cell? ⟨bo, i.toNat, none⟩ = some (.int .i64 (out i.toNat))) (hoj : w.cell? ⟨bo, j.toNat, none⟩ = some (.int .i64 (out j.toNat)))
    (hi0 : 0 ≤ i) (hi1 : i < n) (hj0 : 0 ≤ j) (hj1 : j < n)
    (bi : -1152921504606846976 ≤ 65536 * x i.toNat ∧ 65536 * x i.toNat ≤ 1152921504606846976) (bj : -1152921504606846976 ≤ 65536 * x j.toNat ∧ 65536 * x j.toNat ≤ 1152921504606846976)
    (oi : -1152921504606846976 ≤ out i.toNat * s ∧ out i.toNat * s ≤ 1152921504606846976) (oj : -1152921504606846976 ≤ out j.toNat * s ∧ out j.toNat * s ≤ 1152921504606846976) :
    Calls Try.prog 124 #[.int .i64 i, .int .i64 j, .pointer (some pw), .pointer (some px), .pointer (some ps)] w
      fun e w' => e = .returned (.int .i64 (cmpI (restOf x out s j) (restOf x out s i))) ∧ ∃ q, w' = w.drewN q := by
  obtain ⟨a, rfl⟩ := Int.eq_ofNat_of_zero_le hi0
  obtain ⟨b, rfl⟩ := Int.eq_ofNat_of_zero_le hj0
  simp only [Int.toNat_natCast] at *
  obtain ⟨xa, ea⟩ : ∃ v, v = x a := ⟨_, rfl⟩
  obtain ⟨xb, eb⟩ : ∃ v, v = x b := ⟨_, rfl⟩
  obtain ⟨oa, fa⟩ : ∃ v, v = out a := ⟨_, rfl⟩
  obtain ⟨ob, fb⟩ : ∃ v, v = out b := ⟨_, rfl⟩
  have E : Hid (cmpI (restOf x out s b) (restOf x out s a) = cmpI (65536 * xb - ob * s) (65536 * xa - oa * s)) := (show _ = _ by
    unfold restOf; rw [ea, eb, fa, fb]; rfl)
  rw [← ea] at hxi bi
  rw [← eb] at hxj bj
  rw [← fa] at hoi oi
  rw [← fb] at hoj oj
  clear ea eb fa fb hi0 hj0
  obtain ⟨bi1, bi2⟩ := bi
  obtain ⟨bj1, bj2⟩ := bj
  obtain ⟨oi1, oi2⟩ := oi
  obtain ⟨oj1, oj2⟩ := oj
  have ha : a < n := by omega
  have hb : b < n := by omega
  have W1 : IntKind.i64.wrap (65536 * xb) = 65536 * xb := IntWalk.i64_in _ (by omega)
  have W2 : IntKind.i64.wrap (65536 * xa) = 65536 * xa := IntWalk.i64_in _ (by omega)
  have W3 : IntKind.i64.wrap (ob * s) = ob * s := IntWalk.i64_in _ (by omega)
  have W4 : IntKind.i64.wrap (oa * s) = oa * s := IntWalk.i64_in _ (by omega)
  have W5 : IntKind.i64.wrap (65536 * xb - ob * s) = 65536 * xb - ob * s := sub_in bj1 bj2 oj1 oj2
  have W6 : IntKind.i64.wrap (65536 * xa - oa * s) = 65536 * xa - oa * s := sub_in bi1 bi2 oi1 oi2
  have HC := Lib.hid fun W => compare_calls (65536 * xb - ob * s) (65536 * xa - oa * s) W
  go_enter Try.func124, Try.ntmps124
  go_wp2_with fail
  go_quiet ((go_at_call 125; exact Calls.quiet_of_same ((HC.out _).mono fun _ _ h => ⟨h.1, h.2.symm⟩)))
  go_wp2
  go_ret
  exact ⟨by rw [E.out]; rfl, nq, rfl⟩
end Go.Proofs.Ytdcpeeolfgohmaa
