/- halideref9.weight. -/
import Derived.Test.YtdcpeeolfgohmaaKnownW
namespace Go.Proofs.Ytdcpeeolfgohmaa
open Go.RowKit
set_option linter.unusedSimpArgs false
set_option linter.unusedVariables false

set_option maxHeartbeats 1600000 in
set_option maxRecDepth 100000 in
theorem rWeight_calls (kind a b : Int) (w : World) (hk1 : 1 ≤ kind) (hk3 : kind ≤ 3) (ha0 : -16384 ≤ a) (ha1 : a ≤ 16384) (hb0 : 1 ≤ b) (hb1 : b ≤ 4096) :
    Calls Try.prog 54 #[.int .i64 kind, .int .i64 a, .int .i64 b] w fun e w' => e = .returned (.int .i64 (wK kind a b)) ∧ w = w' := by
  obtain ⟨c, ec⟩ : ∃ c, c = max a (-a) := ⟨_, rfl⟩
  have ZC : Hid ((if a < -a then -a else a) = c) := (show _ = _ by rw [ec]; split <;> omega)
  have EC := Lib.hid ec
  have hc0 : 0 ≤ c := by omega
  have WN : IntKind.i64.wrap (-a) = -a := IntWalk.i64_in _ (by omega)
  clear ec
  have hk : kind = 1 ∨ kind = 2 ∨ kind = 3 := by omega
  rcases hk with rfl | rfl | rfl
  · have W2 : IntKind.i64.wrap (2 * a) = 2 * a := IntWalk.i64_in _ (by omega)
    have WB : IntKind.i64.wrap (-b) = -b := IntWalk.i64_in _ (by omega)
    by_cases h : -b ≤ 2 * a ∧ 2 * a < b
    · have E : Hid (wK 1 a b = wBox b) := (show _ = _ by unfold wK; rw [if_pos rfl, if_pos h])
      have d1 : decide (-b ≤ 2 * a) = true := decide_eq_true h.1
      have d2 : decide (2 * a < b) = true := decide_eq_true h.2
      have hbd := cube_bd (a := b) (b := b) (c := b) (A := 4096) (B := 4096) (C := 4096) (by omega) (by omega) (by omega) (by omega) (by omega) (by omega)
      have eb : wBox b = 2 * (b * b * b) := by unfold wBox; grind
      have EB := Lib.hid eb
      clear h eb
      go_enter Try.func54, Try.ntmps54
      go_upto_region 2 with (fail)
      try rw [ZC.out]
      go_wp2
      go_ret
      refine ⟨?_, rfl⟩
      rw [E.out]
      refine ret_eq (wrap64_to ?_ (by rw [EB.out]; omega) (by rw [EB.out]; omega))
      rw [wBox]
      simp only [wrap64_mul_l, wrap64_mul_r, wrap64_sub_l, wrap64_sub_r, wrap64_add_l, wrap64_add_r, wrap64_wrap]
    · have E : Hid (wK 1 a b = 0) := (show _ = _ by unfold wK; rw [if_pos rfl, if_neg h])
      by_cases h1 : -b ≤ 2 * a
      · have d1 : decide (-b ≤ 2 * a) = true := decide_eq_true h1
        have d2 : decide (2 * a < b) = false := decide_eq_false fun h2 => h ⟨h1, h2⟩
        clear h
        go_enter Try.func54, Try.ntmps54
        go_upto_region 2 with (fail)
        try rw [ZC.out]
        go_wp2
        go_ret
        exact ⟨by rw [E.out]; rfl, rfl⟩
      · have d1 : decide (-b ≤ 2 * a) = false := decide_eq_false h1
        clear h
        go_enter Try.func54, Try.ntmps54
        go_upto_region 2 with (fail)
        try rw [ZC.out]
        go_wp2
        go_ret
        exact ⟨by rw [E.out]; rfl, rfl⟩
  · by_cases h : c < b
    · have E : Hid (wK 2 a b = 2 * b * b * (b - c)) := (show _ = _ by
        unfold wK; rw [if_neg (by omega), if_pos rfl, ← EC.out, if_pos h]; unfold wTent; grind)
      have d1 : decide (c < b) = true := decide_eq_true h
      have hbd := cube_bd (a := b) (b := b) (c := b - c) (A := 4096) (B := 4096) (C := 4096) (by omega) (by omega) (by omega) (by omega) (by omega) (by omega)
      have eb : 2 * b * b * (b - c) = 2 * (b * b * (b - c)) := by grind
      have EB := Lib.hid eb
      clear eb
      go_enter Try.func54, Try.ntmps54
      go_upto_region 2 with (fail)
      try rw [ZC.out]
      go_wp2
      go_ret
      refine ⟨?_, rfl⟩
      rw [E.out]
      refine ret_eq (wrap64_to ?_ (by rw [EB.out]; omega) (by rw [EB.out]; omega))
      simp only [wrap64_mul_l, wrap64_mul_r, wrap64_sub_l, wrap64_sub_r, wrap64_add_l, wrap64_add_r, wrap64_wrap]
    · have E : Hid (wK 2 a b = 0) := (show _ = _ by unfold wK; rw [if_neg (by omega), if_pos rfl, ← EC.out, if_neg h])
      have d1 : decide (c < b) = false := decide_eq_false h
      go_enter Try.func54, Try.ntmps54
      go_upto_region 2 with (fail)
      try rw [ZC.out]
      go_wp2
      go_ret
      exact ⟨by rw [E.out]; rfl, rfl⟩
  · have W2 : IntKind.i64.wrap (2 * b) = 2 * b := IntWalk.i64_in _ (by omega)
    by_cases h : c < b
    · have E : Hid (wK 3 a b = wCubicIn c b) := (show _ = _ by unfold wK; rw [if_neg (by omega), if_neg (by omega), ← EC.out, if_pos h])
      have d1 : decide (c < b) = true := decide_eq_true h
      have hI := wCubicIn_bd c b (by omega) (by omega) (by omega) (by omega)
      go_enter Try.func54, Try.ntmps54
      go_upto_region 2 with (fail)
      try rw [ZC.out]
      clear W2
      go_wp2
      go_ret
      refine ⟨?_, rfl⟩
      rw [E.out]
      refine ret_eq (wrap64_to ?_ (by omega) (by omega))
      rw [wCubicIn]
      simp only [wrap64_mul_l, wrap64_mul_r, wrap64_sub_l, wrap64_sub_r, wrap64_add_l, wrap64_add_r, wrap64_wrap]
    · have d1 : decide (c < b) = false := decide_eq_false h
      by_cases h' : c < 2 * b
      · have E : Hid (wK 3 a b = wCubicOut c b) := (show _ = _ by unfold wK; rw [if_neg (by omega), if_neg (by omega), ← EC.out, if_neg h, if_pos h'])
        have d2 : decide (c < 2 * b) = true := decide_eq_true h'
        have hO := wCubicOut_bd c b (by omega) (by omega) (by omega) (by omega)
        go_enter Try.func54, Try.ntmps54
        go_upto_region 2 with (fail)
        try rw [ZC.out]
        go_wp2
        go_ret
        refine ⟨?_, rfl⟩
        rw [E.out]
        refine ret_eq (wrap64_to ?_ (by omega) (by omega))
        rw [wCubicOut]
        simp only [wrap64_mul_l, wrap64_mul_r, wrap64_sub_l, wrap64_sub_r, wrap64_add_l, wrap64_add_r, wrap64_neg, wrap64_wrap]
      · have E : Hid (wK 3 a b = 0) := (show _ = _ by unfold wK; rw [if_neg (by omega), if_neg (by omega), ← EC.out, if_neg h, if_neg h'])
        have d2 : decide (c < 2 * b) = false := decide_eq_false h'
        go_enter Try.func54, Try.ntmps54
        go_upto_region 2 with (fail)
        try rw [ZC.out]
        go_wp2
        go_ret
        exact ⟨by rw [E.out]; rfl, rfl⟩
end Go.Proofs.Ytdcpeeolfgohmaa
