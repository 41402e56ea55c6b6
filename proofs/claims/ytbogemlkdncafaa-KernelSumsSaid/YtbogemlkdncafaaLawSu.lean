/- The law KernelSums: the walk. -/
import Derived.Test.YtbogemlkdncafaaLawSh
import Derived.Test.YtbogemlkdncafaaShP
namespace Go.Proofs.Ytbogemlkdncafaa
open Go.RowKit Go.Proofs.YtbogemlkdncafaaW.PrintWords
set_option linter.unusedSimpArgs false
set_option linter.unusedVariables false

set_option maxHeartbeats 1600000 in
set_option maxRecDepth 100000 in
theorem lawSums_far (w : World) (n c : Nat) (x : Nat → Int) (A : Option Addr) (hn64 : 64 < n) (hn : n ≤ 9223372036854775807) :
    Calls Try.prog 9 #[.slice A n c] w fun e w' => e = .returned (.bool true) ∧ Below w.heap.size w w' := by
  have hb1 : decide ((64 : Int) < (n : Int)) = true := decide_eq_true (by omega)
  have hltz : (0 : Int) < (n : Int) := by omega
  have hd0 : decide ((0 : Int) < (n : Int)) = true := decide_eq_true (by omega)
  go_enter Try.func9, Try.ntmps9
  go_wp2_with (go_at_call 12; refine (known_calls _).mono ?_; rintro e1 w1 ⟨rfl, hb⟩; have HB := Lib.hid hb; clear hb)
  go_loop [3, 4] (fun v3 v4 => v3 = .int .i64 0 ∧ v4 = .int .i64 0) (fun _ _ => 0)
  case atStart => exact ⟨rfl, rfl⟩
  case round =>
    obtain ⟨rfl, rfl⟩ := hrel
    go_wp2
    go_ret
    exact ⟨rfl, HB.out⟩

set_option maxHeartbeats 3200000 in
set_option maxRecDepth 100000 in
theorem lawSums_near (w : World) (n c : Nat) (x : Nat → Int) (A : Option Addr) (hr : RowI w A n x) (hn : n ≤ 64) :
    Calls Try.prog 9 #[.slice A n c] w fun e w' => e = .returned (.bool true) ∧ Below w.heap.size w w' := by
  have HR := Lib.hid hr
  have hb1 : decide ((64 : Int) < (n : Int)) = false := decide_eq_false (by omega)
  clear hr
  go_enter Try.func9, Try.ntmps9
  go_wp2_with (go_at_call 12; refine (known_calls _).mono ?_; rintro e1 w1 ⟨rfl, hb⟩; have HR1 := Lib.hid (HR.out.below hb); have HB1 := Lib.hid hb; clear hb HR)
  go_loop [3, 4] (fun v3 v4 => ∃ i : Nat, v4 = .int .i64 i ∧ i ≤ n ∧ v3 = .int .i64 (sumTo x i) ∧ Hid (∀ k, k < i → -1099511627776 ≤ x k ∧ x k ≤ 1099511627776)) (fun _ v4 => n - (intOf v4).toNat)
  case atStart => exact ⟨0, rfl, by omega, rfl, fun k hk => by omega⟩
  case round =>
    obtain ⟨i, rfl, hi, rfl, HB⟩ := hrel
    have hs := sumTo_bd' HB.out (by omega)
    obtain ⟨z, ez⟩ : ∃ z, z = sumTo x i := ⟨_, rfl⟩
    rw [← ez] at hs ⊢
    have EZ := Lib.hid ez
    obtain ⟨hs1, hs2⟩ := hs
    clear ez
    by_cases hlt : i < n
    · have hltz : (i : Int) < (n : Int) := by omega
      obtain ⟨ad, rfl, hcell⟩ := HR1.out (by omega)
      obtain ⟨y, ey⟩ : ∃ y, y = x i := ⟨_, rfl⟩
      have cx := hcell i hlt
      rw [← ey] at cx
      have EY := Lib.hid ey
      clear ey hcell
      by_cases hg : 1099511627776 < y
      · have hd : decide ((1099511627776 : Int) < y) = true := decide_eq_true hg
        go_wp2
        go_ret
        exact ⟨rfl, HB1.out⟩
      · have hd : decide ((1099511627776 : Int) < y) = false := decide_eq_false hg
        by_cases hl : y < -1099511627776
        · have hd2 : decide (y < (-1099511627776 : Int)) = true := decide_eq_true hl
          go_wp2
          go_ret
          exact ⟨rfl, HB1.out⟩
        · have hd2 : decide (y < (-1099511627776 : Int)) = false := decide_eq_false hl
          go_wp2
          go_round
          case rel =>
            refine ⟨i + 1, by go_num, by omega, ?_, fun k hk => ?_⟩
            · rw [sumTo, ← EZ.out, ← EY.out]
            · by_cases e : k = i
              · rw [e, ← EY.out]; omega
              · exact HB.out k (by omega)
          case measure => simp [intOf]; omega
    · have e : i = n := by omega
      subst e
      have hltz : ¬ (i : Int) < (i : Int) := by omega
      have HRD := Lib.hid (HR1.out.reads (by omega))
      go_upto_region 11 with (first
        | (at_builtin; refine print_append_row (P := Try.prog) (w0 := w1) (W := w1) w1.heap.size rfl (.const (.slice none 0 0)) (.tmp 43) 33 3 .i64 8 rfl Try.underlying33 info_int (by decide) (.slice none 0 0) [] (listOf x i) A i c rfl rfl (own_nil _ _ _ _) HRD.out (Below.refl _ _) (Nat.le_refl _) ?hl ?_; (case hl => simp; omega); intro v1 w2 hown hbel hg hat; rw [List.nil_append, listOf_len] at hown; obtain ⟨A1, q1, rfl⟩ := own_slice hown; have HL2 := Lib.hid ((own_rowI hown).congr fun k hk => listOf_rd x i k hk); have HR2 := Lib.hid (HR1.out.below hbel); have HB2 := Lib.hid (below_join HB1.out hbel); clear hown hbel hg hat HR1 HB1 HRD)
        | (go_at_call 17; refine (kShare_told _ i q1 x A1 HL2.out (by omega)).mono ?_; rintro e4 w4 ⟨A4, m4, y4, er4, rfl, hs, hrow, hm4, hb⟩; have HS := Lib.hid hs; have HY := Lib.hid hrow; have HR4 := Lib.hid (HR2.out.below hb); have HB4 := Lib.hid (below_join HB2.out hb); clear hs hrow hb HL2 HR2 HB2))
      rcases HS.out with ⟨hok, rfl, rfl, hsh⟩ | ⟨hno, rfl, rfl⟩
      · -- the weights may be shared
        have SP := Lib.hid (shares_plain hok hsh)
        have hi1 : 1 ≤ m4 := hok.1
        have hz1 : 1 ≤ z := by rw [EZ.out]; exact hok.2.2.2
        clear hok hsh HS hltz
        have hd0 : ((m4 : Int) == 0) = false := by rw [beq_eq_false_iff_ne]; omega
        have hdz : decide (z ≤ 0) = false := decide_eq_false (by omega)
        have hne : ((m4 : Int) != (m4 : Int)) = false := bne_self_eq_false _
        obtain ⟨ay, rfl, cy⟩ := HY.out hi1
        obtain ⟨ax, rfl, cx⟩ := HR4.out hi1
        have CX := Lib.hid cx
        have CY := Lib.hid cy
        clear cx cy HY HR4
        go_wp2
        clear hd0 hdz hne hb1
        go_loopg [7, 8, 9, 10] m4 (fun kq v7 v8 v9 v10 wr => ∃ i : Nat, v8 = .int .i64 i ∧ v7 = .int .i64 (sumTo y4 i) ∧ i ≤ m4 ∧ m4 ≤ i + kq ∧ Aside (Drawn0 w4 wr))
        case atStart => exact ⟨0, rfl, rfl, by omega, by omega, Drawn0.refl _⟩
        case round =>
          obtain ⟨i, rfl, rfl, hi, hk, HD0⟩ := hrel
          obtain ⟨qn, rfl⟩ := HD0.out.out
          by_cases hlt : i < m4
          · have hltz : (i : Int) < (m4 : Int) := by omega
            have hsm := sumTo_bd (B := 72057594037927937) (by omega) SP.out.bd i (by omega)
            have hsm2 : (i : Int) * 72057594037927937 ≤ 63 * 72057594037927937 := Int.mul_le_mul_of_nonneg_right (by omega) (by omega)
            obtain ⟨t, et⟩ : ∃ t, t = sumTo y4 i := ⟨_, rfl⟩
            rw [← et] at hsm ⊢
            have ht1 : -4539628424389460031 ≤ t := by omega
            have ht2 : t ≤ 4539628424389460031 := by omega
            have ET := Lib.hid et
            obtain ⟨b, eb⟩ : ∃ b, b = y4 i := ⟨_, rfl⟩
            obtain ⟨a, ea⟩ : ∃ a, a = x i := ⟨_, rfl⟩
            have c1 := CY.out i hlt
            have c2 := CX.out i hlt
            have hbd := SP.out.bd i hlt
            have hnear := SP.out.near i hlt
            rw [← eb] at c1 hbd hnear
            rw [← ea] at c2 hnear
            rw [← EZ.out] at hnear
            have EB := Lib.hid eb
            have EA := Lib.hid ea
            obtain ⟨hb2, hb3⟩ := hbd
            clear et eb ea hsm hsm2
            have d1 : decide ((144115188075855872 : Int) < b) = false := decide_eq_false (by omega)
            have d2 : decide (b < (-144115188075855872 : Int)) = false := decide_eq_false (by omega)
            have WT : IntKind.i64.wrap (t + b) = t + b := IntWalk.i64_in _ (by omega)
            have NEAR := Lib.hid hnear
            clear hnear
            go_upto_region 22 with (fail)
            clear d1 d2 WT
            go_cut [7, 110] (fun v7 v110 wc => ∃ g : Bool, v7 = .int .i64 (t + b) ∧ v110 = .bool g ∧ Hid (g = true → z < 1073741824 ∧ a < 1073741824 ∧ -1073741824 < a) ∧ wc = w4.drewN qn)
            case first =>
              by_cases g1 : z < 1073741824
              · have e1 : decide (z < (1073741824 : Int)) = true := decide_eq_true g1
                by_cases g2 : a < 1073741824
                · have e2 : decide (a < (1073741824 : Int)) = true := decide_eq_true g2
                  by_cases g3 : -1073741824 < a
                  · have e3 : decide ((-1073741824 : Int) < a) = true := decide_eq_true g3
                    go_wp2
                    go_meet
                    case rel => exact ⟨true, rfl, rfl, fun _ => ⟨g1, g2, g3⟩, rfl⟩
                  · have e3 : decide ((-1073741824 : Int) < a) = false := decide_eq_false g3
                    go_wp2
                    go_meet
                    case rel => exact ⟨false, rfl, rfl, (fun h => by cases h), rfl⟩
                · have e2 : decide (a < (1073741824 : Int)) = false := decide_eq_false g2
                  go_wp2
                  go_meet
                  case rel => exact ⟨false, rfl, rfl, (fun h => by cases h), rfl⟩
              · have e1 : decide (z < (1073741824 : Int)) = false := decide_eq_false g1
                go_wp2
                go_meet
                case rel => exact ⟨false, rfl, rfl, (fun h => by cases h), rfl⟩
            case rest =>
              obtain ⟨g, rfl, rfl, HG, rfl⟩ := hcut
              cases g
              case false =>
                go_wp2
                clear HD0 HG NEAR
                go_loopg [10] i (fun kq v10 wr => ∃ j : Nat, v10 = .int .i64 j ∧ j ≤ i ∧ i ≤ j + kq ∧ Aside (Drawn0 w4 wr))
                case atStart => exact ⟨0, rfl, by omega, by omega, Drawn0.mk ⟨_, rfl⟩⟩
                case round =>
                  obtain ⟨j, rfl, hj, hjk, HD0⟩ := hrel
                  obtain ⟨qk, rfl⟩ := HD0.out.out
                  by_cases hlt2 : j < i
                  · have hltz2 : (j : Int) < (i : Int) := by omega
                    have hltz3 : (j : Int) < (m4 : Int) := by omega
                    obtain ⟨b', eb'⟩ : ∃ b, b = y4 j := ⟨_, rfl⟩
                    obtain ⟨a', ea'⟩ : ∃ a, a = x j := ⟨_, rfl⟩
                    have c3 := CY.out j (by omega)
                    have c4 := CX.out j (by omega)
                    have hf := SP.out.fair j i hlt2 hlt
                    rw [← eb', ← EB.out, ← ea', ← EA.out] at hf
                    rw [← eb'] at c3
                    rw [← ea'] at c4
                    have WB : IntKind.i64.wrap (b + 1) = b + 1 := IntWalk.i64_in _ (by omega)
                    clear eb' ea'
                    by_cases he : a' = a
                    · have q1 : (a' == a) = true := beq_iff_eq.2 he
                      by_cases hbb : b' = b
                      · have q2 : (b' != b) = false := by rw [hbb]; exact bne_self_eq_false b
                        clear hf he hbb
                        go_wp2
                        repeat (go_quiet (fail); try go_wp2)
                        go_roundg (i - (j + 1))
                        case measure => omega
                        case rel => exact ⟨j + 1, by go_num, by omega, by omega, Drawn0.mk ⟨_, rfl⟩⟩
                      · have q2 : (b' != b) = true := bne_iff_ne.2 hbb
                        have hb1 : b' = b + 1 := by rcases hf he with h | h <;> omega
                        have q3 : (b' != b + 1) = false := by rw [hb1]; exact bne_self_eq_false _
                        clear hf he hbb hb1
                        go_wp2
                        repeat (go_quiet (fail); try go_wp2)
                        go_roundg (i - (j + 1))
                        case measure => omega
                        case rel => exact ⟨j + 1, by go_num, by omega, by omega, Drawn0.mk ⟨_, rfl⟩⟩
                    · have q1 : (a' == a) = false := beq_eq_false_iff_ne.2 he
                      clear hf he
                      go_wp2
                      repeat (go_quiet (fail); try go_wp2)
                      go_roundg (i - (j + 1))
                      case measure => omega
                      case rel => exact ⟨j + 1, by go_num, by omega, by omega, Drawn0.mk ⟨_, rfl⟩⟩
                  · have hltz2 : ¬ (j : Int) < (i : Int) := by omega
                    have e : j = i := by omega
                    subst e
                    go_wp2
                    go_roundg (m4 - (j + 1))
                    case measure => omega
                    case rel => exact ⟨j + 1, by go_num, by rw [sumTo, ← ET.out, ← EB.out], by omega, by omega, HD0⟩
              case true =>
                obtain ⟨g1, g2, g3⟩ := HG.out rfl
                have hnear := NEAR.out
                obtain ⟨p, ep⟩ : ∃ p, p = b * z := ⟨_, rfl⟩
                rw [← ep] at hnear
                have WP : IntKind.i64.wrap (b * z) = p := by rw [ep]; exact IntWalk.i64_in _ (by omega)
                have WA : IntKind.i64.wrap (65536 * a) = 65536 * a := IntWalk.i64_in _ (by omega)
                have WD : IntKind.i64.wrap (p - 65536 * a) = p - 65536 * a := IntWalk.i64_in _ (by omega)
                have WN : IntKind.i64.wrap (-z) = -z := IntWalk.i64_in _ (by omega)
                have d1 : decide (p - 65536 * a ≤ -z) = false := decide_eq_false (by omega)
                have d2 : decide (z ≤ p - 65536 * a) = false := decide_eq_false (by omega)
                clear ep hnear HG
                go_wp2
                repeat (go_quiet (fail); try go_wp2)
                clear WP WA WD WN d1 d2 HD0 NEAR
                go_loopg [10] i (fun kq v10 wr => ∃ j : Nat, v10 = .int .i64 j ∧ j ≤ i ∧ i ≤ j + kq ∧ Aside (Drawn0 w4 wr))
                case atStart => exact ⟨0, rfl, by omega, by omega, Drawn0.mk ⟨_, rfl⟩⟩
                case round =>
                  obtain ⟨j, rfl, hj, hjk, HD0⟩ := hrel
                  obtain ⟨qk, rfl⟩ := HD0.out.out
                  by_cases hlt2 : j < i
                  · have hltz2 : (j : Int) < (i : Int) := by omega
                    have hltz3 : (j : Int) < (m4 : Int) := by omega
                    obtain ⟨b', eb'⟩ : ∃ b, b = y4 j := ⟨_, rfl⟩
                    obtain ⟨a', ea'⟩ : ∃ a, a = x j := ⟨_, rfl⟩
                    have c3 := CY.out j (by omega)
                    have c4 := CX.out j (by omega)
                    have hf := SP.out.fair j i hlt2 hlt
                    rw [← eb', ← EB.out, ← ea', ← EA.out] at hf
                    rw [← eb'] at c3
                    rw [← ea'] at c4
                    have WB : IntKind.i64.wrap (b + 1) = b + 1 := IntWalk.i64_in _ (by omega)
                    clear eb' ea'
                    by_cases he : a' = a
                    · have q1 : (a' == a) = true := beq_iff_eq.2 he
                      by_cases hbb : b' = b
                      · have q2 : (b' != b) = false := by rw [hbb]; exact bne_self_eq_false b
                        clear hf he hbb
                        go_wp2
                        repeat (go_quiet (fail); try go_wp2)
                        go_roundg (i - (j + 1))
                        case measure => omega
                        case rel => exact ⟨j + 1, by go_num, by omega, by omega, Drawn0.mk ⟨_, rfl⟩⟩
                      · have q2 : (b' != b) = true := bne_iff_ne.2 hbb
                        have hb1 : b' = b + 1 := by rcases hf he with h | h <;> omega
                        have q3 : (b' != b + 1) = false := by rw [hb1]; exact bne_self_eq_false _
                        clear hf he hbb hb1
                        go_wp2
                        repeat (go_quiet (fail); try go_wp2)
                        go_roundg (i - (j + 1))
                        case measure => omega
                        case rel => exact ⟨j + 1, by go_num, by omega, by omega, Drawn0.mk ⟨_, rfl⟩⟩
                    · have q1 : (a' == a) = false := beq_eq_false_iff_ne.2 he
                      clear hf he
                      go_wp2
                      repeat (go_quiet (fail); try go_wp2)
                      go_roundg (i - (j + 1))
                      case measure => omega
                      case rel => exact ⟨j + 1, by go_num, by omega, by omega, Drawn0.mk ⟨_, rfl⟩⟩
                  · have hltz2 : ¬ (j : Int) < (i : Int) := by omega
                    have e : j = i := by omega
                    subst e
                    go_wp2
                    go_roundg (m4 - (j + 1))
                    case measure => omega
                    case rel => exact ⟨j + 1, by go_num, by rw [sumTo, ← ET.out, ← EB.out], by omega, by omega, HD0⟩
          · have hltz : ¬ (i : Int) < (m4 : Int) := by omega
            have e : i = m4 := by omega
            subst e
            rw [SP.out.sum]
            go_wp2
            go_ret
            exact ⟨rfl, below_join HB4.out HD0.out.below⟩
      · -- they may not
        have hns : i = 0 ∨ z ≤ 0 := by
          rcases Nat.eq_zero_or_pos i with h | h
          · exact .inl h
          · refine .inr ?_
            rcases Int.lt_or_le 0 z with h2 | h2
            · exact absurd ⟨h, hn, HB.out, by rw [← EZ.out]; omega⟩ hno
            · exact h2
        clear hno HS hltz
        by_cases h0 : i = 0
        · have hd0 : ((i : Int) == 0) = true := by rw [beq_iff_eq]; omega
          clear hns h0
          go_wp2
          go_ret
          exact ⟨rfl, HB4.out⟩
        · have hd0 : ((i : Int) == 0) = false := by rw [beq_eq_false_iff_ne]; omega
          have hdz : decide (z ≤ 0) = true := decide_eq_true (by omega)
          clear hns h0
          go_wp2
          go_ret
          exact ⟨rfl, HB4.out⟩

theorem lawSums_calls (w : World) (n c : Nat) (x : Nat → Int) (A : Option Addr) (hr : RowI w A n x) (hn : n ≤ 9223372036854775807) :
    Calls Try.prog 9 #[.slice A n c] w fun e w' => e = .returned (.bool true) ∧ Below w.heap.size w w' := by
  by_cases h : 64 < n
  · exact lawSums_far w n c x A h hn
  · exact lawSums_near w n c x A hr (by omega)
end Go.Proofs.Ytbogemlkdncafaa
