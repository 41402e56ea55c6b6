/- limbs.add. -/
import Derived.Test.YtmeifciagepmpaaAcB
namespace Go.Proofs.Ytmeifciagepmpaa
open Go.RowKit Go.Proofs.YtmeifciagepmpaaW.PrintWords
set_option linter.unusedSimpArgs false
set_option linter.unusedVariables false

theorem u_lo32 (v : Nat) (h : v < 18446744073709551616) : IntKind.u32.wrap (v : Int) = ((v % 4294967296 : Nat) : Int) := by rw [IntKind.wrap_u32]; omega

set_option maxHeartbeats 6400000 in
set_option maxRecDepth 100000 in
theorem ladd_calls (w0 W : World) (g : Nat) (f c : Nat → Nat) (n m : Nat) (hA : AccW w0 g f c W) (hf : ∀ k, k < 14 → f k < 4294967296) (hn : n < 4294967296) (hm : m ≤ 300) :
    Calls Try.prog 66 #[.pointer (some ⟨g, 0, none⟩), .int .u32 (n : Int), .int .i64 (m : Int), .bool false] W fun e w' =>
      e = .returned (.tuple #[]) ∧ ∃ (f' : Nat → Nat) (cy : Nat), AccW w0 g f' c w' ∧ (∀ k, k < 14 → f' k < 4294967296) ∧ vt f' 14 + cy * 2 ^ 448 = vt f 14 + n * 2 ^ m := by
  have HA := Lib.hid hA
  have HF := Lib.hid hf
  clear hA hf
  obtain ⟨i, ei⟩ : ∃ i, i = m / 32 := ⟨_, rfl⟩
  obtain ⟨r, er⟩ : ∃ r, r = m % 32 := ⟨_, rfl⟩
  obtain ⟨wd, ew⟩ : ∃ z, z = n * 2 ^ r := ⟨_, rfl⟩
  have hr : r < 32 := by omega
  have hwd : wd < 9223372036854775808 := by
    rw [ew]
    have h1 : 2 ^ r ≤ 2 ^ 31 := Nat.pow_le_pow_right (by decide) (by omega)
    have h2 : n * 2 ^ r ≤ 4294967295 * 2 ^ 31 := Nat.mul_le_mul (by omega) h1
    omega
  have HE : Hid (vt (part i wd) 14 = n * 2 ^ m) := (show _ = _ by
    rw [part_all i wd 14 (by omega), ew, Nat.mul_assoc, ← Nat.pow_add, show r + 32 * i = m by omega])
  have q1 : (m : Int) / 32 = (i : Int) := by omega
  have r1 : (m : Int) % 32 = (r : Int) := by omega
  have N1 := u_w64 n (by omega)
  have N2 : IntKind.u64.wrap ((n : Int) * 2 ^ r) = (wd : Int) := by
    rw [show (n : Int) * 2 ^ r = (wd : Int) by rw [ew]; push_cast; rfl, u_w64 _ (by omega)]
  have hi9 : i ≤ 9 := by omega
  clear ei er ew
  go_enter Try.func66, Try.ntmps66
  go_wp2
  clear q1 r1 N1 N2
  go_loopg [10, 11] 14 (fun kq v10 v11 wr => ∃ (q cy : Nat) (f' : Nat → Nat), v10 = .int .u64 (cy : Int) ∧ v11 = .int .i64 (q : Int) ∧ i ≤ q ∧ q ≤ 14 ∧ 14 ≤ q + kq ∧ cy ≤ 1 ∧ Hid (vt f' q + cy * 2 ^ (32 * q) = vt f q + vt (part i wd) q) ∧ Hid ((∀ k, k < 14 → f' k < 4294967296) ∧ ∀ k, q ≤ k → f' k = f k) ∧ Aside (AccW w0 g f' c wr))
  case atStart => exact ⟨i, 0, f, rfl, by first | rfl | go_num, Nat.le_refl _, by omega, by omega, by omega, (show _ = _ by rw [part_low i wd i (Nat.le_refl _)]; omega), (show _ ∧ _ from ⟨HF.out, fun _ _ => rfl⟩), HA.out⟩
  case round =>
    obtain ⟨q, cy, f', rfl, rfl, hiq, hq, hqk, hcy, HV, HFF, HAW⟩ := hrel
    by_cases hlt : q < 14
    · have hltz : (q : Int) < 14 := by omega
      have hq0 : (0 : Int) ≤ (q : Int) := by omega
      obtain ⟨cq, fq⟩ := HAW.out.cell q hlt
      have hx : f' q < 4294967296 := HFF.out.1 q hlt
      have hxe : f' q = f q := HFF.out.2 q (Nat.le_refl _)
      obtain ⟨x, ex⟩ : ∃ x, x = f' q := ⟨_, rfl⟩
      rw [← ex] at cq hx hxe
      obtain ⟨p, ep⟩ : ∃ p, p = part i wd q := ⟨_, rfl⟩
      have hp : p < 4294967296 := by rw [ep]; exact part_lt i wd q (by omega)
      obtain ⟨y, ey⟩ : ∃ y, y = x + p := ⟨_, rfl⟩
      obtain ⟨v, ev⟩ : ∃ v, v = y + cy := ⟨_, rfl⟩
      obtain ⟨lo, elo⟩ : ∃ z, z = v % 4294967296 := ⟨_, rfl⟩
      obtain ⟨hi, ehi⟩ : ∃ z, z = v / 4294967296 := ⟨_, rfl⟩
      have hst := limb_add (q := q) (v := v) HV.out (by rw [ev, ey, hxe, ep])
      rw [← elo, ← ehi] at hst
      have HV2 := Lib.hid hst
      have hlo : lo < 4294967296 := by omega
      have hhi : hi ≤ 1 := by omega
      have W1 := u_w64 x (by omega)
      have W2 : IntKind.u64.wrap ((x : Int) + (p : Int)) = (y : Int) := by rw [show (x : Int) + (p : Int) = (y : Int) by omega, u_w64 _ (by omega)]
      have W3 : IntKind.u64.wrap ((y : Int) + (cy : Int)) = (v : Int) := by rw [show (y : Int) + (cy : Int) = (v : Int) by omega, u_w64 _ (by omega)]
      have W4 := u_lo32 v (by omega)
      rw [← elo] at W4
      have W5 : (v : Int) / 4294967296 = (hi : Int) := by omega
      have HFF2 : Hid ((∀ k, k < 14 → updN f' q lo k < 4294967296) ∧ ∀ k, q + 1 ≤ k → updN f' q lo k = f k) := (show _ ∧ _ from ⟨fun k hk => by
        unfold updN; split
        · exact hlo
        · exact HFF.out.1 k hk, fun k hk => by rw [updN_other _ _ (by omega)]; exact HFF.out.2 k (by omega)⟩)
      have HAS := Lib.hid (HAW.out.set q lo hlt)
      have W6 : IntKind.i64.wrap ((i : Int) + 1) = (i : Int) + 1 := IntWalk.i64_in _ (by omega)
      have HP := Lib.hid ep
      clear hst ey ev elo ehi ex hxe ep HV HFF
      rcases (show q = i ∨ q = i + 1 ∨ (q ≠ i ∧ q ≠ i + 1) by omega) with h1 | h1 | ⟨h1, h2⟩
      · have hb : ((q : Int) == (i : Int)) = true := by rw [h1]; exact beq_iff_eq.2 rfl
        have W7 : bits .and .u64 (wd : Int) 4294967295 = (p : Int) := by
          rw [u_mask wd (by omega), HP.out, part, if_pos h1]
        clear h1
        go_wp2
        repeat (go_quiet (fail); try go_wp2)
        go_roundg (14 - (q + 1))
        case measure => omega
        case rel => exact ⟨q + 1, hi, updN f' q lo, rfl, by go_num, by omega, by omega, by omega, hhi, HV2, HFF2, HAS.out⟩
      · have hb : ((q : Int) == (i : Int)) = false := by rw [beq_eq_false_iff_ne]; omega
        have hb2 : ((q : Int) == (i : Int) + 1) = true := by rw [beq_iff_eq]; omega
        have W7 : (wd : Int) / 4294967296 = (p : Int) := by
          rw [HP.out, part, if_neg (by omega), if_pos h1]; omega
        clear h1
        go_wp2
        repeat (go_quiet (fail); try go_wp2)
        go_roundg (14 - (q + 1))
        case measure => omega
        case rel => exact ⟨q + 1, hi, updN f' q lo, rfl, by go_num, by omega, by omega, by omega, hhi, HV2, HFF2, HAS.out⟩
      · have hb : ((q : Int) == (i : Int)) = false := by rw [beq_eq_false_iff_ne]; omega
        have hb2 : ((q : Int) == (i : Int) + 1) = false := by rw [beq_eq_false_iff_ne]; omega
        have hp0 : p = 0 := by rw [HP.out, part, if_neg h1, if_neg h2]
        have hyx : y = x := by
          have := W2
          rw [hp0] at this
          have h5 : ((x : Int) + ((0 : Nat) : Int)) = (x : Int) := by omega
          rw [h5, W1] at this
          omega
        subst hyx
        clear h1 h2 hp0 W2
        go_wp2
        repeat (go_quiet (fail); try go_wp2)
        go_roundg (14 - (q + 1))
        case measure => omega
        case rel => exact ⟨q + 1, hi, updN f' q lo, rfl, by go_num, by omega, by omega, by omega, hhi, HV2, HFF2, HAS.out⟩
    · have hltz : ¬ (q : Int) < 14 := by omega
      have e : q = 14 := by omega
      subst e
      have HV2 : Hid (vt f' 14 + cy * 2 ^ 448 = vt f 14 + n * 2 ^ m) := (show _ = _ by
        have h := HV.out
        rw [show (32 * 14 : Nat) = 448 from rfl, HE.out] at h
        exact h)
      clear HV hltz hlt
      go_wp2
      go_end0
      exact ⟨rfl, f', cy, HAW.out, HFF.out.1, HV2.out⟩

set_option maxHeartbeats 6400000 in
set_option maxRecDepth 100000 in
theorem lsub_calls (w0 W : World) (g : Nat) (f c : Nat → Nat) (n m : Nat) (hA : AccW w0 g f c W) (hf : ∀ k, k < 14 → f k < 4294967296) (hn : n < 4294967296) (hm : m ≤ 300) :
    Calls Try.prog 66 #[.pointer (some ⟨g, 0, none⟩), .int .u32 (n : Int), .int .i64 (m : Int), .bool true] W fun e w' =>
      e = .returned (.tuple #[]) ∧ ∃ (f' : Nat → Nat) (cy : Nat), AccW w0 g f' c w' ∧ (∀ k, k < 14 → f' k < 4294967296) ∧ vt f' 14 + n * 2 ^ m = vt f 14 + cy * 2 ^ 448 := by
  have HA := Lib.hid hA
  have HF := Lib.hid hf
  clear hA hf
  obtain ⟨i, ei⟩ : ∃ i, i = m / 32 := ⟨_, rfl⟩
  obtain ⟨r, er⟩ : ∃ r, r = m % 32 := ⟨_, rfl⟩
  obtain ⟨wd, ew⟩ : ∃ z, z = n * 2 ^ r := ⟨_, rfl⟩
  have hr : r < 32 := by omega
  have hwd : wd < 9223372036854775808 := by
    rw [ew]
    have h1 : 2 ^ r ≤ 2 ^ 31 := Nat.pow_le_pow_right (by decide) (by omega)
    have h2 : n * 2 ^ r ≤ 4294967295 * 2 ^ 31 := Nat.mul_le_mul (by omega) h1
    omega
  have HE : Hid (vt (part i wd) 14 = n * 2 ^ m) := (show _ = _ by
    rw [part_all i wd 14 (by omega), ew, Nat.mul_assoc, ← Nat.pow_add, show r + 32 * i = m by omega])
  have q1 : (m : Int) / 32 = (i : Int) := by omega
  have r1 : (m : Int) % 32 = (r : Int) := by omega
  have N1 := u_w64 n (by omega)
  have N2 : IntKind.u64.wrap ((n : Int) * 2 ^ r) = (wd : Int) := by
    rw [show (n : Int) * 2 ^ r = (wd : Int) by rw [ew]; push_cast; rfl, u_w64 _ (by omega)]
  have hi9 : i ≤ 9 := by omega
  clear ei er ew
  go_enter Try.func66, Try.ntmps66
  go_wp2
  clear q1 r1 N1 N2
  go_loopg [10, 11] 14 (fun kq v10 v11 wr => ∃ (q cy : Nat) (f' : Nat → Nat), v10 = .int .u64 (cy : Int) ∧ v11 = .int .i64 (q : Int) ∧ i ≤ q ∧ q ≤ 14 ∧ 14 ≤ q + kq ∧ cy ≤ 1 ∧ Hid (vt f' q + vt (part i wd) q = vt f q + cy * 2 ^ (32 * q)) ∧ Hid ((∀ k, k < 14 → f' k < 4294967296) ∧ ∀ k, q ≤ k → f' k = f k) ∧ Aside (AccW w0 g f' c wr))
  case atStart => exact ⟨i, 0, f, rfl, by first | rfl | go_num, Nat.le_refl _, by omega, by omega, by omega, (show _ = _ by rw [part_low i wd i (Nat.le_refl _)]; omega), (show _ ∧ _ from ⟨HF.out, fun _ _ => rfl⟩), HA.out⟩
  case round =>
    obtain ⟨q, cy, f', rfl, rfl, hiq, hq, hqk, hcy, HV, HFF, HAW⟩ := hrel
    by_cases hlt : q < 14
    · have hltz : (q : Int) < 14 := by omega
      have hq0 : (0 : Int) ≤ (q : Int) := by omega
      obtain ⟨cq, fq⟩ := HAW.out.cell q hlt
      have hx : f' q < 4294967296 := HFF.out.1 q hlt
      have hxe : f' q = f q := HFF.out.2 q (Nat.le_refl _)
      obtain ⟨x, ex⟩ : ∃ x, x = f' q := ⟨_, rfl⟩
      rw [← ex] at cq hx hxe
      obtain ⟨p, ep⟩ : ∃ p, p = part i wd q := ⟨_, rfl⟩
      have hp : p < 4294967296 := by rw [ep]; exact part_lt i wd q (by omega)
      obtain ⟨y, ey⟩ : ∃ y, y = (x + 18446744073709551616 - p) % 18446744073709551616 := ⟨_, rfl⟩
      obtain ⟨v, ev⟩ : ∃ v, v = (y + 18446744073709551616 - cy) % 18446744073709551616 := ⟨_, rfl⟩
      obtain ⟨lo, elo⟩ : ∃ z, z = v % 4294967296 := ⟨_, rfl⟩
      obtain ⟨hi, ehi⟩ : ∃ z, z = v / 9223372036854775808 := ⟨_, rfl⟩
      have hst := limb_sub (q := q) (v := lo) (cy' := hi) HV.out (by rw [← ep, ← hxe]; omega)
      have HV2 := Lib.hid hst
      have hlo : lo < 4294967296 := by omega
      have hhi : hi ≤ 1 := by omega
      have W1 := u_w64 x (by omega)
      have W2 : IntKind.u64.wrap ((x : Int) - (p : Int)) = (y : Int) := by rw [IntKind.wrap_u64]; omega
      have W3 : IntKind.u64.wrap ((y : Int) - (cy : Int)) = (v : Int) := by rw [IntKind.wrap_u64]; omega
      have W4 := u_lo32 v (by omega)
      rw [← elo] at W4
      have W5 : (v : Int) / 9223372036854775808 = (hi : Int) := by omega
      have HFF2 : Hid ((∀ k, k < 14 → updN f' q lo k < 4294967296) ∧ ∀ k, q + 1 ≤ k → updN f' q lo k = f k) := (show _ ∧ _ from ⟨fun k hk => by
        unfold updN; split
        · exact hlo
        · exact HFF.out.1 k hk, fun k hk => by rw [updN_other _ _ (by omega)]; exact HFF.out.2 k (by omega)⟩)
      have HAS := Lib.hid (HAW.out.set q lo hlt)
      have W6 : IntKind.i64.wrap ((i : Int) + 1) = (i : Int) + 1 := IntWalk.i64_in _ (by omega)
      have HP := Lib.hid ep
      clear hst ey ev elo ehi ex hxe ep HV HFF
      rcases (show q = i ∨ q = i + 1 ∨ (q ≠ i ∧ q ≠ i + 1) by omega) with h1 | h1 | ⟨h1, h2⟩
      · have hb : ((q : Int) == (i : Int)) = true := by rw [h1]; exact beq_iff_eq.2 rfl
        have W7 : bits .and .u64 (wd : Int) 4294967295 = (p : Int) := by
          rw [u_mask wd (by omega), HP.out, part, if_pos h1]
        clear h1
        go_wp2
        repeat (go_quiet (fail); try go_wp2)
        go_roundg (14 - (q + 1))
        case measure => omega
        case rel => exact ⟨q + 1, hi, updN f' q lo, rfl, by go_num, by omega, by omega, by omega, hhi, HV2, HFF2, HAS.out⟩
      · have hb : ((q : Int) == (i : Int)) = false := by rw [beq_eq_false_iff_ne]; omega
        have hb2 : ((q : Int) == (i : Int) + 1) = true := by rw [beq_iff_eq]; omega
        have W7 : (wd : Int) / 4294967296 = (p : Int) := by
          rw [HP.out, part, if_neg (by omega), if_pos h1]; omega
        clear h1
        go_wp2
        repeat (go_quiet (fail); try go_wp2)
        go_roundg (14 - (q + 1))
        case measure => omega
        case rel => exact ⟨q + 1, hi, updN f' q lo, rfl, by go_num, by omega, by omega, by omega, hhi, HV2, HFF2, HAS.out⟩
      · have hb : ((q : Int) == (i : Int)) = false := by rw [beq_eq_false_iff_ne]; omega
        have hb2 : ((q : Int) == (i : Int) + 1) = false := by rw [beq_eq_false_iff_ne]; omega
        have hp0 : p = 0 := by rw [HP.out, part, if_neg h1, if_neg h2]
        have hyx : y = x := by
          have := W2
          rw [hp0] at this
          have h5 : ((x : Int) - ((0 : Nat) : Int)) = (x : Int) := by omega
          rw [h5, W1] at this
          omega
        subst hyx
        clear h1 h2 hp0 W2
        go_wp2
        repeat (go_quiet (fail); try go_wp2)
        go_roundg (14 - (q + 1))
        case measure => omega
        case rel => exact ⟨q + 1, hi, updN f' q lo, rfl, by go_num, by omega, by omega, by omega, hhi, HV2, HFF2, HAS.out⟩
    · have hltz : ¬ (q : Int) < 14 := by omega
      have e : q = 14 := by omega
      subst e
      have HV2 : Hid (vt f' 14 + n * 2 ^ m = vt f 14 + cy * 2 ^ 448) := (show _ = _ by
        have h := HV.out
        rw [show (32 * 14 : Nat) = 448 from rfl, HE.out] at h
        exact h)
      clear HV hltz hlt
      go_wp2
      go_end0
      exact ⟨rfl, f', cy, HAW.out, HFF.out.1, HV2.out⟩

end Go.Proofs.Ytmeifciagepmpaa
