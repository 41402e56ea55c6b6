/- halideref2's whole numbers: Plus, Minus. -/
import Derived.Test.YtmeifciagepmpaaNatC
namespace Go.Proofs.Ytmeifciagepmpaa
open Go.RowKit Go.Proofs.YtmeifciagepmpaaW.PrintWords
set_option linter.unusedSimpArgs false
set_option linter.unusedVariables false

/-- A digit that is read, or that is not there. -/
def DigIs (w : World) (A : Option Addr) (m i x : Nat) : Prop := (i < m ∧ ∃ ad, A = some ad ∧ w.cell? (ad.add i) = some (.int .u32 (x : Int))) ∨ (¬ i < m ∧ x = 0)
theorem DigIs.of {w : World} {A : Option Addr} {a : Nat} (h : RowU w A (len32 a) (dig a)) (i : Nat) : DigIs w A (len32 a) i (dig a i) := by
  by_cases hi : i < len32 a
  · obtain ⟨ad, e, hc⟩ := h (by omega)
    exact .inl ⟨hi, ad, e, hc i hi⟩
  · exact .inr ⟨hi, dig_high (by omega)⟩

set_option maxHeartbeats 3200000 in
set_option maxRecDepth 100000 in
theorem plus_calls (w : World) (v u : Value) (a b : Nat) (hv : NatAt w v a) (hu : NatAt w u b) (hla : len32 a ≤ 1000000) (hlb : len32 b ≤ 1000000) :
    Calls Try.prog 82 #[v, u] w fun e w' => NatEnd w (a + b) e w' := by
  obtain ⟨A, c, rfl, hc, hr⟩ := hv
  obtain ⟨B, d, rfl, hd, hs⟩ := hu
  have HR := Lib.hid hr
  have HS := Lib.hid hs
  obtain ⟨m, em⟩ : ∃ m, m = len32 a := ⟨_, rfl⟩
  obtain ⟨n, en⟩ : ∃ n, n = len32 b := ⟨_, rfl⟩
  have EM := Lib.hid em
  have EN := Lib.hid en
  rw [← em] at HR hla hc ⊢
  rw [← en] at HS hlb hd ⊢
  obtain ⟨t, et⟩ : ∃ t, t = max m n := ⟨_, rfl⟩
  have ht1 : m ≤ t := by omega
  have ht2 : n ≤ t := by omega
  obtain ⟨N, eN⟩ : ∃ N, N = t + 1 := ⟨_, rfl⟩
  have hz : Hid ((if m < n then (n : Int) else (m : Int)) + 1 = (N : Int)) := (show _ = _ by rw [eN, et]; split <;> omega)
  have hN : N ≤ 1000001 := by omega
  have EN1 := Lib.hid eN
  have HM := Lib.hid (u_make N (by omega))
  clear hr hs em en et
  go_enter Try.func82, Try.ntmps82
  clear eN
  go_upto_region 2 with (fail)
  obtain ⟨mm, emm⟩ : ∃ mm : Int, (if m < n then (n : Int) else (m : Int)) = mm := ⟨_, rfl⟩
  have hz2 : Hid (mm + 1 = (N : Int)) := (show _ = _ by rw [← emm]; exact hz.out)
  rw [emm, hz2.out]
  clear emm hz2
  have hm := HM.out
  rw [arrU_made] at hm
  clear hz HM
  go_wp2_with fail
  clear hm
  have HO0 := OutW.start w N
  obtain ⟨g, eg⟩ : ∃ g, g = w.heap.size := ⟨_, rfl⟩
  rw [← eg] at HO0 ⊢
  clear eg
  go_loopg [7, 8] N (fun kq v7 v8 wr => ∃ (i cy : Nat) (f : Nat → Nat), v7 = .int .u64 (cy : Int) ∧ v8 = .int .i64 (i : Int) ∧ i ≤ N ∧ N ≤ i + kq ∧ cy ≤ 1 ∧ Hid (vt f i + cy * 2 ^ (32 * i) = a % 2 ^ (32 * i) + b % 2 ^ (32 * i)) ∧ Aside (OutW w g N f wr))
  case atStart => exact ⟨0, 0, _, rfl, rfl, by omega, by omega, by omega, (show _ = _ by simp [vt, Nat.mod_one]), HO0⟩
  case round =>
    clear HO0
    obtain ⟨i, cy, f, rfl, rfl, hi, hk, hcy, HI, HO⟩ := hrel
    by_cases hlt : i < N
    · have hltz : (i : Int) < (N : Int) := by omega
      have HSTEP := Lib.hid (plus_step HI.out)
      have hda := DigIs.of (HR.out.below HO.out.be |> fun h => by rw [EM.out] at h; exact h) i
      have hdb := DigIs.of (HS.out.below HO.out.be |> fun h => by rw [EN.out] at h; exact h) i
      have hx := dig_lt a i
      have hy := dig_lt b i
      obtain ⟨x, ex⟩ : ∃ x, x = dig a i := ⟨_, rfl⟩
      obtain ⟨y, ey⟩ : ∃ y, y = dig b i := ⟨_, rfl⟩
      rw [← EM.out, ← ex] at hda
      rw [← EN.out, ← ey] at hdb
      rw [← ex] at hx
      rw [← ey] at hy
      rw [← ex, ← ey] at HSTEP
      obtain ⟨p, ep⟩ : ∃ p, p = cy + x := ⟨_, rfl⟩
      obtain ⟨s, es⟩ : ∃ s, s = p + y := ⟨_, rfl⟩
      rw [← ep, ← es] at HSTEP
      obtain ⟨lo, elo⟩ : ∃ lo, lo = s % 4294967296 := ⟨_, rfl⟩
      obtain ⟨hh, ehh⟩ : ∃ hh, hh = s / 4294967296 := ⟨_, rfl⟩
      rw [← elo, ← ehh] at HSTEP
      have hlo : lo < 4294967296 := by omega
      have hhh : hh ≤ 1 := by omega
      have W1 := u_w64 x (by omega)
      have W2 : IntKind.u64.wrap ((cy : Int) + (x : Int)) = (p : Int) := by rw [show (cy : Int) + (x : Int) = (p : Int) by omega, u_w64 p (by omega)]
      have W3 := u_w64 y (by omega)
      have W4 : IntKind.u64.wrap ((p : Int) + (y : Int)) = (s : Int) := by rw [show (p : Int) + (y : Int) = (s : Int) by omega, u_w64 s (by omega)]
      have W5 := u_mask s (by omega)
      rw [← elo] at W5
      have W6 := u_w32 lo hlo
      have W7 : (s : Int) / 4294967296 = (hh : Int) := by omega
      obtain ⟨oc, of'⟩ := HO.out.cell i hlt
      clear ex ey elo ehh hi
      have hda2 : (i < m ∧ ∃ ad, A = some ad ∧ wr.cell? (ad.add i) = some (.int .u32 (x : Int))) ∨ (¬ i < m ∧ p = cy) := hda.imp id (fun h => ⟨h.1, by omega⟩)
      have hdb2 : (i < n ∧ ∃ ad, B = some ad ∧ wr.cell? (ad.add i) = some (.int .u32 (y : Int))) ∨ (¬ i < n ∧ s = p) := hdb.imp id (fun h => ⟨h.1, by omega⟩)
      clear hda hdb ep es
      rcases hdb2 with ⟨hdb, be, rfl, c2⟩ | ⟨hdb, rfl⟩
      all_goals rcases hda2 with ⟨hda, ad, rfl, c1⟩ | ⟨hda, rfl⟩
      all_goals
        go_wp2
        go_roundg (N - (i + 1))
        case measure => omega
        case rel => exact ⟨i + 1, hh, updN f i lo, rfl, by go_num, by omega, by omega, hhh, HSTEP, HO.out.set i lo hlo⟩
    · have hltz : ¬ (i : Int) < (N : Int) := by omega
      have e : i = N := by omega
      subst e
      have HE : Hid (vt f i = a + b) := (show _ = _ by
        have h := HI.out
        rw [EN1.out] at h ⊢
        exact plus_end h (by rw [← EM.out]; omega) (by rw [← EN.out]; omega))
      go_wp2_with (go_at_call 75; refine (HO.out.trim (by omega) HE.out).mono ?_; rintro e1 w1 ⟨z, rfl, hz, hb⟩; have HZ := Lib.hid hz; have HB := Lib.hid hb; clear hz hb)
      go_ret
      exact ⟨z, rfl, HZ.out, HB.out⟩

set_option maxHeartbeats 3200000 in
set_option maxRecDepth 100000 in
theorem minus_calls (w : World) (v u : Value) (a b : Nat) (hv : NatAt w v a) (hu : NatAt w u b) (hba : b ≤ a) (hla : len32 a ≤ 1000000) :
    Calls Try.prog 102 #[v, u] w fun e w' => NatEnd w (a - b) e w' := by
  have hlb := len32_mono hba
  have HBA := Lib.hid hba
  obtain ⟨A, c, rfl, hc, hr⟩ := hv
  obtain ⟨B, d, rfl, hd, hs⟩ := hu
  have HR := Lib.hid hr
  have HS := Lib.hid hs
  obtain ⟨m, em⟩ : ∃ m, m = len32 a := ⟨_, rfl⟩
  obtain ⟨n, en⟩ : ∃ n, n = len32 b := ⟨_, rfl⟩
  have EM := Lib.hid em
  have EN := Lib.hid en
  rw [← em] at HR hla hlb hc ⊢
  rw [← en] at HS hlb hd ⊢
  have hm := u_make m (by omega)
  rw [arrU_made] at hm
  clear hr hs em en hba
  go_enter Try.func102, Try.ntmps102
  go_wp2_with fail
  clear hm
  have HO0 := OutW.start w m
  obtain ⟨g, eg⟩ : ∃ g, g = w.heap.size := ⟨_, rfl⟩
  rw [← eg] at HO0 ⊢
  clear eg
  go_loopg [6, 7] m (fun kq v6 v7 wr => ∃ (i r : Nat) (f : Nat → Nat), v6 = .int .u64 (r : Int) ∧ v7 = .int .i64 (i : Int) ∧ i ≤ m ∧ m ≤ i + kq ∧ r ≤ 1 ∧ Hid (vt f i + b % 2 ^ (32 * i) = a % 2 ^ (32 * i) + r * 2 ^ (32 * i)) ∧ Aside (OutW w g m f wr))
  case atStart => exact ⟨0, 0, _, rfl, rfl, by omega, by omega, by omega, (show _ = _ by simp [vt, Nat.mod_one]), HO0⟩
  case round =>
    clear HO0
    obtain ⟨i, r, f, rfl, rfl, hi, hk, hr1, HI, HO⟩ := hrel
    by_cases hlt : i < m
    · have hltz : (i : Int) < (m : Int) := by omega
      obtain ⟨ad, rfl, hca⟩ := HR.out (by omega)
      have hdb := DigIs.of (HS.out.below HO.out.be |> fun h => by rw [EN.out] at h; exact h) i
      have hx := dig_lt a i
      have hy := dig_lt b i
      obtain ⟨x, ex⟩ : ∃ x, x = dig a i := ⟨_, rfl⟩
      obtain ⟨y, ey⟩ : ∃ y, y = dig b i := ⟨_, rfl⟩
      have c1 := hca i hlt
      rw [← ex] at c1
      have c1' : wr.cell? (ad.add i) = some (.int .u32 (x : Int)) := by rw [HO.out.be.cell (World.block_lt_of_cell? _ _ c1), c1]
      rw [← EN.out, ← ey] at hdb
      rw [← ex] at hx
      rw [← ey] at hy
      obtain ⟨p, ep⟩ : ∃ p, p = r + y := ⟨_, rfl⟩
      have hp : p ≤ 4294967296 := by omega
      have W1 := u_w64 x (by omega)
      have W2 := u_w64 y (by omega)
      have W3 : IntKind.u64.wrap ((r : Int) + (y : Int)) = (p : Int) := by rw [show (r : Int) + (y : Int) = (p : Int) by omega, u_w64 p (by omega)]
      obtain ⟨oc, of'⟩ := HO.out.cell i hlt
      have hdb2 : (i < n ∧ ∃ ad, B = some ad ∧ wr.cell? (ad.add i) = some (.int .u32 (y : Int))) ∨ (¬ i < n ∧ p = r) := hdb.imp id (fun h => ⟨h.1, by omega⟩)
      have hxp : (∃ o xx : Nat, o + p = x + 4294967296 ∧ o < 4294967296 ∧ xx = x + 4294967296 ∧ x < p) ∨ (∃ o : Nat, o + p = x ∧ o < 4294967296 ∧ ¬ x < p) := by
        by_cases h : x < p
        · exact .inl ⟨x + 4294967296 - p, _, by omega, by omega, rfl, h⟩
        · exact .inr ⟨x - p, by omega, by omega, h⟩
      have HX : Hid (x = dig a i ∧ y = dig b i ∧ p = r + y) := ⟨ex, ey, ep⟩
      clear hdb ep ex ey hca c1 hi
      rcases hxp with ⟨o, xx, h1, h2, h3, h4⟩ | ⟨o, h1, h2, h4⟩
      · have h4' : (x : Int) < (p : Int) := by omega
        have HS1 := Lib.hid (minus_step (o := o) (r' := 1) HI.out (by rw [← HX.out.1, ← HX.out.2.1, ← HX.out.2.2]; omega))
        have W4 : IntKind.u64.wrap ((x : Int) + 4294967296) = (xx : Int) := by rw [show (x : Int) + 4294967296 = (xx : Int) by omega, u_w64 xx (by omega)]
        have W5 : IntKind.u64.wrap ((xx : Int) - (p : Int)) = (o : Int) := by rw [show (xx : Int) - (p : Int) = (o : Int) by omega, u_w64 o (by omega)]
        have W6 := u_w32 o h2
        have H2 := Lib.hid h2
        clear h1 h3 HX
        rcases hdb2 with ⟨hdb, be, rfl, c2⟩ | ⟨hdb, rfl⟩
        all_goals
          go_wp2
          go_roundg (m - (i + 1))
          case measure => omega
          case rel => exact ⟨i + 1, 1, updN f i o, rfl, by go_num, by omega, by omega, by omega, HS1, HO.out.set i o H2.out⟩
      · have h4' : ¬ (x : Int) < (p : Int) := by omega
        have HS1 := Lib.hid (minus_step (o := o) (r' := 0) HI.out (by rw [← HX.out.1, ← HX.out.2.1, ← HX.out.2.2]; omega))
        have W5 : IntKind.u64.wrap ((x : Int) - (p : Int)) = (o : Int) := by rw [show (x : Int) - (p : Int) = (o : Int) by omega, u_w64 o (by omega)]
        have W6 := u_w32 o h2
        have H2 := Lib.hid h2
        clear h1 HX
        rcases hdb2 with ⟨hdb, be, rfl, c2⟩ | ⟨hdb, rfl⟩
        all_goals
          go_wp2
          go_roundg (m - (i + 1))
          case measure => omega
          case rel => exact ⟨i + 1, 0, updN f i o, rfl, by go_num, by omega, by omega, by omega, HS1, HO.out.set i o H2.out⟩
    · have hltz : ¬ (i : Int) < (m : Int) := by omega
      have e : i = m := by omega
      subst e
      have HE : Hid (vt f i = a - b) := minus_end HI.out (vt_lt _ HO.out.di) HBA.out (by rw [← EM.out]; omega)
      go_wp2_with (go_at_call 75; refine (HO.out.trim (by omega) HE.out).mono ?_; rintro e1 w1 ⟨z, rfl, hz, hb⟩; have HZ := Lib.hid hz; have HB := Lib.hid hb; clear hz hb)
      go_ret
      exact ⟨z, rfl, HZ.out, HB.out⟩
end Go.Proofs.Ytmeifciagepmpaa
