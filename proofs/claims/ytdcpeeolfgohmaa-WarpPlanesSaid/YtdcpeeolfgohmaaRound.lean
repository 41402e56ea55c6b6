/- halideref2's Form.Round of a number. -/
import Derived.Test.YtdcpeeolfgohmaaNumA
namespace Go.Proofs.Ytdcpeeolfgohmaa
open Go.RowKit Go.Proofs.YtdcpeeolfgohmaaW.PrintWords
set_option linter.unusedSimpArgs false
set_option linter.unusedVariables false

/-- Round's own memory: the form's box, the number's box. -/
def RdS (w : World) (g h fr ex : Nat) (k : Int) (s : Bool) (A : Option Addr) (m c : Nat) (e : Int) (mo : Bool) (W : World) : Prop :=
  (W.cell? ⟨g, 0, none⟩ = some (.int .i64 (fr : Int)) ∧ W.cell? ⟨g, 1, none⟩ = some (.int .i64 (ex : Int))) ∧ (W.cell? ⟨h, 0, none⟩ = some (.int .i64 k) ∧ W.cell? ⟨h, 1, none⟩ = some (.bool s) ∧ W.cell? ⟨h, 2, none⟩ = some (.slice A m c) ∧ W.cell? ⟨h, 3, none⟩ = some (.int .i64 e) ∧ W.cell? ⟨h, 4, none⟩ = some (.bool mo)) ∧ Below w.heap.size w W
theorem RdS.below {w : World} {g h fr ex : Nat} {k : Int} {s : Bool} {A : Option Addr} {m c : Nat} {e : Int} {mo : Bool} {W W' : World} (H : RdS w g h fr ex k s A m c e mo W) (hb : Below W.heap.size W W') : RdS w g h fr ex k s A m c e mo W' := by
  have kp : ∀ {p : Addr} {v : Value}, W.cell? p = some v → W'.cell? p = some v := fun h => (hb.cell (World.block_lt_of_cell? _ _ h)).trans h
  obtain ⟨⟨a, b⟩, ⟨c0, c1, c2, c3, c4⟩, d⟩ := H
  exact ⟨⟨kp a, kp b⟩, ⟨kp c0, kp c1, kp c2, kp c3, kp c4⟩, ujoin d hb⟩
theorem RdS.start (w : World) (fr ex : Nat) (k : Int) (s : Bool) (A : Option Addr) (m c : Nat) (e : Int) (mo : Bool) :
    RdS w w.heap.size (w.heap.size + 1) fr ex k s A m c e mo ((w.alloc (.cells #[.int .i64 (fr : Int), .int .i64 (ex : Int)] 162)).alloc (.cells #[.int .i64 k, .bool s, .slice A m c, .int .i64 e, .bool mo] 166)) := by
  have hn := heap_alloc_new (w.alloc (.cells #[.int .i64 (fr : Int), .int .i64 (ex : Int)] 162)) (.cells #[.int .i64 k, .bool s, .slice A m c, .int .i64 e, .bool mo] 166)
  rw [World.size_alloc] at hn
  exact ⟨⟨by simp, by simp⟩, ⟨ucell hn 0, ucell hn 1, ucell hn 2, ucell hn 3, ucell hn 4⟩, ((Below.refl _ _).alloc (Nat.le_refl _) _).alloc (by simp) _⟩
theorem drawn_below {w w' : World} (h : Drawn0 w w') : Below w.heap.size w w' := h.below

theorem or_low (k a b : Nat) (hb : b < 2 ^ k) : (a * 2 ^ k) ||| b = a * 2 ^ k + b := by
  have h := Nat.shiftLeft_add_eq_or_of_lt hb a
  rw [Nat.shiftLeft_eq] at h
  exact h.symm
theorem u_or (a b : Nat) (ha : a < 18446744073709551616) (hb : b < 18446744073709551616) : bits .or .u64 (a : Int) (b : Int) = ((a ||| b : Nat) : Int) :=
  (bits_nat .u64 64 (by decide) (fun n h0 h1 => by rw [IntKind.wrap_u64]; omega) a b ha hb).2
theorem u_and (a b : Nat) (ha : a < 18446744073709551616) (hb : b < 18446744073709551616) : bits .and .u64 (a : Int) (b : Int) = ((a &&& b : Nat) : Int) :=
  (bits_nat .u64 64 (by decide) (fun n h0 h1 => by rw [IntKind.wrap_u64]; omega) a b ha hb).1
theorem keep4 {w W W' : World} {p q r : Addr} {x y z : Value} (hb : Below W.heap.size W W') (h : W.cell? p = some x ∧ W.cell? q = some y ∧ W.cell? r = some z ∧ Below w.heap.size w W) : W'.cell? p = some x ∧ W'.cell? q = some y ∧ W'.cell? r = some z ∧ Below w.heap.size w W' :=
  ⟨(hb.cell (World.block_lt_of_cell? _ _ h.1)).trans h.1, (hb.cell (World.block_lt_of_cell? _ _ h.2.1)).trans h.2.1, (hb.cell (World.block_lt_of_cell? _ _ h.2.2.1)).trans h.2.2.1, ujoin h.2.2.2 hb⟩
theorem up_bool (A R O : Prop) [Decidable A] [Decidable R] [Decidable O] (mo : Bool) : (if A ∧ (mo = true ∨ R ∨ O) then 1 else 0) = (decide A && ((mo || decide R) || decide O)).toNat := by
  by_cases a : A <;> by_cases r : R <;> by_cases o : O <;> cases mo <;> simp [a, r, o]
theorem mo_false {mo P : Bool} (h : false = (mo || P)) : mo = false ∧ P = false := by cases mo <;> cases P <;> simp_all
theorem not_lo {i k : Nat} {lo : Bool} (h : ¬ (i < k ∧ lo = false)) (hi : i < k) : lo = true := by cases lo; exact absurd ⟨hi, rfl⟩ h; rfl
theorem rest_up {n i k : Nat} (h : n % 2 ^ i ≠ 0) (hik : i ≤ k) : n % 2 ^ k ≠ 0 := fun h0 => h (by
  have h1 := Nat.mod_mod_of_dvd n (Nat.pow_dvd_pow 2 hik)
  rw [h0, Nat.zero_mod] at h1
  exact h1.symm)

set_option maxHeartbeats 6400000 in
set_option maxRecDepth 100000 in
theorem round_num (fr ex bias top : Nat) (hf : IsForm fr ex bias top) (neg : Bool) (n : Nat) (e : Int) (mo : Bool) (A : Option Addr) (c : Nat) (w : World)
    (hn : NatAt w (.slice A (len32 n) c) n) (hl : len32 n ≤ 10000) (he1 : -100000 ≤ e) (he2 : e ≤ 100000) :
    Calls Try.prog 110 #[formV fr ex, numV 2 neg A (len32 n) c e mo] w fun e' w' => Gives w (.int .u64 ((refRound fr ex bias top neg n e mo : Nat) : Int)) e' w' := by
  have HT := Lib.hid fun W => top_calls fr ex bias top hf W
  have HBI := Lib.hid fun W => bias_calls fr ex bias top hf W
  have HSG := Lib.hid fun (b : Bool) W => sign_calls fr ex bias top hf b W
  have HN := Lib.hid hn
  have F : fr ≤ 52 ∧ 23 ≤ fr ∧ ex ≤ 11 ∧ bias ≤ 1075 ∧ 150 ≤ bias ∧ top ≤ 2047 ∧ 255 ≤ top := by
    rcases hf with ⟨rfl, rfl, rfl, rfl⟩ | ⟨rfl, rfl, rfl, rfl⟩ <;> decide
  obtain ⟨hfr, hfr2, hex, hbias, hbias2, htop, htop2⟩ := F
  have hfr64 : fr < 64 := by omega
  have HF := Lib.hid hf
  obtain ⟨m, em⟩ : ∃ m, m = len32 n := ⟨_, rfl⟩
  have EM := Lib.hid em
  obtain ⟨bl, ebl⟩ : ∃ bl, bl = bitlen n := ⟨_, rfl⟩
  have hbl : bl ≤ 32 * m := by
    rw [ebl, bitlen_lt]
    exact (lt_len32 n m).1 (by omega)
  have HBITS : Hid (∀ W, Below w.heap.size w W → Calls Try.prog 137 #[.slice A m c] W fun e' w' => e' = .returned (.int .i64 (bl : Int)) ∧ w' = W) := fun W hb => by
    rw [em, ebl]
    exact (nbits_calls W _ n (hn.below hb) (by omega)).mono fun _ _ ⟨a, b⟩ => ⟨a, b.symm⟩
  obtain ⟨tt, ett⟩ : ∃ tt, tt = rTo fr bias n e := ⟨_, rfl⟩
  have HTT : Hid (tt = max ((bl : Int) + e - ((fr : Int) + 1)) (1 - (bias : Int))) := (show _ = _ by rw [ett, ebl]; rfl)
  have htt1 : -1200 ≤ tt := by have := HTT.out; omega
  have htt2 : tt ≤ 500000 := by have := HTT.out; omega
  have htt3 : tt - e ≤ 500000 := by have := HTT.out; omega
  have htt4 : e - tt ≤ 100 := by have := HTT.out; omega
  have GOAL : Hid (refRound fr ex bias top neg n e mo = rSign fr ex neg + rRung fr bias top tt (rKept n (tt - e) mo)) := (show _ = _ by rw [ett]; rfl)
  have HTR := Lib.hid ett
  rw [← em] at HN hl ⊢
  rw [GOAL.out]
  clear hn em ebl ett hf GOAL
  have W1 : IntKind.i64.wrap (1 - (bias : Int)) = 1 - (bias : Int) := IntWalk.i64_in _ (by omega)
  unfold formV at HT HBI HSG ⊢
  unfold numV
  go_enter Try.func110, Try.ntmps110
  have HS0 := RdS.start w fr ex 2 neg A m c e mo
  obtain ⟨g, eg⟩ : ∃ g, g = w.heap.size := ⟨_, rfl⟩
  obtain ⟨h, eh⟩ : ∃ h, h = w.heap.size + 1 := ⟨_, rfl⟩
  rw [← eh, ← eg] at HS0
  have EG := Lib.hid eg
  have EH := Lib.hid eh
  clear eg eh
  go_upto_region 1 with (fail)
  rw [← EH.out, ← EG.out]
  generalize (w.alloc (.cells #[.int .i64 (fr : Int), .int .i64 (ex : Int)] 162)).alloc (.cells #[.int .i64 2, .bool neg, .slice A m c, .int .i64 e, .bool mo] 166) = w0 at HS0 ⊢
  have HS := Lib.hid HS0
  obtain ⟨⟨a0, a1⟩, ⟨b0, b1, b2, b3, b4⟩, _⟩ := HS0
  go_upto_region 8 with (go_at_call 133; refine (HBI.out _).mono ?_; rintro e1 w1 ⟨rfl, hbel⟩; have HS1 := Lib.hid (HS.out.below hbel); clear hbel)
  obtain ⟨⟨a0, a1⟩, ⟨b0, b1, b2, b3, b4⟩, _⟩ := HS1.out
  have HBC := Lib.hid (HBITS.out w1.drew HS1.out.2.2.drew)
  have Y1 : IntKind.i64.wrap ((bl : Int) + e) = (bl : Int) + e := IntWalk.i64_in _ (by omega)
  have Y2 : IntKind.i64.wrap ((fr : Int) + 1) = (fr : Int) + 1 := IntWalk.i64_in _ (by omega)
  have Y3 : IntKind.i64.wrap ((bl : Int) + e - ((fr : Int) + 1)) = (bl : Int) + e - ((fr : Int) + 1) := IntWalk.i64_in _ (by omega)
  go_region_held3 (fun w' => w'.cell? ⟨g, 0, none⟩ = some (.int .i64 (fr : Int)) ∧ Below w1.heap.size w1 w') (first | exact ⟨a0, (Below.refl _ _).drew⟩ | exact ⟨a0, ‹_›⟩) ((go_at_call 137; refine HBC.out.mono ?_; rintro e1 w2 ⟨rfl, rfl⟩))
  clear Y1 Y2 Y3
  rename_i hH
  have HS2 := Lib.hid (HS1.out.below hH.2)
  clear hH a0 a1 b0 b1 b2 b3 b4
  obtain ⟨⟨a0, a1⟩, ⟨b0, b1, b2, b3, b4⟩, _⟩ := HS2.out
  go_upto_region 10 with (fail)
  have ZT : Hid ((if (bl : Int) + e - ((fr : Int) + 1) < 1 - (bias : Int) then 1 - (bias : Int) else (bl : Int) + e - ((fr : Int) + 1)) = tt) := (show _ = _ by rw [HTT.out]; split <;> omega)
  rw [ZT.out]
  have HN2 := Lib.hid (HN.out.below HS2.out.2.2)
  clear ZT HBC HBITS W1
  generalize w1.drew = w2 at HS2 HN2 a0 a1 b0 b1 b2 b3 b4 ⊢
  clear HS1 HS
  go_upto_if 54 with (fail)
  go_cut [5, 9] (fun v5 v9 wc => ∃ (q : Nat) (up : Bool) (B : Option Addr) (d : Nat), v5 = .slice B (len32 q) d ∧ v9 = .bool up ∧ Hid (q + up.toNat = rKept n (tt - e) mo) ∧ len32 q ≤ 20000 ∧ Aside (NatAt wc (.slice B (len32 q) d) q) ∧ Aside (RdS w g h fr ex 2 neg A m c e mo wc))
  case first =>
    by_cases hd : 0 < tt - e
    · obtain ⟨k1, hk1⟩ := Int.eq_ofNat_of_zero_le (by omega : 0 ≤ tt - e)
      obtain ⟨k, ek⟩ : ∃ k, k1 = k + 1 := ⟨k1 - 1, by omega⟩
      have HK1 : Hid (tt - e = ((k + 1 : Nat) : Int)) := (show _ = _ by rw [hk1, ek])
      have W1 : IntKind.i64.wrap (tt - e) = (k1 : Int) := by rw [hk1]; exact IntWalk.i64_in _ (by omega)
      have W2 : IntKind.i64.wrap ((k1 : Int) - 1) = (k : Int) := by rw [IntWalk.i64_in _ (by omega)]; omega
      have hlt : e < tt := by omega
      have hk : k ≤ 500000 := by omega
      have EK := Lib.hid ek
      have HBIT : Hid (∀ (i : Nat) (W : World), i ≤ 1000000 → Below w2.heap.size w2 W → Calls Try.prog 138 #[.slice A m c, .int .i64 (i : Int)] W fun e w' => e = .returned (.int .i64 ((n / 2 ^ i % 2 : Nat) : Int)) ∧ W = w') := fun i W hi hb => by
        have hn := HN2.out.below hb
        rw [EM.out] at hn ⊢
        exact bit_calls W _ n i hn (by have := EM.out; omega) (by omega)
      obtain ⟨z, ez⟩ : ∃ z, z = n / 2 ^ k % 2 := ⟨_, rfl⟩
      have HBK := HBIT.out k w2 (by omega) (Below.refl _ _)
      rw [← ez] at HBK
      have HB1 := Lib.hid HBK
      obtain ⟨hf, ehf⟩ : ∃ hf : Bool, hf = decide (z = 1) := ⟨_, rfl⟩
      have Z1 : ((z : Int) == 1) = hf := by rw [ehf]; by_cases h : z = 1 <;> simp [h]; omega
      have EHF : Hid (hf = decide (n / 2 ^ k % 2 = 1)) := (show _ = _ by rw [ehf, ez])
      clear hk1 ek hd HBK ez ehf
      go_wp2_with (go_at_call 138; refine HB1.out.mono ?_; rintro e1 w3 ⟨rfl, rfl⟩)
      obtain ⟨q, eq⟩ : ∃ q, q = n / 2 ^ (k + 1) := ⟨_, rfl⟩
      have hlq : len32 q ≤ 20000 := by
        have h1 : len32 q ≤ len32 n := len32_mono (by rw [eq]; exact Nat.div_le_self _ _)
        have := EM.out; omega
      have HD : Hid (Calls Try.prog 139 #[.slice A m c, .int .i64 (k1 : Int)] w2 fun e w' => ∃ v rb, e = .returned (.tuple #[v, .bool rb]) ∧ NatAt w' v q ∧ Below w2.heap.size w2 w') := (show Calls _ _ _ _ _ by
        have hn := HN2.out
        rw [EM.out] at hn ⊢
        rw [eq, EK.out]
        exact (down_calls w2 _ n (k + 1) hn (by have := EM.out; omega) (by omega)).mono fun e w' ⟨v, he, hv, hb⟩ => ⟨v, _, he, hv, hb⟩)
      have EQ := Lib.hid eq
      clear eq HB1 Z1
      go_loopg [11, 12] k (fun kq v11 v12 wr => ∃ (i : Nat) (lo : Bool), v11 = .bool lo ∧ v12 = .int .i64 (i : Int) ∧ i ≤ k ∧ k ≤ i + kq ∧ Hid (lo = (mo || decide (n % 2 ^ i ≠ 0))) ∧ wr = w2)
      case atStart => exact ⟨0, mo, rfl, rfl, by omega, by omega, (show _ = _ by simp [Nat.mod_one]), rfl⟩
      case round =>
        obtain ⟨i, lo, rfl, rfl, hi, hkq, HL, rfl⟩ := hrel
        by_cases hx : i < k ∧ lo = false
        · obtain ⟨hik, hlo⟩ := hx
          subst hlo
          have hikz : (i : Int) < (k : Int) := by omega
          obtain ⟨y, ey⟩ : ∃ y, y = n / 2 ^ i % 2 := ⟨_, rfl⟩
          have HBI2 := HBIT.out i wr (by omega) (Below.refl _ _)
          rw [← ey] at HBI2
          have HB2 := Lib.hid HBI2
          obtain ⟨yb, eyb⟩ : ∃ yb : Bool, yb = decide (y = 1) := ⟨_, rfl⟩
          have Y1 : ((y : Int) == 1) = yb := by rw [eyb]; by_cases h : y = 1 <;> simp [h]; omega
          have HL2 : Hid (yb = (mo || decide (n % 2 ^ (i + 1) ≠ 0))) := (show _ = _ by
            have h1 := HL.out
            have h2 := mo_false h1
            rw [rest_step, h2.1, h2.2, eyb, ey]; rfl)
          clear HBI2 ey eyb
          go_wp2_with (go_at_call 138; refine HB2.out.mono ?_; rintro e1 w3 ⟨rfl, rfl⟩)
          go_roundg (k - (i + 1))
          case measure => omega
          case rel => exact ⟨i + 1, yb, by first | rfl | (rw [← Y1]; rfl) | (simp [Y1]), by go_num, by omega, by omega, HL2, rfl⟩
        · have EL : Hid (lo = (mo || decide (n % 2 ^ k ≠ 0))) := (show _ = _ by
            rcases Nat.lt_or_ge i k with h | h
            · have hl := not_lo hx h
              have h1 := HL.out
              rw [hl] at h1 ⊢
              cases mo with
              | true => rfl
              | false =>
                have h2 : n % 2 ^ i ≠ 0 := by simpa using h1.symm
                have h3 := rest_up h2 (by omega : i ≤ k)
                simp [h3]
            · rw [show k = i by omega]; exact HL.out)
          have hex : (lo = true) ∨ (lo = false ∧ ¬ (i : Int) < (k : Int)) := by
            cases lo
            · right; refine ⟨rfl, ?_⟩; intro h; exact hx ⟨by omega, rfl⟩
            · left; rfl
          obtain ⟨y, ey⟩ : ∃ y, y = q % 2 := ⟨_, rfl⟩
          have HB0 : Hid (∀ (B : Option Addr) (d : Nat) (W : World), NatAt W (.slice B (len32 q) d) q → Calls Try.prog 138 #[.slice B (len32 q) d, .int .i64 0] W fun e w' => e = .returned (.int .i64 (y : Int)) ∧ W = w') := fun B d W hq => by
            have h := bit_calls W _ q 0 hq (by omega) (by omega)
            rw [Nat.pow_zero, Nat.div_one, ← ey] at h
            exact h
          obtain ⟨yb, eyb⟩ : ∃ yb : Bool, yb = decide (y = 1) := ⟨_, rfl⟩
          have Y1 : ((y : Int) == 1) = yb := by rw [eyb]; by_cases h : y = 1 <;> simp [h]; omega
          have RK : Hid (∀ up : Bool, up = (hf && (lo || yb)) → q + up.toNat = rKept n (tt - e) mo) := fun up hu => by
            rw [HK1.out, rKept_succ, ← EQ.out, hu, EHF.out, EL.out, eyb, ey]
            rw [up_bool]
          clear hx ey eyb HL
          obtain ⟨wo, rfl⟩ : ∃ wo : World, wo = wr := ⟨_, rfl⟩
          have FIN : Hid (∀ (B : Option Addr) (d : Nat) (W : World) (v9 : Value) (up : Bool), v9 = .bool up → up = (hf && (lo || yb)) → NatAt W (.slice B (len32 q) d) q → RdS w g h fr ex 2 neg A m c e mo W → ∃ (q' : Nat) (up : Bool) (B' : Option Addr) (d' : Nat), Value.slice B (len32 q) d = .slice B' (len32 q') d' ∧ v9 = .bool up ∧ Hid (q' + up.toNat = rKept n (tt - e) mo) ∧ len32 q' ≤ 20000 ∧ Aside (NatAt W (.slice B' (len32 q') d') q') ∧ Aside (RdS w g h fr ex 2 neg A m c e mo W)) := fun B d W v9 up h1 h2 h3 h4 => ⟨q, up, B, d, rfl, h1, RK.out up h2, hlq, h3, h4⟩
          rcases hex with hlo | ⟨hlo, hge⟩
          · subst hlo
            by_cases hik : (i : Int) < (k : Int)
            all_goals cases hf
            all_goals
              go_wp2_with (go_at_call 139; refine HD.out.mono ?_; rintro e1 w4 ⟨v, rb, rfl, ⟨B, d, rfl, hd1, hr⟩, hbel⟩; have HQ := Lib.hid (show NatAt w4 (.slice B (len32 q) d) q from ⟨B, d, rfl, hd1, hr⟩); have HS3 := Lib.hid (HS2.out.below hbel); clear hbel hd1 hr)
              go_meet
              case rel =>
                first
                | exact FIN.out B d _ (.bool false) false rfl rfl HQ.out HS3.out
                | exact FIN.out B d _ (.bool true) true rfl rfl HQ.out HS3.out
          · subst hlo
            cases hf
            all_goals
              go_wp2_with (first
                | (go_at_call 139; refine HD.out.mono ?_; rintro e1 w4 ⟨v, rb, rfl, ⟨B, d, rfl, hd1, hr⟩, hbel⟩; have HQ := Lib.hid (show NatAt w4 (.slice B (len32 q) d) q from ⟨B, d, rfl, hd1, hr⟩); have HS3 := Lib.hid (HS2.out.below hbel); clear hbel hd1 hr)
                | (go_at_call 138; refine (HB0.out B d _ HQ.out).mono ?_; rintro e1 w5 ⟨rfl, rfl⟩))
              go_meet
              case rel =>
                first
                | exact FIN.out B d _ (.bool false) false rfl rfl HQ.out HS3.out
                | exact FIN.out B d _ (.bool true) true rfl rfl HQ.out HS3.out
                | exact FIN.out B d _ (.bool yb) yb rfl rfl HQ.out HS3.out
    · obtain ⟨k, hk⟩ := Int.eq_ofNat_of_zero_le (by omega : 0 ≤ e - tt)
      have W1 : IntKind.i64.wrap (e - tt) = (k : Int) := by rw [hk]; exact IntWalk.i64_in _ (by omega)
      have hlt : ¬ e < tt := by omega
      have RK : Hid (n * 2 ^ k = rKept n (tt - e) mo) := (show _ = _ by
        unfold rKept
        rw [if_neg hd, show (-(tt - e)).toNat = k by omega])
      obtain ⟨q, eq⟩ : ∃ q, q = n * 2 ^ k := ⟨_, rfl⟩
      have hlq : len32 q ≤ 20000 := by
        have h1 := len_up (a := n) (n := k)
        have := EM.out
        rw [eq]; omega
      have HU : Hid (Calls Try.prog 140 #[.slice A m c, .int .i64 (k : Int)] w2 fun e w' => NatEnd w2 q e w') := (show Calls _ _ _ _ _ by
        have hn := HN2.out
        rw [EM.out] at hn ⊢
        rw [eq]
        exact up_calls w2 _ n k hn (by have := EM.out; omega) (by omega))
      rw [← eq] at RK
      clear hk hd eq
      go_wp2_with (go_at_call 140; refine HU.out.mono ?_; rintro e1 w4 ⟨v, rfl, ⟨B, d, rfl, hd1, hr⟩, hbel⟩; have HQ := Lib.hid (show NatAt w4 (.slice B (len32 q) d) q from ⟨B, d, rfl, hd1, hr⟩); have HS3 := Lib.hid (HS2.out.below hbel); clear hbel hd1 hr)
      go_meet
      case rel => exact ⟨q, false, B, d, rfl, rfl, (show _ = _ by rw [← RK.out]; simp), hlq, HQ.out, HS3.out⟩
  case rest =>
    obtain ⟨q, up, B, d, rfl, rfl, HQU, hlq, HQ, HS3⟩ := hcut
    clear HS2 HN2 a0 a1 b0 b1 b2 b3 b4
    obtain ⟨m0, em0⟩ : ∃ m0, m0 = q + up.toNat := ⟨_, rfl⟩
    have HM0 : Hid (m0 = rKept n (tt - e) mo) := (show _ = _ by rw [em0]; exact HQU.out)
    have hlm0 : len32 m0 ≤ 20001 := by
      have h1 : len32 m0 ≤ len32 q + 1 := by
        rw [lt_len32, em0]
        have h := (lt_len32 q _).1 (Nat.le_refl _)
        have hp := p32 (len32 q)
        have h3 := p32_pos (len32 q)
        cases up <;> simp <;> omega
      omega
    go_upto_if 103 with (fail)
    go_cut [5] (fun v5 wc => ∃ (B : Option Addr) (d : Nat), v5 = .slice B (len32 m0) d ∧ Aside (NatAt wc (.slice B (len32 m0) d) m0) ∧ Aside (RdS w g h fr ex 2 neg A m c e mo wc))
    case first =>
      cases up with
      | false =>
        obtain rfl : m0 = q := by rw [em0]; simp
        go_wp2
        go_meet
        case rel => exact ⟨B, d, rfl, HQ, HS3⟩
      | true =>
        obtain rfl : m0 = q + 1 := by rw [em0]; simp
        have H1 := Lib.hid fun W => natOf_calls 1 W (by decide)
        have HP : Hid (∀ (W : World) (u : Value), NatAt W (.slice B (len32 q) d) q → NatAt W u 1 → Calls Try.prog 141 #[.slice B (len32 q) d, u] W fun e w' => NatEnd W (q + 1) e w') := fun W u h1 h2 => plus_calls W _ u q 1 h1 h2 (by omega) (by decide)
        clear em0
        go_wp2_with (first
          | (go_at_call 132; refine (H1.out _).mono ?_; rintro e1 w4 ⟨u, rfl, hu, hbel⟩; have HU := Lib.hid hu; have HQ4 := Lib.hid (HQ.out.below hbel); have HS4 := Lib.hid (HS3.out.below hbel); clear hu hbel)
          | (go_at_call 141; refine (HP.out _ u HQ4.out HU.out).mono ?_; rintro e1 w5 ⟨v, rfl, ⟨B2, d2, rfl, hd2, hr2⟩, hbel⟩; have HQ5 := Lib.hid (show NatAt w5 (.slice B2 (len32 (q + 1)) d2) (q + 1) from ⟨B2, d2, rfl, hd2, hr2⟩); have HS5 := Lib.hid (HS4.out.below hbel); clear hbel hd2 hr2))
        go_meet
        case rel => exact ⟨B2, d2, rfl, HQ5.out, HS5.out⟩
    case rest =>
      clear HQ HS3 HQU em0 hlq
      obtain ⟨B2, d2, rfl, HQ5, HS5⟩ := hcut
      obtain ⟨bm, ebm⟩ : ∃ bm, bm = bitlen m0 := ⟨_, rfl⟩
      have hbm : bm ≤ 700000 := by
        have h := (bitlen_lt m0 (32 * len32 m0)).2 ((lt_len32 m0 _).1 (Nat.le_refl _))
        omega
      have HBC : Hid (Calls Try.prog 137 #[.slice B2 (len32 m0) d2] wc.drew fun e' w' => e' = .returned (.int .i64 (bm : Int)) ∧ w' = wc.drew) := (show Calls _ _ _ _ _ by
        rw [ebm]
        exact (nbits_calls wc.drew _ m0 HQ5.out (by omega)).mono fun _ _ ⟨a, b⟩ => ⟨a, b.symm⟩)
      obtain ⟨⟨a0, a1⟩, ⟨b0, b1, b2, b3, b4⟩, _⟩ := HS5.out
      have EBM := Lib.hid ebm
      obtain ⟨lm, elm⟩ : ∃ lm, lm = len32 m0 := ⟨_, rfl⟩
      have ELM := Lib.hid elm
      rw [← elm] at HBC HQ5 hlm0 ⊢
      have Y2 : IntKind.i64.wrap ((fr : Int) + 1) = (fr : Int) + 1 := IntWalk.i64_in _ (by omega)
      clear ebm elm
      go_upto_region 23 with (fail)
      go_region_held3 (fun w' => w'.cell? ⟨g, 0, none⟩ = some (.int .i64 (fr : Int)) ∧ Below wc.heap.size wc w') (first | exact ⟨a0, (Below.refl _ _).drew⟩ | exact ⟨a0, ‹_›⟩) ((go_at_call 137; refine HBC.out.mono ?_; rintro e1 w2 ⟨rfl, rfl⟩))
      rename_i hH
      have HS6 := Lib.hid (HS5.out.below hH.2)
      have HQ6 := Lib.hid (HQ5.out.below hH.2)
      clear hH a0 a1 b0 b1 b2 b3 b4 HS5 HQ5 HBC Y2
      go_upto_if 112 with (fail)
      generalize wc.drew = w6 at HS6 HQ6 ⊢
      have BD : Hid (m0 ≤ 2 ^ (fr + 1)) := (show _ ≤ _ by
        rw [HM0.out, HTR.out]
        by_cases h : n = 0
        · rw [h]; unfold rKept; split <;> simp
        · exact (rKept_bd h mo).1)
      have P53 : 2 ^ (fr + 1) ≤ 9007199254740992 := by
        have : 2 ^ (fr + 1) ≤ 2 ^ 53 := Nat.pow_le_pow_right (by decide) (by omega)
        exact this
      have HTL : Hid (1 - (bias : Int) ≤ tt) := (show _ ≤ _ by have := HTT.out; omega)
      go_cut [5, 8] (fun v5 v8 wc => ∃ (m1 : Nat) (B : Option Addr) (d : Nat) (t1 : Int), v5 = .slice B (len32 m1) d ∧ v8 = .int .i64 t1 ∧ m1 < 9007199254740992 ∧ Hid (m1 < 2 ^ (fr + 1)) ∧ len32 m1 ≤ 20001 ∧ 1 - (bias : Int) ≤ t1 ∧ t1 ≤ 500001 ∧
        Hid (rRung fr bias top tt m0 = if m1 < 2 ^ fr then m1 else if (top : Int) ≤ t1 + (bias : Int) then top * 2 ^ fr else (t1 + (bias : Int)).toNat * 2 ^ fr + (m1 - 2 ^ fr)) ∧ Aside (NatAt wc (.slice B (len32 m1) d) m1) ∧ Aside (RdS w g h fr ex 2 neg A m c e mo wc))
      case first =>
        by_cases hbig : fr + 1 < bm
        · have hbz : (fr : Int) + 1 < (bm : Int) := by omega
          have EM0 : m0 = 2 ^ (fr + 1) := by
            have h1 := BD.out
            rcases Nat.lt_or_ge m0 (2 ^ (fr + 1)) with h | h
            · have := (bitlen_lt m0 (fr + 1)).2 h; have := EBM.out; omega
            · omega
          obtain ⟨m1, em1⟩ : ∃ m1, m1 = 2 ^ fr := ⟨_, rfl⟩
          have hm1 : m0 / 2 ^ 1 = m1 := by rw [EM0, Nat.pow_succ 2 fr, em1, Nat.pow_one, Nat.mul_div_cancel _ (by decide)]
          have hm01 : m1 < 2 ^ (fr + 1) := by rw [em1]; exact Nat.pow_lt_pow_right (by decide) (by omega)
          have hlm : len32 m1 ≤ 20001 := by
            have : len32 m1 ≤ len32 m0 := len32_mono (by rw [← hm1]; exact Nat.div_le_self _ _)
            have := ELM.out; omega
          have HD : Hid (Calls Try.prog 139 #[.slice B2 lm d2, .int .i64 1] w6 fun e w' => ∃ v rb, e = .returned (.tuple #[v, .bool rb]) ∧ NatAt w' v m1 ∧ Below w6.heap.size w6 w') := (show Calls _ _ _ _ _ by
            have hn := HQ6.out
            rw [ELM.out] at hn ⊢
            rw [← hm1]
            exact (down_calls w6 _ m0 1 hn (by have := ELM.out; omega) (by omega)).mono fun e w' ⟨v, he, hv, hb⟩ => ⟨v, _, he, hv, hb⟩)
          have RR : Hid (rRung fr bias top tt m0 = if m1 < 2 ^ fr then m1 else if (top : Int) ≤ tt + 1 + (bias : Int) then top * 2 ^ fr else (tt + 1 + (bias : Int)).toNat * 2 ^ fr + (m1 - 2 ^ fr)) := (show _ = _ by
            unfold rRung
            rw [if_pos (by have := EBM.out; omega), em1, if_neg (Nat.lt_irrefl _)]; simp)
          have HM01 := Lib.hid hm01
          have HL1 := Lib.hid hlm
          have hm1b : m1 < 9007199254740992 := by omega
          have HM1B := Lib.hid hm1b
          clear hbig EM0 em1 hm1 hm01 hlm hm1b
          go_wp2_with (go_at_call 139; refine HD.out.mono ?_; rintro e1 w7 ⟨v, rb, rfl, ⟨B3, d3, rfl, hd3, hr3⟩, hbel⟩; have HQ7 := Lib.hid (show NatAt w7 (.slice B3 (len32 m1) d3) m1 from ⟨B3, d3, rfl, hd3, hr3⟩); have HS7 := Lib.hid (HS6.out.below hbel); clear hbel hd3 hr3)
          go_meet
          case rel => exact ⟨m1, B3, d3, tt + 1, rfl, rfl, HM1B.out, HM01, HL1.out, by have := HTL.out; omega, by omega, RR, HQ7.out, HS7.out⟩
        · have hbz : ¬ (fr : Int) + 1 < (bm : Int) := by omega
          have HM01 : Hid (m0 < 2 ^ (fr + 1)) := (bitlen_lt m0 (fr + 1)).1 (by have := EBM.out; omega)
          have RR : Hid (rRung fr bias top tt m0 = if m0 < 2 ^ fr then m0 else if (top : Int) ≤ tt + (bias : Int) then top * 2 ^ fr else (tt + (bias : Int)).toNat * 2 ^ fr + (m0 - 2 ^ fr)) := (show _ = _ by
            unfold rRung
            rw [if_neg (by have := EBM.out; omega)])
          have HM1B : Hid (m0 < 9007199254740992) := (show _ < _ by have := HM01.out; omega)
          clear hbig
          go_wp2
          go_meet
          case rel => exact ⟨m0, B2, d2, tt, by rw [← ELM.out], rfl, HM1B.out, HM01, by rw [← ELM.out]; exact hlm0, HTL.out, by omega, RR, (by rw [← ELM.out]; exact HQ6.out), HS6.out⟩
      case rest =>
        clear HQ6 HS6 P53 BD
        obtain ⟨m1, B3, d3, t1, rfl, rfl, hm1b, HM01, hlm1, ht1, ht2, RR, HQ7, HS7⟩ := hcut
        have HLOW : Hid (Calls Try.prog 142 #[.slice B3 (len32 m1) d3] wc fun e w' => e = .returned (.int .u64 (m1 : Int)) ∧ wc = w') := (show Calls _ _ _ _ _ by
          have h := low_calls wc _ m1 HQ7.out (by omega)
          rw [Nat.mod_eq_of_lt (by omega)] at h
          exact h)
        obtain ⟨⟨a0, a1⟩, ⟨b0, b1, b2, b3, b4⟩, _⟩ := HS7.out
        -- the parts of the word
        obtain ⟨P, eP⟩ : ∃ P, P = 2 ^ fr := ⟨_, rfl⟩
        obtain ⟨sgn, esg⟩ : ∃ s, s = rSign fr ex neg := ⟨_, rfl⟩
        obtain ⟨se, ese⟩ : ∃ s : Nat, s = 2 ^ (fr + ex) := ⟨_, rfl⟩
        have FF : 8388608 ≤ P ∧ P ≤ 4503599627370496 ∧ IntKind.u64.wrap (1 * 2 ^ fr) = (P : Int) ∧ IntKind.u64.wrap (2 ^ fr) = (P : Int) ∧ se ≤ 9223372036854775808 ∧ (top + 1) * P = se := by
          rcases HF.out with ⟨rfl, rfl, rfl, rfl⟩ | ⟨rfl, rfl, rfl, rfl⟩
          all_goals
            subst eP ese
            decide +kernel
        obtain ⟨hP1, hP2, F1, F2, hse, htP⟩ := FF
        have hsgn : sgn ≤ se := by rw [esg, ese]; unfold rSign; split <;> omega
        have hsg2 : sgn = 0 ∨ sgn = se := by rw [esg, ese]; unfold rSign; cases neg <;> simp
        have hsm : ∀ x, x < se → sgn ||| x = sgn + x := fun x hx => by
          rcases hsg2 with h | h
          · rw [h]; simp
          · have h1 := or_low (fr + ex) 1 x (by rw [← ese]; exact hx)
            rw [Nat.one_mul, ← ese] at h1
            rw [h]; exact h1
        have HSGN : Hid (∀ W, Calls Try.prog 136 #[.agg #[.int .i64 (fr : Int), .int .i64 (ex : Int)], .bool neg] W fun e w' => Gives W (.int .u64 (sgn : Int)) e w') := fun W => by rw [esg]; exact HSG.out neg W
        have hm1P : m1 < 2 * P := by have := HM01.out; rw [Nat.pow_succ, ← eP] at this; omega
        have htP2 : top * P + P = se := by rw [← htP, Nat.add_mul, Nat.one_mul]
        have hPb : 2 * P ≤ se := by
          have : 255 * P ≤ top * P := Nat.mul_le_mul_right _ htop2
          omega
        have ESG := Lib.hid esg
        have RR2 : Hid (rRung fr bias top tt m0 = if m1 < P then m1 else if (top : Int) ≤ t1 + (bias : Int) then top * P else (t1 + (bias : Int)).toNat * P + (m1 - P)) := (show _ = _ by rw [eP]; exact RR.out)
        have EP := Lib.hid eP
        have htP3 : (top + 1) * P = se := htP
        have hsg3 := hsg2
        clear RR HSG esg ese eP htP hsg2
        by_cases hm : m1 < P
        · have hmz : (m1 : Int) < (P : Int) := by omega
          have O1 : bits .or .u64 (sgn : Int) (m1 : Int) = ((sgn + m1 : Nat) : Int) := by rw [u_or sgn m1 (by omega) (by omega), hsm m1 (by omega)]
          obtain ⟨r, er⟩ : ∃ r, r = sgn + m1 := ⟨_, rfl⟩
          rw [← er] at O1
          have ER : Hid (rSign fr ex neg + rRung fr bias top tt (rKept n (tt - e) mo) = r) := (show _ = _ by rw [← HM0.out, RR2.out, if_pos hm, ← ESG.out, er])
          clear hsm er hm hsg3 htP3
          go_wp2_with (first
            | (go_at_call 142; refine HLOW.out.mono ?_; rintro e1 w8 ⟨rfl, rfl⟩)
            | (go_at_call 136; refine (HSGN.out _).mono ?_; rintro e1 w9 ⟨rfl, hbel⟩; have HB9 := Lib.hid (ujoin HS7.out.2.2 hbel); clear hbel))
          go_ret
          exact ⟨ret_int (a := (r : Int)) (by rw [ER.out]), HB9.out⟩
        · have hmz : ¬ (m1 : Int) < (P : Int) := by omega
          obtain ⟨xp, hxp⟩ := Int.eq_ofNat_of_zero_le (by omega : 0 ≤ t1 + (bias : Int))
          have X1 : IntKind.i64.wrap (t1 + (bias : Int)) = (xp : Int) := by rw [hxp]; exact IntWalk.i64_in _ (by omega)
          have hxb : xp ≤ 600000 := by omega
          have X2 := u_w64 xp (by omega)
          by_cases ht : top ≤ xp
          · have htz : (top : Int) ≤ (xp : Int) := by omega
            obtain ⟨tp, etp⟩ : ∃ x, x = top * P := ⟨_, rfl⟩
            have O2 : IntKind.u64.wrap ((top : Int) * 2 ^ fr) = (tp : Int) := by
              rw [show (top : Int) * 2 ^ fr = (tp : Int) by rw [etp, EP.out]; push_cast; rfl, u_w64 tp (by omega)]
            have O1 : bits .or .u64 (sgn : Int) (tp : Int) = ((sgn + tp : Nat) : Int) := by rw [u_or sgn tp (by omega) (by omega), hsm tp (by omega)]
            obtain ⟨r, er⟩ : ∃ r, r = sgn + tp := ⟨_, rfl⟩
            rw [← er] at O1
            have ER : Hid (rSign fr ex neg + rRung fr bias top tt (rKept n (tt - e) mo) = r) := (show _ = _ by rw [← HM0.out, RR2.out, if_neg hm, if_pos (by omega), ← ESG.out, er, etp])
            clear hsm er hm etp hxp ht htP2 hsg3 htP3
            go_upto_region 31 with (first
              | (go_at_call 142; refine HLOW.out.mono ?_; rintro e1 w8 ⟨rfl, rfl⟩)
              | (go_at_call 133; refine (HBI.out _).mono ?_; rintro e1 w9 ⟨rfl, hbel⟩; have HS9 := Lib.hid (HS7.out.below hbel); obtain ⟨⟨a2, a3⟩, ⟨d0, d1, d2', d3', d4⟩, _⟩ := HS9.out; clear hbel)
              | (go_at_call 131; refine (HT.out _).mono ?_; rintro e1 w10 ⟨rfl, hbel⟩; have HS10 := Lib.hid (HS9.out.below hbel); obtain ⟨⟨a4, a5⟩, ⟨f0, f1, f2, f3, f4⟩, f5⟩ := HS10.out; clear hbel))
            go_region_held3 (fun w' => w'.cell? ⟨g, 0, none⟩ = some (.int .i64 (fr : Int)) ∧ w'.cell? ⟨g, 1, none⟩ = some (.int .i64 (ex : Int)) ∧ w'.cell? ⟨h, 1, none⟩ = some (.bool neg) ∧ Below w.heap.size w w') (first | exact ⟨a4, a5, f1, f5.drew⟩ | exact keep4 hbel ‹_›) (first
              | (go_at_call 131; refine (HT.out _).mono ?_; rintro e1 w10 ⟨rfl, hbel⟩)
              | (go_at_call 136; refine (HSGN.out _).mono ?_; rintro e1 w9 ⟨rfl, hbel⟩))
            rename_i hH
            go_wp2
            go_ret
            exact ⟨ret_int (a := (r : Int)) (by rw [ER.out]), hH.2.2.2⟩
          · have htz : ¬ (top : Int) ≤ (xp : Int) := by omega
            obtain ⟨xP, exP⟩ : ∃ x, x = xp * P := ⟨_, rfl⟩
            obtain ⟨P1, eP1⟩ : ∃ x, x = P - 1 := ⟨_, rfl⟩
            obtain ⟨lo, elo⟩ : ∃ x, x = m1 - P := ⟨_, rfl⟩
            have hxP : xP + P ≤ top * P := by
              have : (xp + 1) * P ≤ top * P := Nat.mul_le_mul_right _ (by omega)
              rw [Nat.add_mul, Nat.one_mul] at this; omega
            have O2 : IntKind.u64.wrap ((xp : Int) * 2 ^ fr) = (xP : Int) := by
              rw [show (xp : Int) * 2 ^ fr = (xP : Int) by rw [exP, EP.out]; push_cast; rfl, u_w64 xP (by omega)]
            obtain ⟨s1, es1⟩ : ∃ x, x = sgn + xP := ⟨_, rfl⟩
            have O1 : bits .or .u64 (sgn : Int) (xP : Int) = (s1 : Int) := by rw [u_or sgn xP (by omega) (by omega), hsm xP (by omega), es1]
            have O3 : IntKind.u64.wrap ((P : Int) - 1) = (P1 : Int) := by rw [show (P : Int) - 1 = (P1 : Int) by omega, u_w64 _ (by omega)]
            have O4 : bits .and .u64 (m1 : Int) (P1 : Int) = (lo : Int) := by
              rw [u_and m1 P1 (by omega) (by omega), eP1, EP.out, Nat.and_two_pow_sub_one_eq_mod, ← EP.out, elo]
              congr 1
              rw [Nat.mod_eq_sub_mod (by omega), Nat.mod_eq_of_lt (by omega)]
            have O5 : bits .or .u64 (s1 : Int) (lo : Int) = ((s1 + lo : Nat) : Int) := by
              rw [u_or s1 lo (by omega) (by omega)]
              obtain ⟨a, ha⟩ : ∃ a, s1 = a * 2 ^ fr := by
                rcases hsg3 with h | h
                · exact ⟨xp, by rw [es1, h, exP, EP.out, Nat.zero_add]⟩
                · exact ⟨top + 1 + xp, by rw [es1, h, exP, ← htP3, EP.out, ← Nat.add_mul]⟩
              rw [ha, or_low fr a lo (by rw [← EP.out]; omega)]
            obtain ⟨r, er⟩ : ∃ r, r = s1 + lo := ⟨_, rfl⟩
            rw [← er] at O5
            have ER : Hid (rSign fr ex neg + rRung fr bias top tt (rKept n (tt - e) mo) = r) := (show _ = _ by rw [← HM0.out, RR2.out, if_neg hm, if_neg (by omega), ← ESG.out, er, es1, elo, hxp, Int.toNat_natCast, exP]; omega)
            clear hsm er hm hxp ht htP2 elo es1 eP1 exP hsg3 htP3
            go_upto_region 32 with (first
              | (go_at_call 142; refine HLOW.out.mono ?_; rintro e1 w8 ⟨rfl, rfl⟩)
              | (go_at_call 133; refine (HBI.out _).mono ?_; rintro e1 w9 ⟨rfl, hbel⟩; have HS9 := Lib.hid (HS7.out.below hbel); obtain ⟨⟨a2, a3⟩, ⟨d0, d1, d2', d3', d4⟩, _⟩ := HS9.out; clear hbel)
              | (go_at_call 131; refine (HT.out _).mono ?_; rintro e1 w10 ⟨rfl, hbel⟩; have HS10 := Lib.hid (HS9.out.below hbel); obtain ⟨⟨a4, a5⟩, ⟨f0, f1, f2, f3, f4⟩, f5⟩ := HS10.out; clear hbel))
            go_region_held3 (fun w' => w'.cell? ⟨g, 0, none⟩ = some (.int .i64 (fr : Int)) ∧ w'.cell? ⟨g, 1, none⟩ = some (.int .i64 (ex : Int)) ∧ w'.cell? ⟨h, 1, none⟩ = some (.bool neg) ∧ Below w.heap.size w w') (first | exact ⟨a4, a5, f1, f5.drew⟩ | exact keep4 hbel ‹_›) ((go_at_call 136; refine (HSGN.out _).mono ?_; rintro e1 w9 ⟨rfl, hbel⟩))
            rename_i hH
            go_wp2
            go_ret
            exact ⟨ret_int (a := (r : Int)) (by rw [ER.out]), hH.2.2.2⟩
end Go.Proofs.Ytdcpeeolfgohmaa
