/- For SumsAcc: what the reference's division rounds to; long division, digit by digit. halideref2.DivNum, of a number that isn't 0 by a whole number that isn't 0: the walk. What the reference's Over tells of a number that isn't 0. halidelaw3.holds: an accumulator tells what it must. -/
import Derived.Test.YtmeifciagepmpaaLgPW
import Derived.Test.YtmeifciagepmpaaWhPQ
namespace Go.Proofs.Ytmeifciagepmpaa
open Go.RowKit Go.Proofs.YtmeifciagepmpaaW.PrintWords
set_option linter.unusedSimpArgs false
set_option linter.unusedVariables false

theorem bitlen_finer {n t r : Nat} (hn : n ≠ 0) (hr : r < 2 ^ t) : bitlen (n * 2 ^ t + r) = bitlen n + t := by
  obtain ⟨h1, h2, h3⟩ := bitlen_spec hn
  have u1 : bitlen (n * 2 ^ t + r) ≤ bitlen n + t := by
    rw [bitlen_lt, Nat.pow_add]
    have : (n + 1) * 2 ^ t ≤ 2 ^ bitlen n * 2 ^ t := Nat.mul_le_mul_right _ h2
    rw [Nat.add_mul] at this
    omega
  have u2 : ¬ bitlen (n * 2 ^ t + r) ≤ bitlen n + t - 1 := by
    rw [bitlen_lt, show bitlen n + t - 1 = (bitlen n - 1) + t by omega, Nat.pow_add]
    have := Nat.mul_le_mul_right (2 ^ t) h1
    omega
  omega
/-- Rounding asks for what lies below the kept digits only whether it is nought. -/
theorem refRound_finer (fr ex bias top : Nat) (neg : Bool) (n r t : Nat) (e : Int) (more more2 : Bool) (h : fr + 2 ≤ bitlen n) (hr : r < 2 ^ t) (hm : more = true ↔ (r ≠ 0 ∨ more2 = true)) :
    refRound fr ex bias top neg n e more = refRound fr ex bias top neg (n * 2 ^ t + r) (e - (t : Int)) more2 := by
  have hn : n ≠ 0 := by rintro rfl; simp [bitlen] at h
  have hb := bitlen_finer hn hr
  have ht : rTo fr bias (n * 2 ^ t + r) (e - (t : Int)) = rTo fr bias n e := by unfold rTo; rw [hb]; omega
  unfold refRound
  rw [ht]
  have hd : 1 ≤ rTo fr bias n e - e := by unfold rTo; omega
  obtain ⟨k, hk⟩ := Int.eq_ofNat_of_zero_le (by omega : 0 ≤ rTo fr bias n e - e - 1)
  rw [show rTo fr bias n e - e = ((k + 1 : Nat) : Int) by omega, show rTo fr bias n e - (e - (t : Int)) = ((k + t + 1 : Nat) : Int) by omega]
  congr 2
  rw [rKept_succ, rKept_succ]
  have hP := Nat.two_pow_pos t
  have d0 : (n * 2 ^ t + r) / 2 ^ t = n := by rw [Nat.mul_comm, Nat.mul_add_div hP, Nat.div_eq_of_lt hr, Nat.add_zero]
  have e1 : (n * 2 ^ t + r) / 2 ^ (k + t + 1) = n / 2 ^ (k + 1) := by
    rw [show k + t + 1 = t + (k + 1) by omega, Nat.pow_add, ← Nat.div_div_eq_div_mul, d0]
  have e2 : (n * 2 ^ t + r) / 2 ^ (k + t) = n / 2 ^ k := by
    rw [show k + t = t + k by omega, Nat.pow_add, ← Nat.div_div_eq_div_mul, d0]
  have e3 : (n * 2 ^ t + r) % 2 ^ (k + t) = n % 2 ^ k * 2 ^ t + r := by
    rw [show k + t = t + k by omega, Nat.pow_add, Nat.mod_mul, d0, Nat.mul_comm n, Nat.mul_add_mod, Nat.mod_eq_of_lt hr, Nat.mul_comm (2 ^ t), Nat.add_comm]
  rw [e1, e2, e3]
  have hiff : (more = true ∨ n % 2 ^ k ≠ 0 ∨ n / 2 ^ (k + 1) % 2 = 1) ↔ (more2 = true ∨ n % 2 ^ k * 2 ^ t + r ≠ 0 ∨ n / 2 ^ (k + 1) % 2 = 1) := by
    rw [hm]
    have hz : n % 2 ^ k * 2 ^ t + r ≠ 0 ↔ n % 2 ^ k ≠ 0 ∨ r ≠ 0 := by
      constructor
      · intro h1
        by_cases h2 : n % 2 ^ k = 0
        · right; rw [h2, Nat.zero_mul] at h1; omega
        · exact .inl h2
      · intro h1
        rcases h1 with h1 | h1
        · have := Nat.mul_pos (Nat.pos_of_ne_zero h1) hP; omega
        · omega
    rw [hz]
    constructor
    · rintro ((h1 | h1) | h1 | h1)
      · exact .inr (.inl (.inr h1))
      · exact .inl h1
      · exact .inr (.inl (.inl h1))
      · exact .inr (.inr h1)
    · rintro (h1 | (h1 | h1) | h1)
      · exact .inl (.inr h1)
      · exact .inr (.inl h1)
      · exact .inl (.inl h1)
      · exact .inr (.inr h1)
  have hcond : (n / 2 ^ k % 2 = 1 ∧ (more = true ∨ n % 2 ^ k ≠ 0 ∨ n / 2 ^ (k + 1) % 2 = 1)) ↔ (n / 2 ^ k % 2 = 1 ∧ (more2 = true ∨ n % 2 ^ k * 2 ^ t + r ≠ 0 ∨ n / 2 ^ (k + 1) % 2 = 1)) := and_congr_right fun _ => hiff
  by_cases hc : n / 2 ^ k % 2 = 1 ∧ (more = true ∨ n % 2 ^ k ≠ 0 ∨ n / 2 ^ (k + 1) % 2 = 1)
  · rw [if_pos hc, if_pos (hcond.1 hc)]
  · rw [if_neg hc, if_neg (fun q => hc (hcond.2 q))]
theorem div_finer (X d t : Nat) (hd : 0 < d) : ∃ r, r < 2 ^ t ∧ X * 2 ^ t / d = X / d * 2 ^ t + r ∧ (X % d ≠ 0 ↔ (r ≠ 0 ∨ X * 2 ^ t % d ≠ 0)) := by
  have hx := Nat.div_add_mod X d
  have hm := Nat.mod_lt X hd
  have hP := Nat.two_pow_pos t
  have e : X * 2 ^ t = d * (X / d * 2 ^ t) + X % d * 2 ^ t := by
    have h := congrArg (· * 2 ^ t) hx
    simp only [Nat.add_mul, Nat.mul_assoc] at h
    exact h.symm
  refine ⟨X % d * 2 ^ t / d, ?_, ?_, ?_⟩
  · rw [Nat.div_lt_iff_lt_mul hd, Nat.mul_comm (2 ^ t)]
    exact Nat.mul_lt_mul_of_pos_right hm hP
  · rw [e, Nat.mul_add_div hd]
  · rw [e, Nat.mul_add_mod]
    constructor
    · intro h
      by_cases h1 : X % d * 2 ^ t / d = 0
      · right
        intro h2
        have h3 := Nat.div_add_mod (X % d * 2 ^ t) d
        rw [h1, h2, Nat.mul_zero] at h3
        have := Nat.mul_pos (Nat.pos_of_ne_zero h) hP
        omega
      · exact .inl h1
    · rintro (h | h) h0
      · rw [h0, Nat.zero_mul, Nat.zero_div] at h; exact h rfl
      · rw [h0, Nat.zero_mul, Nat.zero_mod] at h; exact h rfl
/-- What the reference's quotient of m 2^e by d rounds to. -/
theorem exR_div (m d shift : Nat) (e : Int) (hd : 0 < d) (he : -149 ≤ e) (hs : (shift : Int) ≤ e + 245) (hq : 25 ≤ bitlen (m * 2 ^ shift / d)) :
    exR (m * 2 ^ (e + 149).toNat) d = refRound 23 8 150 255 false (m * 2 ^ shift / d) (e - (shift : Int)) (decide (m * 2 ^ shift % d ≠ 0)) := by
  obtain ⟨t, et⟩ : ∃ t : Nat, (t : Int) = e + 245 - (shift : Int) := ⟨(e + 245 - (shift : Int)).toNat, by omega⟩
  have e1 : m * 2 ^ (e + 149).toNat * 2 ^ 96 = m * 2 ^ shift * 2 ^ t := by
    rw [Nat.mul_assoc, Nat.mul_assoc, ← Nat.pow_add, ← Nat.pow_add]
    congr 2
    omega
  obtain ⟨r, h1, h2, h3⟩ := div_finer (m * 2 ^ shift) d t hd
  have hn : m * 2 ^ shift / d ≠ 0 := by intro h; rw [h] at hq; simp [bitlen] at hq
  have hf := refRound_finer 23 8 150 255 false (m * 2 ^ shift / d) r t (e - (shift : Int)) (decide (m * 2 ^ shift % d ≠ 0)) (decide (m * 2 ^ shift * 2 ^ t % d ≠ 0)) hq h1 (by rw [decide_eq_true_iff, decide_eq_true_iff]; exact h3)
  rw [hf]
  unfold exR
  rw [e1, h2, if_neg]
  · rw [show e - (shift : Int) - (t : Int) = -245 by omega]
  · have := Nat.mul_pos (Nat.pos_of_ne_zero hn) (Nat.two_pow_pos t)
    omega
/-- One digit of the long division: A = q b + rest, rest below b 2^(i + 1). -/
theorem long_step {A b q rest i : Nat} (h1 : A = q * b + rest) (h2 : rest < b * 2 ^ (i + 1)) :
    (b * 2 ^ i ≤ rest → A = (q + 2 ^ i) * b + (rest - b * 2 ^ i) ∧ rest - b * 2 ^ i < b * 2 ^ i) ∧ (¬ b * 2 ^ i ≤ rest → rest < b * 2 ^ i) := by
  rw [Nat.pow_succ, ← Nat.mul_assoc] at h2
  refine ⟨fun h => ⟨?_, by omega⟩, fun h => by omega⟩
  rw [Nat.add_mul, Nat.mul_comm (2 ^ i) b]
  omega
theorem long_done {A b q rest : Nat} (hb : 0 < b) (h1 : A = q * b + rest) (h2 : rest < b) : q = A / b ∧ rest = A % b := by
  rw [h1, Nat.mul_comm q b]
  exact ⟨by rw [Nat.mul_add_div hb, Nat.div_eq_of_lt h2, Nat.add_zero], by rw [Nat.mul_add_mod, Nat.mod_eq_of_lt h2]⟩

/-- The quotient as the reference hands it over. -/
def DivEnd (w : World) (s : Bool) (q : Nat) (e : Int) (mo : Bool) (en : Ending) (w' : World) : Prop := ∃ A c, en = .returned (numV 2 s A (len32 q) c e mo) ∧ NatAt w' (.slice A (len32 q) c) q ∧ Below w.heap.size w w'
set_option maxHeartbeats 1600000 in
set_option maxRecDepth 100000 in
theorem divNum_calls (w : World) (s : Bool) (m k : Nat) (e : Int) (A1 : Option Addr) (c1 : Nat) (A2 : Option Addr) (c2 : Nat) (hn1 : NatAt w (.slice A1 (len32 m) c1) m) (hn2 : NatAt w (.slice A2 (len32 k) c2) k) (hm : m ≠ 0) (hk : k ≠ 0) (hml : len32 m ≤ 10000) (hkl : k < 4294967296) (he : -100000 ≤ e ∧ e ≤ 100000) (sh : Nat) (hsh : (sh : Int) = 60 + max ((bitlen k : Int) - (bitlen m : Int)) 0) :
    Calls Try.prog 96 #[numV 2 s A1 (len32 m) c1 e false, numV 2 false A2 (len32 k) c2 0 false] w fun en w' => DivEnd w s (m * 2 ^ sh / k) (e - (sh : Int)) (decide (m * 2 ^ sh % k ≠ 0)) en w' := by
  have HZA : Hid (∀ W, Below w.heap.size w W → Calls Try.prog 93 #[numV 2 s A1 (len32 m) c1 e false] W fun e' w' => Gives W (.bool false) e' w') := (show ∀ W, _ → _ from fun W hb => by
    have := zero_calls (.number s m e) _ W (show NumAt W _ _ from ⟨A1, c1, rfl, hn1.below hb⟩)
    rw [show isZ (.number s m e) = false by show (m == 0) = false; rw [beq_eq_false_iff_ne]; exact hm] at this
    exact this)
  have HZB : Hid (∀ W, Below w.heap.size w W → Calls Try.prog 93 #[numV 2 false A2 (len32 k) c2 0 false] W fun e' w' => Gives W (.bool false) e' w') := (show ∀ W, _ → _ from fun W hb => by
    have := zero_calls (.number false k 0) _ W (show NumAt W _ _ from ⟨A2, c2, rfl, hn2.below hb⟩)
    rw [show isZ (.number false k 0) = false by show (k == 0) = false; rw [beq_eq_false_iff_ne]; exact hk] at this
    exact this)
  obtain ⟨mo, emo⟩ : ∃ b : Bool, b = decide (m * 2 ^ sh % k ≠ 0) := ⟨_, rfl⟩
  rw [← emo]
  have EMO := Lib.hid emo
  clear emo
  have HN1 := Lib.hid hn1
  have HN2 := Lib.hid hn2
  obtain ⟨n1, en1⟩ : ∃ n, n = len32 m := ⟨_, rfl⟩
  obtain ⟨n2, en2⟩ : ∃ n, n = len32 k := ⟨_, rfl⟩
  have EN1 := Lib.hid en1
  have EN2 := Lib.hid en2
  rw [← en1] at HZA ⊢
  rw [← en2] at HZB ⊢
  clear hn1 hn2 en1 en2
  unfold numV at HZA HZB ⊢
  have HS0 := TwoS.start w 2 s A1 n1 c1 e false 2 false A2 n2 c2 0 false
  obtain ⟨g1, eg1⟩ : ∃ g, g = w.heap.size := ⟨_, rfl⟩
  obtain ⟨g2, eg2⟩ : ∃ g, g = w.heap.size + 1 := ⟨_, rfl⟩
  obtain ⟨h3, eg3⟩ : ∃ g, g = w.heap.size + 1 + 1 := ⟨_, rfl⟩
  rw [← eg3, ← eg2, ← eg1] at HS0
  have EG1 := Lib.hid eg1
  have EG2 := Lib.hid eg2
  have EG3 := Lib.hid eg3
  clear eg1 eg2 eg3
  go_enter Try.func96, Try.ntmps96
  go_upto_region 1 with (fail)
  rw [← EG3.out, ← EG2.out, ← EG1.out]
  unfold zeroNum at HS0
  generalize ((w.alloc (.cells #[.int .i64 2, .bool s, .slice A1 n1 c1, .int .i64 e, .bool false] 62)).alloc (.cells #[.int .i64 2, .bool false, .slice A2 n2 c2, .int .i64 0, .bool false] 62)).alloc (.cells #[.int .i64 0, .bool false, .slice none 0 0, .int .i64 0, .bool false] 62) = w0 at HS0 ⊢
  have HS := Lib.hid HS0
  obtain ⟨x0, x1, x2, x3, x4⟩ := HS.out.x
  obtain ⟨y0, y1, y2, y3, y4⟩ := HS.out.y
  clear HS0
  go_upto_region 8 with (first
    | (go_at_call 93; (with_reducible refine (HZA.out _ HS.out.be).mono ?_); rintro e1 w3 ⟨rfl, hbel⟩; have HS9 := Lib.hid (HS.out.below hbel); clear HS x0 x1 x2 x3 x4 y0 y1 y2 y3 y4; have HS := HS9; clear HS9; obtain ⟨x0, x1, x2, x3, x4⟩ := HS.out.x; obtain ⟨y0, y1, y2, y3, y4⟩ := HS.out.y; clear hbel)
    | (go_at_call 93; (with_reducible refine (HZB.out _ HS.out.be).mono ?_); rintro e1 w3 ⟨rfl, hbel⟩; have HS9 := Lib.hid (HS.out.below hbel); clear HS x0 x1 x2 x3 x4 y0 y1 y2 y3 y4; have HS := HS9; clear HS9; obtain ⟨x0, x1, x2, x3, x4⟩ := HS.out.x; obtain ⟨y0, y1, y2, y3, y4⟩ := HS.out.y; clear hbel))
  have hnat1 : NatAt w3 (.slice A1 n1 c1) m := by have := HN1.out.below HS.out.be; rw [← EN1.out] at this; exact this
  have hnat2 : NatAt w3 (.slice A2 n2 c2) k := by have := HN2.out.below HS.out.be; rw [← EN2.out] at this; exact this
  have hkl2 : len32 k ≤ 10000 := small_lt (m := 2) (Nat.lt_of_lt_of_le hkl (by decide)) (by decide)
  have hbk : bitlen k ≤ 32 := bitlen_small (Nat.lt_of_lt_of_le hkl (by decide))
  have hbm : bitlen m ≤ 320000 := by
    have h1 := (bitlen_lt m (32 * 10000)).2 (Nat.lt_of_lt_of_le ((lt_len32 m 10000).1 hml) (Nat.le_refl _))
    omega
  have HM := Lib.hid hm
  have HK := Lib.hid hk
  obtain ⟨bm, ebm⟩ : ∃ b, b = bitlen m := ⟨_, rfl⟩
  obtain ⟨bk, ebk⟩ : ∃ b, b = bitlen k := ⟨_, rfl⟩
  have HB1 := Lib.hid fun q => nbits_calls (w3.drewN q) (.slice A1 n1 c1) m (show NatAt (w3.drewN q) _ _ from hnat1) (by omega)
  have HB2 := Lib.hid fun q => nbits_calls (w3.drewN q) (.slice A2 n2 c2) k (show NatAt (w3.drewN q) _ _ from hnat2) (by omega)
  rw [← ebm] at HB1 hsh hbm
  rw [← ebk] at HB2 hsh hbk
  have EBM := Lib.hid ebm
  have EBK := Lib.hid ebk
  have W1 : IntKind.i64.wrap ((bk : Int) - (bm : Int)) = (bk : Int) - (bm : Int) := IntWalk.i64_in _ (by omega)
  have W2 : IntKind.i64.wrap (60 + max ((bk : Int) - (bm : Int)) 0) = (sh : Int) := by rw [IntWalk.i64_in _ (by omega)]; omega
  have HSH := Lib.hid hsh
  clear ebm ebk hsh hm hk hnat1 hnat2
  go_quiet ((first
    | (go_at_call 78; with_reducible exact Calls.quiet_of_same ((HB1.out _).mono fun _ _ h => ⟨h.1, h.2.symm⟩))
    | (go_at_call 78; with_reducible exact Calls.quiet_of_same ((HB2.out _).mono fun _ _ h => ⟨h.1, h.2.symm⟩))))
  obtain ⟨X, eX⟩ : ∃ x, x = m * 2 ^ sh := ⟨_, rfl⟩
  have hsl : sh ≤ 1000 := by have := HSH.out; omega
  have HUP : Hid (∀ W, Below w.heap.size w W → Calls Try.prog 81 #[.slice A1 n1 c1, .int .i64 (sh : Int)] W fun e' w' => NatEnd W X e' w') := (show ∀ W, _ → _ from fun W hb => by
    have h1 := HN1.out.below hb
    rw [← EN1.out] at h1
    rw [eX]
    exact up_calls W _ m sh h1 (by omega) (by omega))
  have hXl : len32 X ≤ 20000 := by rw [eX]; have := len_up (a := m) (n := sh); omega
  have hbX : bitlen X = bm + sh := by rw [eX, bitlen_scale HM.out, EBM.out]
  have EX := Lib.hid eX
  clear eX
  go_upto_region 11 with (go_at_call 81; refine (HUP.out _ (show Below w.heap.size w _ from pw_below_drewN HS.out.be _)).mono ?_; rintro e1 w4 ⟨vX, rfl, hX, hbel⟩; have HX := Lib.hid hX; have HS4 := Lib.hid (TwoS.below (show TwoS w g1 g2 h3 2 s A1 n1 c1 e false 2 false A2 n2 c2 0 false (w3.drewN _) from ⟨HS.out.x, HS.out.y, HS.out.z, pw_below_drewN HS.out.be _, HS.out.lo⟩) hbel); obtain ⟨x0, x1, x2, x3, x4⟩ := HS4.out.x; obtain ⟨y0, y1, y2, y3, y4⟩ := HS4.out.y; clear hX hbel)
  have hnat2 : NatAt w4 (.slice A2 n2 c2) k := by have := HN2.out.below HS4.out.be; rw [← EN2.out] at this; exact this
  obtain ⟨bX, ebX⟩ : ∃ b, b = bitlen X := ⟨_, rfl⟩
  have HC1 := Lib.hid fun q => nbits_calls (w4.drewN q) vX X (show NatAt (w4.drewN q) _ _ from HX.out) (by omega)
  have HC2 := Lib.hid fun q => nbits_calls (w4.drewN q) (.slice A2 n2 c2) k (show NatAt (w4.drewN q) _ _ from hnat2) (by omega)
  rw [← ebX] at HC1 hbX
  rw [← EBK.out] at HC2
  obtain ⟨j0, ej0⟩ : ∃ j, j = bX - bk + 1 := ⟨_, rfl⟩
  have hXj : X < k * 2 ^ j0 := by
    have hX0 : X ≠ 0 := by rw [EX.out]; exact Nat.mul_ne_zero HM.out (Nat.ne_of_gt (Nat.two_pow_pos _))
    obtain ⟨-, q2, -⟩ := bitlen_spec hX0
    obtain ⟨r1, -, r3⟩ := bitlen_spec HK.out
    rw [← ebX] at q2
    rw [← EBK.out] at r1 r3
    have h := HSH.out
    have h2 := Nat.mul_le_mul_right (2 ^ j0) r1
    rw [← Nat.pow_add, show bk - 1 + j0 = bX by omega] at h2
    omega
  have hbig : 24 + bk ≤ bX := by have h := HSH.out; omega
  have W3 : IntKind.i64.wrap ((bX : Int) - (bk : Int)) = (j0 : Int) - 1 := by rw [IntWalk.i64_in _ (by omega)]; omega
  have HXJ := Lib.hid hXj
  have hj0 : j0 ≤ 400000 := by omega
  clear hnat2 ebX ej0 hXj W1 W2 hbm hbX hbig
  go_quiet ((first
    | (go_at_call 78; with_reducible exact Calls.quiet_of_same ((HC1.out _).mono fun _ _ h => ⟨h.1, h.2.symm⟩))
    | (go_at_call 78; with_reducible exact Calls.quiet_of_same ((HC2.out _).mono fun _ _ h => ⟨h.1, h.2.symm⟩))))
  clear HC1 HC2 HZA HZB HB1 HB2 x0 x1 x2 x3 x4 y0 y1 y2 y3 y4 HUP W3 HS
  go_wp2
  go_loopg [7, 8, 9, 10] j0 (fun kq v7 v8 v9 v10 wr => ∃ j R Q : Nat, v9 = .int .i64 ((j : Int) - 1) ∧ j ≤ j0 ∧ j ≤ kq ∧ Hid (X = Q * k + R ∧ R < k * 2 ^ j) ∧ Aside (NatAt wr v7 R) ∧ Aside (NatAt wr v8 Q) ∧ Aside (TwoS w g1 g2 h3 2 s A1 n1 c1 e false 2 false A2 n2 c2 0 false wr))
  case atStart => exact ⟨j0, X, 0, rfl, Nat.le_refl _, Nat.le_refl _, ⟨by omega, HXJ.out⟩, HX.out, NatAt.zero _ _ _, ⟨HS4.out.x, HS4.out.y, HS4.out.z, pw_below_drewN HS4.out.be _, HS4.out.lo⟩⟩
  case round =>
    obtain ⟨j, R, Q, rfl, hj, hjk, HI, HR, HQ, HT⟩ := hrel
    clear HS4 HX HXJ
    by_cases h0 : j = 0
    · have hlt : ¬ (0 : Int) ≤ (j : Int) - 1 := by omega
      subst h0
      have hkl2' : (0 : Nat) < k := Nat.pos_of_ne_zero HK.out
      have hfin := long_done hkl2' HI.out.1 (by have := HI.out.2; rw [Nat.pow_zero, Nat.mul_one] at this; exact this)
      have HFI := Lib.hid hfin
      obtain ⟨AR, cR, eR, hcR, hrR⟩ := HR.out
      obtain ⟨AQ, cQ, eQ, hcQ, hrQ⟩ := HQ.out
      have HQ2 := Lib.hid HQ.out
      subst eR eQ
      obtain ⟨x0, x1, x2, x3, x4⟩ := HT.out.x
      obtain ⟨y0, y1, y2, y3, y4⟩ := HT.out.y
      clear hfin hcR hrR hcQ hrQ HR HQ HI
      obtain ⟨⟨z0, z1, z2, z3, z4⟩, f0, f1, f2, f3, f4⟩ := HT.out.z.cells
      go_wp2
      have q1 : m * 2 ^ sh / k = Q := by rw [← EX.out]; exact HFI.out.1.symm
      have q2 : mo = decide (0 < len32 R) := by
        rw [EMO.out, ← EX.out, ← HFI.out.2]
        by_cases h : R = 0
        · rw [h]; rfl
        · rw [decide_eq_true h, decide_eq_true (len32_pos.2 h)]
      have hq := HQ2.out
      obtain ⟨A9, c9, e9, hc9, hr9⟩ := hq
      injection e9 with ea _ ec
      subst ea ec
      exact bodyPost_ret (v := numV 2 s AQ (len32 Q) cQ (e - (sh : Int)) (decide (0 < len32 R))) (by simp [results, Try.results96, go_sem, numV, z0, z1, z2, z3, z4]) rfl ⟨AQ, cQ, by rw [q1, q2], by rw [q1]; exact ⟨AQ, cQ, rfl, hc9, hr9.put5 HT.out.z.cells.1 _ _ _ _ _⟩, below_put5 HT.out.be HT.out.lo _ _ _ _ _⟩
    · obtain ⟨i, rfl⟩ : ∃ i, j = i + 1 := ⟨j - 1, by omega⟩
      have e1 : ((i + 1 : Nat) : Int) - 1 = (i : Int) := by omega
      rw [e1]
      have hlt : (0 : Int) ≤ (i : Int) := by omega
      obtain ⟨hi1, hi2⟩ := HI.out
      have hRX : R ≤ X := by omega
      have hlR : len32 R ≤ 20000 := Nat.le_trans (len32_mono hRX) hXl
      have hQX : Q ≤ X := Nat.le_trans (Nat.le_mul_of_pos_right _ (Nat.pos_of_ne_zero HK.out)) (by omega)
      have hlQ : len32 Q ≤ 20000 := Nat.le_trans (len32_mono hQX) hXl
      obtain ⟨Y, eY⟩ : ∃ y, y = k * 2 ^ i := ⟨_, rfl⟩
      have hlY : len32 Y ≤ 100000 := by rw [eY]; have := len_up (a := k) (n := i); omega
      have HK2 : Hid (∀ W, Below wr.heap.size wr W → Calls Try.prog 81 #[.slice A2 n2 c2, .int .i64 (i : Int)] W fun e' w' => NatEnd W Y e' w') := (show ∀ W, _ → _ from fun W hb => by
        have h1 := (HN2.out.below HT.out.be).below hb
        rw [← EN2.out] at h1
        rw [eY]
        exact up_calls W _ k i h1 (by omega) (by omega))
      have HLS := Lib.hid (long_step hi1 hi2)
      rw [← eY] at HLS
      have HY := Lib.hid eY
      have HLR := Lib.hid hlR
      have HLQ := Lib.hid hlQ
      have HLY := Lib.hid hlY
      obtain ⟨y0, y1, y2, y3, y4⟩ := HT.out.y
      clear hi1 hi2 eY hlR hlQ hlY hRX hQX e1 h0
      have HU1 := Lib.hid fun W v (h : NatAt W v 1) => up_calls W v 1 i h (by decide) (by omega)
      have HON := Lib.hid fun W => natOf_calls 1 W (by decide)
      have HPL := Lib.hid fun W v u (h1 : NatAt W v Q) (h2 : NatAt W u (1 * 2 ^ i)) => plus_calls W v u Q (1 * 2 ^ i) h1 h2 (by have := HLQ.out; omega) (by have h8 := len_up (a := 1) (n := i); have h9 : len32 1 ≤ 10000 := small_lt (m := 1) (by decide) (by decide); omega)
      by_cases hYR : Y ≤ R
      · obtain ⟨cv, ecv⟩ : ∃ c, c = cmpN R Y := ⟨_, rfl⟩
        have hcv : 0 ≤ cv := by rw [ecv]; unfold cmpN; rw [if_neg (by omega)]; split <;> decide
        have HCM := Lib.hid fun W v u (h1 : NatAt W v R) (h2 : NatAt W u Y) => compare_calls W v u R Y h1 h2 (by have := HLR.out; omega) (by have := HLY.out; omega)
        rw [← ecv] at HCM
        have HMI := Lib.hid fun W v u (h1 : NatAt W v R) (h2 : NatAt W u Y) => minus_calls W v u R Y h1 h2 hYR (by have := HLR.out; omega)
        have HYR := Lib.hid hYR
        clear ecv hYR
        go_wp2_with (first
          | (go_at_call 81; (with_reducible refine (HK2.out _ (Below.refl _ _)).mono ?_); rintro e1 w5 ⟨vY, rfl, hY5, hbel⟩; have HY5 := Lib.hid hY5; have HR5 := Lib.hid (HR.out.below hbel); have HQ5 := Lib.hid (HQ.out.below hbel); have HT5 := Lib.hid (HT.out.below hbel); clear hY5 hbel)
          | (go_at_call 101; refine (HCM.out _ _ _ HR5.out HY5.out).mono ?_; rintro e1 w6 ⟨rfl, hd⟩; have HY6 := Lib.hid (HY5.out.below hd.below); have HR6 := Lib.hid (HR5.out.below hd.below); have HQ6 := Lib.hid (HQ5.out.below hd.below); have HT6 := Lib.hid (HT5.out.below hd.below); clear hd)
          | (go_at_call 102; refine (HMI.out _ _ _ HR6.out HY6.out).mono ?_; rintro e1 w7 ⟨vR, rfl, hr7, hbel⟩; have HR7 := Lib.hid hr7; have HQ7 := Lib.hid (HQ6.out.below hbel); have HT7 := Lib.hid (HT6.out.below hbel); clear hr7 hbel)
          | (go_at_call 72; refine (HON.out _).mono ?_; rintro e1 w8 ⟨vO, rfl, ho, hbel⟩; have HO8 := Lib.hid ho; have HR8 := Lib.hid (HR7.out.below hbel); have HQ8 := Lib.hid (HQ7.out.below hbel); have HT8 := Lib.hid (HT7.out.below hbel); clear ho hbel)
          | (go_at_call 81; (with_reducible refine (HU1.out _ _ HO8.out).mono ?_); rintro e1 w9 ⟨vP, rfl, ho, hbel⟩; have HO9 := Lib.hid ho; have HR9 := Lib.hid (HR8.out.below hbel); have HQ9 := Lib.hid (HQ8.out.below hbel); have HT9 := Lib.hid (HT8.out.below hbel); clear ho hbel)
          | (go_at_call 82; refine (HPL.out _ _ _ HQ9.out HO9.out).mono ?_; rintro e1 w10 ⟨vQ, rfl, hq, hbel⟩; have HQ10 := Lib.hid hq; have HR10 := Lib.hid (HR9.out.below hbel); have HT10 := Lib.hid (HT9.out.below hbel); clear hq hbel))
        go_roundg i
        case measure => omega
        case rel =>
          have h := HLS.out.1 HYR.out
          rw [HY.out] at h
          exact ⟨i, R - Y, Q + 1 * 2 ^ i, by go_num, by omega, Nat.le_refl _, ⟨by rw [HY.out, Nat.one_mul]; exact h.1, by rw [HY.out]; exact h.2⟩, HR10.out, HQ10.out, HT10.out⟩
      · obtain ⟨cv, ecv⟩ : ∃ c, c = cmpN R Y := ⟨_, rfl⟩
        have hcv : ¬ 0 ≤ cv := by rw [ecv]; unfold cmpN; rw [if_pos (by omega)]; decide
        have HCM := Lib.hid fun W v u (h1 : NatAt W v R) (h2 : NatAt W u Y) => compare_calls W v u R Y h1 h2 (by have := HLR.out; omega) (by have := HLY.out; omega)
        rw [← ecv] at HCM
        have HYR := Lib.hid hYR
        clear ecv hYR HU1 HON HPL
        go_wp2_with (first
          | (go_at_call 81; (with_reducible refine (HK2.out _ (Below.refl _ _)).mono ?_); rintro e1 w5 ⟨vY, rfl, hY5, hbel⟩; have HY5 := Lib.hid hY5; have HR5 := Lib.hid (HR.out.below hbel); have HQ5 := Lib.hid (HQ.out.below hbel); have HT5 := Lib.hid (HT.out.below hbel); clear hY5 hbel)
          | (go_at_call 101; refine (HCM.out _ _ _ HR5.out HY5.out).mono ?_; rintro e1 w6 ⟨rfl, hd⟩; have HY6 := Lib.hid (HY5.out.below hd.below); have HR6 := Lib.hid (HR5.out.below hd.below); have HQ6 := Lib.hid (HQ5.out.below hd.below); have HT6 := Lib.hid (HT5.out.below hd.below); clear hd))
        go_roundg i
        case measure => omega
        case rel =>
          have h := HLS.out.2 HYR.out
          rw [HY.out] at h
          exact ⟨i, R, Q, by go_num, by omega, Nat.le_refl _, ⟨HI.out.1, h⟩, HR6.out, HQ6.out, HT6.out⟩

theorem refRound_sign (s : Bool) (n : Nat) (e : Int) (mo : Bool) : refRound 23 8 150 255 s n e mo = (if s then 2147483648 else 0) + refRound 23 8 150 255 false n e mo := by
  unfold refRound
  cases s
  · rw [if_neg (by decide), Nat.zero_add]
  · rw [if_pos rfl, ← Nat.add_assoc]; rfl
/-- A quotient that has 60 bits more than it needs. -/
theorem quot_bits {m k sh : Nat} (hm : m ≠ 0) (hk : k ≠ 0) (hsh : (sh : Int) = 60 + max ((bitlen k : Int) - (bitlen m : Int)) 0) : 25 ≤ bitlen (m * 2 ^ sh / k) := by
  obtain ⟨a1, -, a3⟩ := bitlen_spec hm
  obtain ⟨-, b2, b3⟩ := bitlen_spec hk
  obtain ⟨bm, ebm⟩ : ∃ b, b = bitlen m := ⟨_, rfl⟩
  obtain ⟨bk, ebk⟩ : ∃ b, b = bitlen k := ⟨_, rfl⟩
  rw [← ebm] at hsh a1 a3
  rw [← ebk] at hsh b2 b3
  have h1 : 2 ^ 24 ≤ m * 2 ^ sh / k := by
    rw [Nat.le_div_iff_mul_le (Nat.pos_of_ne_zero hk)]
    have h2 : 2 ^ 24 * k ≤ 2 ^ 24 * 2 ^ bk := Nat.mul_le_mul_left _ (Nat.le_of_lt b2)
    have h3 : 2 ^ (bm - 1) * 2 ^ sh ≤ m * 2 ^ sh := Nat.mul_le_mul_right _ a1
    rw [← Nat.pow_add] at h2 h3
    have h4 : 2 ^ (24 + bk) ≤ 2 ^ (bm - 1 + sh) := Nat.pow_le_pow_right (by decide) (by omega)
    exact Nat.le_trans h2 (Nat.le_trans h4 h3)
  have h5 : ¬ bitlen (m * 2 ^ sh / k) ≤ 24 := by
    rw [bitlen_lt]
    exact Nat.not_lt.2 h1
  omega
/-- The quotient, rounded, is what an Acc tells. -/
theorem over_told {S : Ac} {s : Bool} {m : Nat} {e : Int} {k sh : Nat} (hsp : spB S = false) (hv : valZ s m e = S.z) (hm : m ≠ 0) (he : -149 ≤ e) (hk : k ≠ 0) (hkl : k < 4294967296) (hsh : (sh : Int) = 60 + max ((bitlen k : Int) - (bitlen m : Int)) 0) :
    refRound 23 8 150 255 s (m * 2 ^ sh / k) (e - (sh : Int)) (decide (m * 2 ^ sh % k ≠ 0)) = ovr S k := by
  have hbk : bitlen k ≤ 32 := bitlen_small (Nat.lt_of_lt_of_le hkl (by decide))
  obtain ⟨-, -, hb1⟩ := bitlen_spec hm
  have hx := exR_div m k sh e (Nat.pos_of_ne_zero hk) he (by omega) (quot_bits hm hk hsh)
  rw [refRound_sign, ← hx, ovr_plain hsp]
  have hvu : valU 149 s m e = S.z := hv
  have hne := valU_ne (c := 149) (s := s) (e := e) hm
  have hab := valU_abs 149 s m e
  rw [hvu] at hne hab
  have hab' : S.z.natAbs = m * 2 ^ (e + 149).toNat := hab
  rw [if_neg hne.1, hab']
  have hs := hne.2
  cases s
  · rw [if_neg (by decide), if_neg (of_decide_eq_false hs), Nat.zero_add]
  · rw [if_pos rfl, if_pos (of_decide_eq_true hs), Nat.add_comm]
theorem p447_448 : P447 ≤ P448 := by
  have e : P448 = pw 1 * P447 := by unfold P448 P447; exact pw_add 1 447 448 rfl
  rw [e]
  exact Nat.le_mul_of_pos_left _ (pw_pos 1)
theorem len_small {m : Nat} (h : m < P447) : len32 m ≤ 14 := (lt_len32 m 14).2 (by
  obtain ⟨j, ej⟩ : ∃ j, j = 32 * 14 := ⟨_, rfl⟩
  rw [← ej]
  show m < pw j
  rw [ej]
  exact Nat.lt_of_lt_of_le h p447_448)
set_option maxHeartbeats 1600000 in
set_option maxRecDepth 100000 in
/-- Over, where nothing is to be divided. -/
theorem rOver_flat (w : World) (g : Nat) (S : Ac) (hS : RefAt w g S) (hok : AcOk S) (hN : S.n ≤ 1000000000000) (d : Nat) (hd1 : 1 ≤ d) (hd2 : d ≤ 4294967295) (hflat : S.n = 0 ∨ spB S = true) :
    Calls Try.prog 69 #[.pointer (some ⟨g, 0, none⟩), .int .i64 (d : Int)] w fun en w' => Gives w (.tuple #[.int .u32 ((ovr S d : Nat) : Int), .int .i64 0]) en w' := by
  have HSP := Lib.hid (special_calls w g S hS)
  have h1 : ¬ (d : Int) < 1 := by omega
  have h2 : ¬ (4294967295 : Int) < (d : Int) := by omega
  obtain ⟨k, s, A, m, c, e, hbl, -⟩ := hS
  have g5 : w.cell? ⟨g, 5, none⟩ = some (.int .i64 (S.n : Int)) := ucell hbl 5
  by_cases h0 : S.n = 0
  · have hb : ((S.n : Int) == 0) = true := by rw [beq_iff_eq]; omega
    have E : Hid (ovr S d = 0) := (show _ = _ by
      have z1 := hok.z
      have z2 := hok.nans
      have z3 := hok.up
      have z4 := hok.dn
      rw [h0] at z1 z2 z3 z4
      rw [Nat.zero_mul] at z1
      unfold ovr
      rw [if_neg (by omega), if_neg (by omega), if_neg (by omega), if_pos (by omega), if_neg (by omega)])
    obtain ⟨n, en⟩ : ∃ n, n = S.n := ⟨_, rfl⟩
    rw [← en] at g5 hb
    rw [E.out]
    clear en h0 hflat hok hN hbl HSP E
    go_enter Try.func69, Try.ntmps69
    go_wp2
    go_ret2
    exact ⟨rfl, Below.refl _ _⟩
  · have hb : ((S.n : Int) == 0) = false := by rw [beq_eq_false_iff_ne]; omega
    have hs : spB S = true := hflat.resolve_left h0
    have E := Lib.hid (ovr_special hs d)
    rw [hs] at HSP
    obtain ⟨n, en⟩ : ∃ n, n = S.n := ⟨_, rfl⟩
    rw [← en] at g5 hb
    obtain ⟨v, ev⟩ : ∃ v, v = spV S := ⟨_, rfl⟩
    rw [E.out]
    rw [← ev] at HSP ⊢
    clear en h0 hflat hok hN hbl E ev hs
    go_enter Try.func69, Try.ntmps69
    go_wp2_with (go_at_call 92; refine HSP.out.mono ?_; rintro e1 w1 ⟨rfl, rfl⟩)
    go_ret2
    exact ⟨rfl, Below.refl _ _⟩
theorem keep11b {w0 W W' : World} {p0 p1 p2 p3 p4 r0 r1 r2 r3 r4 : Addr} {u0 u1 u2 u3 u4 v0 v1 v2 v3 v4 : Value} (hb : Below W.heap.size W W')
    (h : W.cell? p0 = some u0 ∧ W.cell? p1 = some u1 ∧ W.cell? p2 = some u2 ∧ W.cell? p3 = some u3 ∧ W.cell? p4 = some u4 ∧ W.cell? r0 = some v0 ∧ W.cell? r1 = some v1 ∧ W.cell? r2 = some v2 ∧ W.cell? r3 = some v3 ∧ W.cell? r4 = some v4 ∧ Below w0.heap.size w0 W) :
    W'.cell? p0 = some u0 ∧ W'.cell? p1 = some u1 ∧ W'.cell? p2 = some u2 ∧ W'.cell? p3 = some u3 ∧ W'.cell? p4 = some u4 ∧ W'.cell? r0 = some v0 ∧ W'.cell? r1 = some v1 ∧ W'.cell? r2 = some v2 ∧ W'.cell? r3 = some v3 ∧ W'.cell? r4 = some v4 ∧ Below w0.heap.size w0 W' := by
  have kp : ∀ {p : Addr} {v : Value}, W.cell? p = some v → W'.cell? p = some v := fun h => (hb.cell (World.block_lt_of_cell? _ _ h)).trans h
  obtain ⟨a0, a1, a2, a3, a4, b0, b1, b2, b3, b4, hbb⟩ := h
  exact ⟨kp a0, kp a1, kp a2, kp a3, kp a4, kp b0, kp b1, kp b2, kp b3, kp b4, ujoin hbb hb⟩
set_option maxHeartbeats 1600000 in
set_option maxRecDepth 100000 in
/-- Over, where there is a number that isn't 0. -/
theorem rOver_div (w : World) (g : Nat) (S : Ac) (hS : RefAt w g S) (hok : AcOk S) (hN : S.n ≤ 1000000000000) (d : Nat) (hd1 : 1 ≤ d) (hd2 : d ≤ 4294967295) (hn : S.n ≠ 0) (hsp : spB S = false) (hz : S.z ≠ 0) :
    Calls Try.prog 69 #[.pointer (some ⟨g, 0, none⟩), .int .i64 (d : Int)] w fun en w' => Gives w (.tuple #[.int .u32 ((ovr S d : Nat) : Int), .int .i64 0]) en w' := by
  have HSP := Lib.hid (special_calls w g S hS)
  rw [hsp] at HSP
  have h1 : ¬ (d : Int) < 1 := by omega
  have h2 : ¬ (4294967295 : Int) < (d : Int) := by omega
  obtain ⟨k, s, A, m, c, e, hbl, hr, hc, h0⟩ := hS
  obtain ⟨-, rfl, he1, he2, hv⟩ := h0.resolve_left hn
  have hsz := valZ_size hv
  have hm : m ≠ 0 := by
    intro h
    rw [h, Nat.zero_mul] at hsz
    omega
  have hzz : S.z.natAbs < P447 := Nat.lt_of_le_of_lt hok.z (p447_277 (by omega))
  have hml : len32 m ≤ 14 := len_small (Nat.lt_of_le_of_lt (by rw [← hsz]; exact Nat.le_mul_of_pos_right _ (Nat.two_pow_pos _)) hzz)
  obtain ⟨sh, hsh⟩ : ∃ sh : Nat, (sh : Int) = 60 + max ((bitlen d : Int) - (bitlen m : Int)) 0 := ⟨(60 + max ((bitlen d : Int) - (bitlen m : Int)) 0).toNat, by omega⟩
  have hbd : bitlen d ≤ 32 := bitlen_small (show d < 2 ^ 32 by omega)
  have hot := over_told hsp hv hm he1 (show d ≠ 0 by omega) (by omega) hsh
  obtain ⟨q, eq⟩ : ∃ q, q = m * 2 ^ sh / d := ⟨_, rfl⟩
  obtain ⟨mo, emo⟩ : ∃ b : Bool, b = decide (m * 2 ^ sh % d ≠ 0) := ⟨_, rfl⟩
  have hql : len32 q ≤ 10000 := by
    have h3 : q ≤ m * 2 ^ sh := by rw [eq]; exact Nat.div_le_self _ _
    have h4 := len32_mono h3
    have h5 := len_up (a := m) (n := sh)
    omega
  have HNA : Hid (NatAt w (.slice A (len32 m) c) m) := (show NatAt _ _ _ from ⟨A, c, rfl, hc, hr⟩)
  have HZC := Lib.hid (zero_calls (.number s m e) (numV 2 s A (len32 m) c e false) w ⟨A, c, rfl, HNA.out⟩)
  rw [show isZ (.number s m e) = false by show (m == 0) = false; rw [beq_eq_false_iff_ne]; exact hm] at HZC
  have HON := Lib.hid fun W => natOf_calls d W (by omega)
  have HDI : Hid (∀ W A2 c2, Below w.heap.size w W → NatAt W (.slice A2 (len32 d) c2) d → Calls Try.prog 96 #[numV 2 s A (len32 m) c e false, numV 2 false A2 (len32 d) c2 0 false] W fun en w' => DivEnd W s q (e - (sh : Int)) mo en w') := (show ∀ W A2 c2, _ → _ → _ from fun W A2 c2 hb h => by
    rw [eq, emo]
    exact divNum_calls W s m d e A c A2 c2 (HNA.out.below hb) h hm (by omega) (by omega) (by omega) (by omega) sh hsh)
  have HRO : Hid (∀ W A2 c2, NatAt W (.slice A2 (len32 q) c2) q → Calls Try.prog 44 #[formV 23 8, numV 2 s A2 (len32 q) c2 (e - (sh : Int)) mo] W fun en w' => Gives W (.int .u64 ((ovr S d : Nat) : Int)) en w') := (show ∀ W A2 c2, _ → _ from fun W A2 c2 h => by
    have := round_num 23 8 150 255 isF32 s q (e - (sh : Int)) mo A2 c2 W h hql (by omega) (by omega)
    rw [← eq, ← emo] at hot
    rw [hot] at this
    exact this)
  have HF := Lib.hid fun W => F32_calls W
  have hlt : ovr S d < 4294967296 := by
    unfold ovr
    have := exR_lt S.z.natAbs d
    repeat (first | split | omega)
  have W1 := u_w32 (ovr S d) hlt
  have W2 : IntKind.u64.wrap (d : Int) = (d : Int) := by rw [IntKind.wrap_u64]; omega
  obtain ⟨res, er⟩ : ∃ r, r = ovr S d := ⟨_, rfl⟩
  rw [← er] at HRO W1 ⊢
  have hb : ((S.n : Int) == 0) = false := by rw [beq_eq_false_iff_ne]; omega
  have g0 : w.cell? ⟨g, 0, none⟩ = some (.int .i64 2) := ucell hbl 0
  have g1 : w.cell? ⟨g, 1, none⟩ = some (.bool s) := ucell hbl 1
  have g2 : w.cell? ⟨g, 2, none⟩ = some (.slice A (len32 m) c) := ucell hbl 2
  have g3 : w.cell? ⟨g, 3, none⟩ = some (.int .i64 e) := ucell hbl 3
  have g4 : w.cell? ⟨g, 4, none⟩ = some (.bool false) := ucell hbl 4
  have g5 : w.cell? ⟨g, 5, none⟩ = some (.int .i64 (S.n : Int)) := ucell hbl 5
  obtain ⟨n, en⟩ : ∃ n, n = S.n := ⟨_, rfl⟩
  rw [← en] at g5 hb
  obtain ⟨v, ev⟩ : ∃ v, v = spV S := ⟨_, rfl⟩
  rw [← ev] at HSP
  obtain ⟨nm, enm⟩ : ∃ n, n = len32 m := ⟨_, rfl⟩
  rw [← enm] at g2 HZC HDI
  have HG := Lib.hid (show w.cell? ⟨g, 0, none⟩ = some (.int .i64 2) ∧ w.cell? ⟨g, 1, none⟩ = some (.bool s) ∧ w.cell? ⟨g, 2, none⟩ = some (.slice A nm c) ∧ w.cell? ⟨g, 3, none⟩ = some (.int .i64 e) ∧ w.cell? ⟨g, 4, none⟩ = some (.bool false) ∧ Below w.heap.size w w from ⟨g0, g1, g2, g3, g4, Below.refl _ _⟩)
  clear hbl hr hc hok hN hn hsp hz hv hsz hm hzz hml hsh hbd hot eq emo hql er en ev enm hlt HNA h0 he1 he2
  unfold numV at HZC
  go_enter Try.func69, Try.ntmps69
  go_upto_region 11 with (first
    | (go_at_call 92; refine HSP.out.mono ?_; rintro e1 w1 ⟨rfl, rfl⟩)
    | (go_at_call 93; refine HZC.out.mono ?_; rintro e1 w3 ⟨rfl, hbel⟩; have HB3 := Lib.hid hbel; have HG3 := Lib.hid (keep6 hbel HG.out); clear hbel)
    | (go_at_call 72; refine (HON.out _).mono ?_; rintro e1 w4 ⟨u, rfl, ⟨A2, c2, rfl, hc2, hr2⟩, hbel⟩; have HN4 := Lib.hid (show NatAt w4 (.slice A2 (len32 d) c2) d from ⟨A2, c2, rfl, hc2, hr2⟩); have HG4 := Lib.hid (keep6 hbel HG3.out); clear hbel hc2 hr2))
  have hn8 := numBox_new w4 2 false A2 (len32 d) c2 0 false
  have hb8 : Below w4.heap.size w4 (w4.alloc (.cells #[.int .i64 2, .bool false, .slice A2 (len32 d) c2, .int .i64 0, .bool false] 62)) := (Below.refl _ _).alloc (Nat.le_refl _) _
  have HG8 := Lib.hid (keep6 hb8 HG4.out)
  have HN8 := Lib.hid ((HN4.out.below hb8).below (Below.refl _ _).drew)
  obtain ⟨g8, eg⟩ : ∃ g, g = w4.heap.size := ⟨_, rfl⟩
  rw [← eg] at hn8 ⊢
  clear eg hb8 HG4 HN4 HG3 HB3 HG g0 g1 g2 g3 g4 g5
  generalize w4.alloc (.cells #[.int .i64 2, .bool false, .slice A2 (len32 d) c2, .int .i64 0, .bool false] 62) = w8 at hn8 HG8 HN8 ⊢
  obtain ⟨x0, x1, x2, x3, x4, hbx⟩ := HG8.out
  obtain ⟨y0, y1, y2, y3, y4⟩ := hn8
  go_region_held3 (fun w' => w'.cell? ⟨g, 0, none⟩ = some (.int .i64 2) ∧ w'.cell? ⟨g, 1, none⟩ = some (.bool s) ∧ w'.cell? ⟨g, 2, none⟩ = some (.slice A nm c) ∧ w'.cell? ⟨g, 3, none⟩ = some (.int .i64 e) ∧ w'.cell? ⟨g, 4, none⟩ = some (.bool false) ∧ w'.cell? ⟨g8, 0, none⟩ = some (.int .i64 2) ∧ w'.cell? ⟨g8, 1, none⟩ = some (.bool false) ∧ w'.cell? ⟨g8, 2, none⟩ = some (.slice A2 (len32 d) c2) ∧ w'.cell? ⟨g8, 3, none⟩ = some (.int .i64 0) ∧ w'.cell? ⟨g8, 4, none⟩ = some (.bool false) ∧ Below w.heap.size w w')
    (first | exact ⟨x0, x1, x2, x3, x4, y0, y1, y2, y3, y4, hbx.drew⟩ | exact keep11b hbel ‹_›) (first
    | (go_at_call 40; refine (HF.out _).mono ?_; rintro e1 w9 ⟨rfl, hbel⟩; have HN9 := Lib.hid (HN8.out.below hbel); have HB9 := Lib.hid (ujoin hbx.drew hbel); unfold formV)
    | (go_at_call 96; refine (HDI.out w9 A2 c2 HB9.out HN9.out).mono ?_; rintro e1 w10 ⟨A3, c3, rfl, hn3, hbel⟩; have HN10 := Lib.hid hn3)
    | (go_at_call 44; refine (HRO.out w10 A3 c3 HN10.out).mono ?_; rintro e1 w11 ⟨rfl, hbel⟩))
  rename_i hH
  go_wp2
  go_ret2
  exact ⟨rfl, hH.2.2.2.2.2.2.2.2.2.2⟩
set_option maxHeartbeats 1600000 in
set_option maxRecDepth 100000 in
/-- Over, where the sum is 0. -/
theorem rOver_zero (w : World) (g : Nat) (S : Ac) (hS : RefAt w g S) (hok : AcOk S) (hN : S.n ≤ 1000000000000) (d : Nat) (hd1 : 1 ≤ d) (hd2 : d ≤ 4294967295) (hn : S.n ≠ 0) (hsp : spB S = false) (hz : S.z = 0) :
    Calls Try.prog 69 #[.pointer (some ⟨g, 0, none⟩), .int .i64 (d : Int)] w fun en w' => Gives w (.tuple #[.int .u32 ((ovr S d : Nat) : Int), .int .i64 0]) en w' := by
  have HSP := Lib.hid (special_calls w g S hS)
  rw [hsp] at HSP
  have h1 : ¬ (d : Int) < 1 := by omega
  have h2 : ¬ (4294967295 : Int) < (d : Int) := by omega
  have e1 : ovr S d = ovr S 1 := by unfold ovr; simp only [hz, if_true]
  rw [e1]
  have HT := Lib.hid fun W (hb : Below w.heap.size w W) => told_sum_calls W g S (hS.below hb) hok hN
  obtain ⟨k, s, A, m, c, e, hbl, hr, hc, h0⟩ := hS
  obtain ⟨-, rfl, he1, he2, hv⟩ := h0.resolve_left hn
  have hsz := valZ_size hv
  have hm : m = 0 := by
    rcases Nat.eq_zero_or_pos m with h | h
    · exact h
    · have h3 := Nat.mul_pos h (Nat.two_pow_pos (e + 149).toNat)
      omega
  have HNA : Hid (NatAt w (.slice A (len32 m) c) m) := (show NatAt _ _ _ from ⟨A, c, rfl, hc, hr⟩)
  have HZC := Lib.hid (zero_calls (.number s m e) (numV 2 s A (len32 m) c e false) w ⟨A, c, rfl, HNA.out⟩)
  rw [show isZ (.number s m e) = true by show (m == 0) = true; rw [beq_iff_eq]; exact hm] at HZC
  obtain ⟨res, er⟩ : ∃ r, r = ovr S 1 := ⟨_, rfl⟩
  rw [← er] at HT ⊢
  have hb : ((S.n : Int) == 0) = false := by rw [beq_eq_false_iff_ne]; omega
  have g0 : w.cell? ⟨g, 0, none⟩ = some (.int .i64 2) := ucell hbl 0
  have g1 : w.cell? ⟨g, 1, none⟩ = some (.bool s) := ucell hbl 1
  have g2 : w.cell? ⟨g, 2, none⟩ = some (.slice A (len32 m) c) := ucell hbl 2
  have g3 : w.cell? ⟨g, 3, none⟩ = some (.int .i64 e) := ucell hbl 3
  have g4 : w.cell? ⟨g, 4, none⟩ = some (.bool false) := ucell hbl 4
  have g5 : w.cell? ⟨g, 5, none⟩ = some (.int .i64 (S.n : Int)) := ucell hbl 5
  obtain ⟨n, en⟩ : ∃ n, n = S.n := ⟨_, rfl⟩
  rw [← en] at g5 hb
  obtain ⟨v, ev⟩ : ∃ v, v = spV S := ⟨_, rfl⟩
  rw [← ev] at HSP
  obtain ⟨nm, enm⟩ : ∃ n, n = len32 m := ⟨_, rfl⟩
  rw [← enm] at g2 HZC
  clear hbl hr hc hok hN hn hsp hz hv hsz hm er en ev enm HNA h0 he1 he2 e1
  unfold numV at HZC
  go_enter Try.func69, Try.ntmps69
  go_wp2_with (first
    | (go_at_call 92; refine HSP.out.mono ?_; rintro e1 w1 ⟨rfl, rfl⟩)
    | (go_at_call 93; refine HZC.out.mono ?_; rintro e1 w3 ⟨rfl, hbel⟩; have HB3 := Lib.hid hbel; clear hbel)
    | (go_at_call 59; refine (HT.out _ HB3.out).mono ?_; rintro e1 w4 ⟨rfl, hbel⟩; have HB4 := Lib.hid (ujoin HB3.out hbel); clear hbel))
  go_ret2
  exact ⟨rfl, HB4.out⟩
/-- Over. -/
theorem rOver_in (w : World) (g : Nat) (S : Ac) (hS : RefAt w g S) (hok : AcOk S) (hN : S.n ≤ 1000000000000) (d : Nat) (hd1 : 1 ≤ d) (hd2 : d ≤ 4294967295) :
    Calls Try.prog 69 #[.pointer (some ⟨g, 0, none⟩), .int .i64 (d : Int)] w fun en w' => Gives w (.tuple #[.int .u32 ((ovr S d : Nat) : Int), .int .i64 0]) en w' := by
  by_cases hn : S.n = 0
  · exact rOver_flat w g S hS hok hN d hd1 hd2 (.inl hn)
  · cases hsp : spB S with
    | true => exact rOver_flat w g S hS hok hN d hd1 hd2 (.inr hsp)
    | false =>
      by_cases hz : S.z = 0
      · exact rOver_zero w g S hS hok hN d hd1 hd2 hn hsp hz
      · exact rOver_div w g S hS hok hN d hd1 hd2 hn hsp hz
theorem rOver_low (w : World) (g : Nat) (d : Int) (hd : d < 1 ∨ 4294967295 < d) :
    Calls Try.prog 69 #[.pointer (some ⟨g, 0, none⟩), .int .i64 d] w fun e w' => e = .returned (.tuple #[.int .u32 0, .int .i64 33]) ∧ w = w' := by
  rcases hd with h | h
  · go_enter Try.func69, Try.ntmps69
    go_wp2
    go_ret2
    exact ⟨rfl, rfl⟩
  · have h1 : ¬ d < 1 := by omega
    go_enter Try.func69, Try.ntmps69
    go_wp2
    go_ret2
    exact ⟨rfl, rfl⟩
theorem rOver_calls (w : World) (g : Nat) (S : Ac) (d : Int) (hS : RefAt w g S) (hok : AcOk S) (hN : S.n ≤ 1000000000000) :
    Calls Try.prog 69 #[.pointer (some ⟨g, 0, none⟩), .int .i64 d] w fun e w' => Gives w (.tuple #[.int .u32 ((ovrV S d : Nat) : Int), .int .i64 (ovrE d)]) e w' := by
  by_cases h : d < 1 ∨ 4294967295 < d
  · refine (rOver_low w g d h).mono fun e w' ⟨h1, h2⟩ => ⟨?_, ?_⟩
    · rw [h1, ovrV, ovrE, if_pos h, if_pos h]; rfl
    · rw [h2]; exact Below.refl _ _
  · obtain ⟨k, rfl⟩ : ∃ k : Nat, d = (k : Int) := ⟨d.toNat, by omega⟩
    have e1 : ovrV S (k : Int) = ovr S k := by rw [ovrV, if_neg h, Int.toNat_natCast]
    have e2 : ovrE (k : Int) = 0 := by rw [ovrE, if_neg h]
    rw [e1, e2]
    exact rOver_in w g S hS hok hN k (by omega) (by omega)
set_option maxHeartbeats 1600000 in
set_option maxRecDepth 100000 in
theorem rMean_calls (w : World) (g : Nat) (S : Ac) (hS : RefAt w g S) (hok : AcOk S) (hN : S.n ≤ 1000000000000) :
    Calls Try.prog 68 #[.pointer (some ⟨g, 0, none⟩)] w fun e w' => Gives w (.tuple #[.int .u32 ((ovrV S (S.n : Int) : Nat) : Int), .int .i64 (ovrE (S.n : Int))]) e w' := by
  have HO := Lib.hid (rOver_calls w g S (S.n : Int) hS hok hN)
  obtain ⟨k, s, A, m, c, e, hbl, -⟩ := hS
  have g5 : w.cell? ⟨g, 5, none⟩ = some (.int .i64 (S.n : Int)) := ucell hbl 5
  obtain ⟨v, ev⟩ : ∃ n, n = ovrV S (S.n : Int) := ⟨_, rfl⟩
  obtain ⟨x, ex⟩ : ∃ n, n = ovrE (S.n : Int) := ⟨_, rfl⟩
  rw [← ev, ← ex] at HO ⊢
  obtain ⟨n, en⟩ : ∃ n, n = S.n := ⟨_, rfl⟩
  rw [← en] at g5 HO
  clear en ev ex hbl hok hN
  go_enter Try.func68, Try.ntmps68
  go_wp2_with (go_at_call 69; refine HO.out.mono ?_; rintro e1 w1 ⟨rfl, hbel⟩)
  go_ret2
  exact ⟨rfl, hbel⟩

set_option maxHeartbeats 1600000 in
set_option maxRecDepth 100000 in
theorem holds_calls (w : World) (ga : Nat) (A : Option Addr) (n c : Nat) (x : Nat → Nat) (hA : AcAt w ga (acAll acNone x n)) (hr : RowU w A n x) (hc : n ≤ c) (hn : n ≤ 4000) (hx : ∀ k, k < n → x k < 4294967296) :
    Calls Try.prog 35 #[.pointer (some ⟨ga, 0, none⟩), .slice A n c] w fun e w' => Gives w (.bool true) e w' := by
  have hSn : (acAll acNone x n).n = n := by rw [acAll_n]; exact Nat.zero_add n
  have hok := acOk_none.all x n
  have HOF := Lib.hid (of_list_calls w A n c x hr hc (by omega) hx)
  obtain ⟨S, eS⟩ : ∃ S, S = acAll acNone x n := ⟨_, rfl⟩
  rw [← eS] at hA hSn hok HOF
  have HMP := Lib.hid fun W (hb : Below w.heap.size w W) => acMean_calls W ga S (hA.below hb) hok (by omega)
  have HMR := Lib.hid fun W g (h : RefAt W g S) => rMean_calls W g S h hok (by omega)
  have HOP := Lib.hid fun W d (hb : Below w.heap.size w W) => acOver_calls W ga S d (hA.below hb) hok (by omega)
  have HOR := Lib.hid fun W g d (h : RefAt W g S) => rOver_calls W g S d h hok (by omega)
  have HSP := Lib.hid fun W (hb : Below w.heap.size w W) => acSum_calls W ga S (hA.below hb) hok (by omega)
  have HSR := Lib.hid fun W g (h : RefAt W g S) => told_sum_calls W g S h hok (by omega)
  have HCO := Lib.hid fun W (hb : Below w.heap.size w W) => acCount_calls W ga S (hA.below hb)
  rw [hSn] at HMP HMR HCO
  obtain ⟨a1, ea1⟩ : ∃ a, a = ovrV S (n : Int) := ⟨_, rfl⟩
  obtain ⟨a2, ea2⟩ : ∃ a, a = ovrE (n : Int) := ⟨_, rfl⟩
  obtain ⟨a3, ea3⟩ : ∃ a, a = ovr S 1 := ⟨_, rfl⟩
  rw [← ea1, ← ea2] at HMP HMR
  rw [← ea3] at HSP HSR
  have W1 : IntKind.i64.wrap (7 * (n : Int)) = 7 * (n : Int) := IntWalk.i64_in _ (by omega)
  have W2 : IntKind.i64.wrap (-(n : Int)) = -(n : Int) := IntWalk.i64_in _ (by omega)
  clear eS hSn ea1 ea2 ea3 hr hx hok hA
  go_enter Try.func35, Try.ntmps35
  go_wp2_with (first
    | (go_at_call 58; refine HOF.out.mono ?_; rintro e1 w1 ⟨g, rfl, hg, hR, hbel⟩; have HR1 := Lib.hid hR; have HB1 := Lib.hid hbel; clear hg hR hbel)
    | (go_at_call 68; refine (HMR.out _ _ HR1.out).mono ?_; rintro e1 w2 ⟨rfl, hbel⟩; have HR2 := Lib.hid (HR1.out.below hbel); have HB2 := Lib.hid (ujoin HB1.out hbel); clear hbel)
    | (go_at_call 46; refine (HMP.out _ HB2.out).mono ?_; rintro e1 w3 ⟨rfl, hbel⟩; have HR3 := Lib.hid (HR2.out.below hbel); have HB3 := Lib.hid (ujoin HB2.out hbel); clear hbel))
  obtain ⟨f, ef⟩ : ∃ f : Nat → Int, ∀ i, i < 7 → (#[Value.int .i64 0, .int .i64 1, .int .i64 3, .int .i64 (7 * (n : Int)), .int .i64 4294967295, .int .i64 4294967296, .int .i64 (-(n : Int))] : Array Value)[i]? = some (.int .i64 (f i)) := by
    refine ⟨fun i => match i with | 0 => 0 | 1 => 1 | 2 => 3 | 3 => 7 * (n : Int) | 4 => 4294967295 | 5 => 4294967296 | _ => -(n : Int), fun i hi => ?_⟩
    rcases (show i = 0 ∨ i = 1 ∨ i = 2 ∨ i = 3 ∨ i = 4 ∨ i = 5 ∨ i = 6 by omega) with rfl | rfl | rfl | rfl | rfl | rfl | rfl <;> rfl
  have hbl := heap_alloc_new w3 (.cells #[Value.int .i64 0, .int .i64 1, .int .i64 3, .int .i64 (7 * (n : Int)), .int .i64 4294967295, .int .i64 4294967296, .int .i64 (-(n : Int))] 3)
  have hb0 : Below w3.heap.size w3 (w3.alloc (.cells #[Value.int .i64 0, .int .i64 1, .int .i64 3, .int .i64 (7 * (n : Int)), .int .i64 4294967295, .int .i64 4294967296, .int .i64 (-(n : Int))] 3)) := (Below.refl _ _).alloc (Nat.le_refl _) _
  have HR4 := Lib.hid (HR3.out.below hb0)
  have HB4 := Lib.hid (ujoin HB3.out hb0)
  obtain ⟨b, eb⟩ : ∃ b, b = w3.heap.size := ⟨_, rfl⟩
  rw [← eb] at hbl ⊢
  clear hb0 eb HB3 HR3 HB2 HR2 HB1 HR1 HMP HMR HOF W1 W2
  generalize w3.alloc (.cells #[Value.int .i64 0, .int .i64 1, .int .i64 3, .int .i64 (7 * (n : Int)), .int .i64 4294967295, .int .i64 4294967296, .int .i64 (-(n : Int))] 3) = w4 at hbl HR4 HB4 ⊢
  have HCL : Hid (∀ i, i < 7 → w4.cell? ⟨b, i, none⟩ = some (.int .i64 (f i))) := (show ∀ i, _ → _ from fun i hi => (ucell hbl i).trans (ef i hi))
  clear hbl ef
  go_loopg [11, 12, 13, 14, 15, 38] 7 (fun kq v11 v12 v13 v14 v15 v38 wr => ∃ i : Nat, v38 = .int .i64 (i : Int) ∧ i ≤ 7 ∧ 7 ≤ i + kq ∧ Aside (RefAt wr g S) ∧ Aside (Below w.heap.size w wr) ∧ Aside (Below w4.heap.size w4 wr))
  case atStart => exact ⟨0, by first | rfl | go_num, by omega, by omega, HR4.out, HB4.out, Below.refl _ _⟩
  case round =>
    obtain ⟨i, rfl, hi, hik, HR, HB, HW⟩ := hrel
    clear HR4 HB4
    by_cases hlt : i < 7
    · have hltz : (i : Int) < 7 := by omega
      have hi0 : (0 : Int) ≤ (i : Int) := by omega
      obtain ⟨d, ed⟩ : ∃ d, d = f i := ⟨_, rfl⟩
      have hc0 : wr.cell? ⟨b, i, none⟩ = some (.int .i64 d) := by
        have h1 := HCL.out i hlt
        rw [← ed] at h1
        exact (HW.out.cell (World.block_lt_of_cell? _ _ h1)).trans h1
      obtain ⟨q1, eq1⟩ : ∃ q, q = ovrV S d := ⟨_, rfl⟩
      obtain ⟨q2, eq2⟩ : ∃ q, q = ovrE d := ⟨_, rfl⟩
      have H1 := Lib.hid fun W h => HOP.out W d h
      have H2 := Lib.hid fun W g h => HOR.out W g d h
      rw [← eq1, ← eq2] at H1 H2
      have t1 : ((q1 : Int) != (q1 : Int)) = false := by rw [bne_eq_false_iff_eq]
      have t2 : (q2 != q2) = false := by rw [bne_eq_false_iff_eq]
      clear eq1 eq2 ed HCO HSP HSR
      go_wp2_with (first
        | (go_at_call 69; refine (H2.out _ _ HR.out).mono ?_; rintro e1 w5 ⟨rfl, hbel⟩; have HR5 := Lib.hid (HR.out.below hbel); have HB5 := Lib.hid (ujoin HB.out hbel); have HW5 := Lib.hid (ujoin HW.out hbel); clear hbel)
        | (go_at_call 70; refine (H1.out _ HB5.out).mono ?_; rintro e1 w6 ⟨rfl, hbel⟩; have HR6 := Lib.hid (HR5.out.below hbel); have HB6 := Lib.hid (ujoin HB5.out hbel); have HW6 := Lib.hid (ujoin HW5.out hbel); clear hbel))
      go_roundg (7 - (i + 1))
      case measure => omega
      case rel => exact ⟨i + 1, by go_num, by omega, by omega, HR6.out, HB6.out, HW6.out⟩
    · have hltz : ¬ (i : Int) < 7 := by omega
      have t1 : ((a3 : Int) == (a3 : Int)) = true := beq_self_eq_true _
      have t2 : ((n : Int) == (n : Int)) = true := beq_self_eq_true _
      have t3 : ((a1 : Int) == (a1 : Int)) = true := beq_self_eq_true _
      have t4 : (a2 == a2) = true := beq_self_eq_true _
      clear HOP HOR
      go_wp2_with (first
        | (go_at_call 37; refine (HSP.out _ HB.out).mono ?_; rintro e1 w5 ⟨rfl, hbel⟩; have HR5 := Lib.hid (HR.out.below hbel); have HB5 := Lib.hid (ujoin HB.out hbel); clear hbel)
        | (go_at_call 59; refine (HSR.out _ _ HR5.out).mono ?_; rintro e1 w6 ⟨rfl, hbel⟩; have HB6 := Lib.hid (ujoin HB5.out hbel); clear hbel)
        | (go_at_call 38; refine (HCO.out _ HB6.out).mono ?_; rintro e1 w7 ⟨rfl, rfl⟩))
      go_ret
      exact ⟨rfl, HB6.out⟩
end Go.Proofs.Ytmeifciagepmpaa
