/- For SumsLong: whole numbers in units of 2^-20. halideref2.FromInt, Scale by -20: the walks. -/
import Derived.Test.YtmeifciagepmpaaOrAB
import Derived.Test.YtmeifciagepmpaaRsC
namespace Go.Proofs.Ytmeifciagepmpaa
open Go.RowKit Go.Proofs.YtmeifciagepmpaaW.PrintWords
set_option linter.unusedSimpArgs false
set_option linter.unusedVariables false

/-- A whole number in units of 2^-149 and more, rounded to 24 places: the bits. -/
theorem exR_whole (N : Nat) (h0 : N ≠ 0) (hb : bitlen N ≤ 38) : ∃ m, 8388608 ≤ m ∧ m ≤ 16777216 ∧ (bitlen N ≤ 24 → m = N * 2 ^ (24 - bitlen N)) ∧ ∀ t, t ≤ 20 → exR (N * 2 ^ (129 + t)) 1 = (bitlen N + 106 + t) * 8388608 + (m - 8388608) := by
  obtain ⟨b, eb⟩ : ∃ b, b = bitlen N := ⟨_, rfl⟩
  obtain ⟨hs1, hs2, hs3⟩ := bitlen_spec h0
  rw [← eb] at hb hs1 hs2 hs3 ⊢
  obtain ⟨G, eG⟩ : ∃ G, G = N * 2 ^ 24 := ⟨_, rfl⟩
  obtain ⟨n0, en0⟩ : ∃ n, n = G / 2 ^ b := ⟨_, rfl⟩
  obtain ⟨inc, einc⟩ : ∃ i : Bool, i = decide (G / 2 ^ (b - 1) % 2 = 1 ∧ (G % 2 ^ (b - 1) ≠ 0 ∨ n0 % 2 = 1)) := ⟨_, rfl⟩
  have hn1 : 8388608 ≤ n0 := by
    rw [en0, Nat.le_div_iff_mul_le (Nat.two_pow_pos _), eG, show (8388608 : Nat) = 2 ^ 23 from rfl]
    have : 2 ^ 23 * 2 ^ b = 2 ^ (b - 1) * 2 ^ 24 := by rw [← Nat.pow_add, ← Nat.pow_add]; congr 1; omega
    rw [this]
    exact Nat.mul_le_mul_right _ hs1
  have hn2 : n0 < 16777216 := by
    rw [en0, Nat.div_lt_iff_lt_mul (Nat.two_pow_pos _), eG, show (16777216 : Nat) = 2 ^ 24 from rfl, Nat.mul_comm]
    exact Nat.mul_lt_mul_of_pos_left hs2 (Nat.two_pow_pos _)
  have hi := toNat_le1 inc
  refine ⟨n0 + inc.toNat, by omega, by omega, fun h24 => ?_, fun t ht => ?_⟩
  · have e1 : G = N * 2 ^ (24 - b) * 2 ^ b := by rw [eG, Nat.mul_assoc, ← Nat.pow_add]; congr 2; omega
    have e2 : n0 = N * 2 ^ (24 - b) := by rw [en0, e1, Nat.mul_div_cancel _ (Nat.two_pow_pos _)]
    have e3 : G / 2 ^ (b - 1) % 2 = 0 := by
      rw [e1, show (2 : Nat) ^ b = 2 * 2 ^ (b - 1) by rw [← Nat.pow_succ']; congr 1; omega, ← Nat.mul_assoc, Nat.mul_div_cancel _ (Nat.two_pow_pos _), Nat.mul_mod_left]
    have e4 : inc = false := by rw [einc, decide_eq_false]; rw [e3]; omega
    rw [e4, e2]; rfl
  · obtain ⟨c, ec⟩ : ∃ c, c = 201 + t := ⟨_, rfl⟩
    obtain ⟨Q, eQ⟩ : ∃ Q, Q = N * 2 ^ (129 + t) * 2 ^ 96 / 1 := ⟨_, rfl⟩
    have eQ1 : Q = N * 2 ^ (225 + t) := by rw [eQ, Nat.div_one, Nat.mul_assoc, ← Nat.pow_add]; congr 2; omega
    have eQ2 : Q = G * 2 ^ c := by rw [eQ1, eG, Nat.mul_assoc, ← Nat.pow_add]; congr 2; omega
    have hQ0 : Q ≠ 0 := by rw [eQ1]; exact Nat.mul_ne_zero h0 (Nat.ne_of_gt (Nat.two_pow_pos _))
    have hbl : bitlen Q = b + (225 + t) := by rw [eQ1, bitlen_scale h0, eb]
    obtain ⟨k, ek⟩ : ∃ k, k = b + c := ⟨_, rfl⟩
    have hk : (k : Int) = max ((bitlen Q : Int) - 269) (-149) + 245 := by omega
    have d1 : Q / 2 ^ k = n0 := by rw [eQ2, ek, Nat.pow_add, Nat.mul_div_mul_right _ _ (Nat.two_pow_pos _), en0]
    have d2 : Q / 2 ^ (k - 1) = G / 2 ^ (b - 1) := by rw [eQ2, ek, show b + c - 1 = (b - 1) + c by omega, Nat.pow_add, Nat.mul_div_mul_right _ _ (Nat.two_pow_pos _)]
    have d3 : Q % 2 ^ (k - 1) ≠ 0 ↔ G % 2 ^ (b - 1) ≠ 0 := by
      rw [eQ2, ek, show b + c - 1 = (b - 1) + c by omega, Nat.pow_add, Nat.mul_mod_mul_right]
      have := Nat.two_pow_pos c
      constructor
      · intro h h2; exact h (by rw [h2, Nat.zero_mul])
      · intro h; exact Nat.mul_ne_zero h (by omega)
    have d4 : inc = decide (Q / 2 ^ (k - 1) % 2 = 1 ∧ (decide (N * 2 ^ (129 + t) * 2 ^ 96 % 1 ≠ 0) = true ∨ Q % 2 ^ (k - 1) ≠ 0 ∨ n0 % 2 = 1)) := by
      rw [einc, d2, Nat.mod_one]
      congr 1
      simp only [ne_eq, not_true_eq_false, decide_false, Bool.false_eq_true, false_or]
      rw [← ne_eq, ← ne_eq, d3]
    have h := exR_some (L := N * 2 ^ (129 + t)) (d := 1) (Q := Q) (k := k) eQ hQ0 rfl hk d1.symm d4
    rw [h.1]
    clear h d4 d3 d2 d1 hk hQ0 eQ2 eQ1 eQ einc en0 eG hs1 hs2 hbl
    obtain ⟨m, em⟩ : ∃ m, m = n0 + inc.toNat := ⟨_, rfl⟩
    rw [← em]
    rw [rung_high (by omega) (by omega) (by omega)]
    rw [show k - 95 = b + 106 + t by omega]
    omega

/-- A whole number as a sample; in units of 2^-20. -/
def fi (v : Int) : Nat := told32 (.number (decide (v < 0)) v.natAbs 0)
def tw (v : Int) : Nat := told32 (.number (decide (v < 0)) v.natAbs (-20))
theorem fi_lt (v : Int) : fi v < 4294967296 := by unfold fi; exact told32_lt _
theorem tw_lt (v : Int) : tw v < 4294967296 := by unfold tw; exact told32_lt _
theorem told_zero (p : Int) : told32 (.number false 0 p) = 0 := (told_write 23 8 255 rfl).trans (write_zero 23 8 150 255 isF32 false p)
theorem fi_zero : fi 0 = 0 := told_zero 0
theorem tw_zero : tw 0 = 0 := told_zero (-20)
theorem tw_parts (v : Int) (h0 : v ≠ 0) (hb : bitlen v.natAbs ≤ 38) : ∃ m, 8388608 ≤ m ∧ m ≤ 16777216 ∧ (bitlen v.natAbs ≤ 24 → m = v.natAbs * 2 ^ (24 - bitlen v.natAbs)) ∧
    fi v = (if v < 0 then 2147483648 else 0) + ((bitlen v.natAbs + 126) * 8388608 + (m - 8388608)) ∧ tw v = (if v < 0 then 2147483648 else 0) + ((bitlen v.natAbs + 106) * 8388608 + (m - 8388608)) := by
  obtain ⟨m, h1, h2, h3, h4⟩ := exR_whole v.natAbs (by omega) hb
  refine ⟨m, h1, h2, h3, ?_, ?_⟩
  · have := told_exR (decide (v < 0)) v.natAbs 0 (by omega) (by decide)
    unfold fi
    rw [this, show v.natAbs * 2 ^ ((0 : Int) + 149).toNat = v.natAbs * 2 ^ (129 + 20) from rfl, h4 20 (by decide)]
    by_cases h : v < 0
    · rw [decide_eq_true h, if_pos rfl, if_pos h]
    · rw [decide_eq_false h, if_neg (by decide), if_neg h]
  · have := told_exR (decide (v < 0)) v.natAbs (-20) (by omega) (by decide)
    unfold tw
    rw [this, show v.natAbs * 2 ^ ((-20 : Int) + 149).toNat = v.natAbs * 2 ^ (129 + 0) from rfl, h4 0 (by decide)]
    by_cases h : v < 0
    · rw [decide_eq_true h, if_pos rfl, if_pos h]
    · rw [decide_eq_false h, if_neg (by decide), if_neg h]
theorem parts_of {a E f : Nat} {q : Bool} (hE : 1 ≤ E) (hE2 : E ≤ 252) (hf : f ≤ 8388608) (e : a = (if q then 2147483648 else 0) + (E * 8388608 + f)) :
    expN a ≠ 255 ∧ sgnB a = q ∧ pM a = (if f = 8388608 then 8388608 else f + 8388608) ∧ pE a = (if f = 8388608 then (E : Int) - 149 else (E : Int) - 150) := by
  have e2 : (q = false ∧ a = E * 8388608 + f) ∨ (q = true ∧ a = 2147483648 + (E * 8388608 + f)) := by
    cases q
    · left; rw [if_neg (by decide)] at e; exact ⟨rfl, by omega⟩
    · right; rw [if_pos rfl] at e; exact ⟨rfl, e⟩
  clear e
  have hx : expN a = if f = 8388608 then E + 1 else E := by
    unfold expN
    by_cases h : f = 8388608
    · rw [if_pos h]; omega
    · rw [if_neg h]; omega
  have hfr : fracN a = if f = 8388608 then 0 else f := by
    unfold fracN
    by_cases h : f = 8388608
    · rw [if_pos h]; omega
    · rw [if_neg h]; omega
  have hs : sgnB a = q := by
    unfold sgnB
    rcases e2 with ⟨rfl, h⟩ | ⟨rfl, h⟩
    · rw [decide_eq_false (by omega)]
    · rw [decide_eq_true (by omega)]
  have h1 : expN a ≠ 255 := by rw [hx]; split <;> omega
  have h2 : expN a ≠ 0 := by rw [hx]; split <;> omega
  refine ⟨h1, hs, ?_, ?_⟩
  · unfold pM
    rw [if_neg h2, hfr]
    split <;> omega
  · unfold pE
    rw [if_neg h1, if_neg h2, hx]
    split <;> omega
theorem bitlen_small {N k : Nat} (h : N < 2 ^ k) : bitlen N ≤ k := (bitlen_lt N k).2 h
theorem read20 (v : Int) (h0 : v ≠ 0) (hb : bitlen v.natAbs ≤ 38) : ∃ s M e, rd32 (fi v) = .number s M e ∧ rd32 (tw v) = .number s M (e - 20) ∧ expN (tw v) ≠ 255 := by
  obtain ⟨m, h1, h2, -, h4, h5⟩ := tw_parts v h0 hb
  have q1 := parts_of (a := fi v) (E := bitlen v.natAbs + 126) (f := m - 8388608) (q := decide (v < 0)) (by omega) (by omega) (by omega) (by rw [h4]; by_cases h : v < 0 <;> simp [h])
  have q2 := parts_of (a := tw v) (E := bitlen v.natAbs + 106) (f := m - 8388608) (q := decide (v < 0)) (by omega) (by omega) (by omega) (by rw [h5]; by_cases h : v < 0 <;> simp [h])
  have r1 := (smp_read _ q1.1).resolve_right (by have := fi_lt v; omega)
  have r2 := (smp_read _ q2.1).resolve_right (by have := tw_lt v; omega)
  refine ⟨sgnB (fi v), pM (fi v), pE (fi v), r1, ?_, q2.1⟩
  have es : sgnB (tw v) = sgnB (fi v) := by rw [q1.2.1, q2.2.1]
  have em : pM (tw v) = pM (fi v) := by rw [q1.2.2.1, q2.2.2.1]
  have ee : pE (tw v) = pE (fi v) - 20 := by
    rw [q1.2.2.2, q2.2.2.2]
    clear q1 q2 r1 r2 h4 h5 es em
    split <;> omega
  rw [r2, es, em, ee]
set_option maxRecDepth 100000 in
theorem read20_all (v : Int) (hb : v.natAbs < 2 ^ 38) : ∃ s M e, rd32 (fi v) = .number s M e ∧ told32 (.number s M (e - 20)) = tw v ∧ M < 16777216 ∧ -149 ≤ e ∧ e ≤ 104 := by
  by_cases h0 : v = 0
  · subst h0
    refine ⟨false, 0, -149, ?_, ?_, by decide, by decide, by decide⟩
    · have := read_zero 23 8 150 255 isF32 false 0
      have e2 : (fmt 23 8).write (.number false 0 0) = 0 := write_zero 23 8 150 255 isF32 false 0
      rw [e2] at this
      rw [fi_zero]
      exact this
    · rw [tw_zero]; exact told_zero _
  · obtain ⟨s, M, e, h1, h2, h3⟩ := read20 v h0 (bitlen_small hb)
    have hbd := read32_bd _ s M e h1
    refine ⟨s, M, e, h1, ?_, hbd.1, hbd.2.1, hbd.2.2⟩
    have hn : (rd32 (tw v)).isNaN = false := by rw [h2]; rfl
    have h4 := first_eq (tw v) (tw_lt v)
    unfold first32 at h4
    rw [hn, if_neg (by decide), h2] at h4
    exact h4.symm
def e129 : Nat := 129
theorem cast_two (j : Nat) : ((2 ^ j : Nat) : Int) = (2 : Int) ^ j := by rw [Int.natCast_pow]; rfl
theorem e129_split (b : Nat) (h : b ≤ 24) : e129 = 24 - b + (b + 105) := by unfold e129; omega
theorem scale_pow (N b : Nat) (h : b ≤ 24) : ((N * 2 ^ (24 - b) : Nat) : Int) * 2 ^ (b + 105) = (N : Int) * 2 ^ e129 := by
  rw [e129_split b h]
  generalize 24 - b = i
  generalize b + 105 = j
  rw [Int.natCast_mul, cast_two, Int.pow_add, Int.mul_assoc]
theorem sgn_mul (v m X P : Int) (e : m * X = (v.natAbs : Int) * P) : (if decide (v < 0) = true then -m else m) * X = v * P := by
  by_cases h : v < 0
  · rw [decide_eq_true h, if_pos rfl, Int.neg_mul, e, show (v.natAbs : Int) = -v by omega, Int.neg_mul, Int.neg_neg]
  · rw [decide_eq_false h, if_neg (by decide), e, show (v.natAbs : Int) = v by omega]
set_option maxRecDepth 100000 in
theorem smp_tw (v : Int) (hb : v.natAbs < 2 ^ 24) : smp (tw v) = v * 2 ^ e129 ∧ expN (tw v) ≠ 255 ∧ tw v ≠ 2147483648 := by
  by_cases h0 : v = 0
  · subst h0
    rw [tw_zero]
    exact ⟨by rw [Int.zero_mul]; decide +kernel, by decide, by decide⟩
  · have hbl := bitlen_small hb
    obtain ⟨m, h1, h2, h3, -, h5⟩ := tw_parts v h0 (by omega)
    have em := h3 hbl
    obtain ⟨hs1, hs2, hs3⟩ := bitlen_spec (n := v.natAbs) (by omega)
    have hm2 : m < 16777216 := by
      rw [em]
      have := Nat.mul_lt_mul_of_pos_right hs2 (Nat.two_pow_pos (24 - bitlen v.natAbs))
      rw [← Nat.pow_add, show bitlen v.natAbs + (24 - bitlen v.natAbs) = 24 by omega] at this
      exact this
    have q2 := parts_of (a := tw v) (E := bitlen v.natAbs + 106) (f := m - 8388608) (q := decide (v < 0)) (by omega) (by omega) (by omega) (by rw [h5]; by_cases h : v < 0 <;> simp [h])
    have hne : tw v ≠ 2147483648 := by
      rw [h5]
      clear hs1 hs2 em h3 hb q2 h5
      split <;> omega
    refine ⟨?_, q2.1, hne⟩
    obtain ⟨b, eb⟩ : ∃ b, b = bitlen v.natAbs := ⟨_, rfl⟩
    rw [← eb] at q2 em hbl
    have e1 : pM (tw v) = m := by rw [q2.2.2.1, if_neg (by omega)]; omega
    have e2 : (pE (tw v) + 149).toNat = b + 105 := by rw [q2.2.2.2, if_neg (by omega)]; omega
    have e4 : (m : Int) * 2 ^ (b + 105) = (v.natAbs : Int) * 2 ^ e129 := by rw [em]; exact scale_pow _ _ hbl
    have e5 := sgn_mul v m _ _ e4
    have e6 : pN (tw v) = if decide (v < 0) = true then -(m : Int) else (m : Int) := by
      unfold pN
      rw [if_neg q2.1, q2.2.1, e1]
    rw [← e5]
    unfold smp
    rw [e6, e2]
/-- The exact sum of such samples. -/
def longAc (V : Int) (n : Nat) : Ac := ⟨V * 2 ^ e129, n, 0, 0, 0, 0⟩
theorem longAc_zero : longAc 0 0 = acNone := by unfold longAc acNone; rw [Int.zero_mul]
theorem acOne_tw (v : Int) (hb : v.natAbs < 2 ^ 24) : acOne (tw v) = longAc v 1 := by
  obtain ⟨h1, h2, h3⟩ := smp_tw v hb
  rw [acOne_fin _ h2 h3, h1]
  rfl
theorem longAc_plus (V v : Int) (n : Nat) : acPlus (longAc V n) (longAc v 1) = longAc (V + v) (n + 1) := by
  show Ac.mk (V * 2 ^ e129 + v * 2 ^ e129) (n + 1) (0 + 0) (0 + 0) (0 + 0) (0 + 0) = _
  rw [← Int.add_mul]
  rfl
theorem ovr_long (V : Int) (n : Nat) (hn : n ≠ 0 ∨ V = 0) (hb : V.natAbs < 2 ^ 38) : ovr (longAc V n) 1 = tw V := by
  obtain ⟨P, eP⟩ : ∃ P : Nat, P = 2 ^ e129 := ⟨_, rfl⟩
  have hP : 0 < P := by rw [eP]; exact Nat.two_pow_pos _
  have ePi : (2 : Int) ^ e129 = (P : Int) := by rw [eP, cast_two]
  unfold ovr longAc
  rw [if_neg (show ¬ (0 < 0 ∨ (0 < 0 ∧ 0 < 0)) by decide), if_neg (show ¬ 0 < 0 by decide), if_neg (show ¬ 0 < 0 by decide)]
  show (if V * 2 ^ e129 = 0 then (if 0 < n ∧ 0 = n then 2147483648 else 0) else if V * 2 ^ e129 < 0 then exR (V * 2 ^ e129).natAbs 1 + 2147483648 else exR (V * 2 ^ e129).natAbs 1) = _
  rw [ePi]
  by_cases h0 : V = 0
  · subst h0
    rw [Int.zero_mul, if_pos rfl, if_neg (by omega), tw_zero]
  · have hz : V * (P : Int) ≠ 0 := Int.mul_ne_zero h0 (by omega)
    rw [if_neg hz]
    have h1 := told_exR (decide (V < 0)) V.natAbs (-20) (by omega) (by decide)
    have h2 : (V * (P : Int)).natAbs = V.natAbs * P := by rw [Int.natAbs_mul]; rfl
    unfold tw
    rw [h1, h2, show ((-20 : Int) + 149).toNat = e129 from rfl, ← eP]
    have hiff : V * (P : Int) < 0 ↔ V < 0 := by
      constructor
      · intro h
        rcases Int.lt_or_le V 0 with h3 | h3
        · exact h3
        · have := Int.mul_nonneg h3 (show (0 : Int) ≤ P by omega)
          omega
      · intro h
        exact Int.mul_neg_of_neg_of_pos h (by omega)
    by_cases h : V < 0
    · rw [if_pos (hiff.2 h), decide_eq_true h, if_pos rfl, Nat.add_comm]
    · rw [if_neg (fun k => h (hiff.1 k)), decide_eq_false h, if_neg (by decide), Nat.zero_add]

theorem small_whole (s : Bool) (N : Nat) (h : N < 18446744073709551616) : Small (.number s N 0) := ⟨small_lt (m := 2) (Nat.lt_of_lt_of_le h (by decide)) (by decide), by decide, by decide⟩
set_option maxHeartbeats 1600000 in
set_option maxRecDepth 100000 in
theorem fromInt_calls (v : Int) (hv : -4611686018427387904 ≤ v ∧ v ≤ 4611686018427387904) (w : World) : Calls Try.prog 39 #[.int .i64 v] w fun e w' => Gives w (.int .u32 ((fi v : Nat) : Int)) e w' := by
  obtain ⟨N, eN⟩ : ∃ N, N = v.natAbs := ⟨_, rfl⟩
  have HN := Lib.hid fun W => natOf_calls N W (by omega)
  have HT : Hid (∀ A c W, NatAt W (.slice A (len32 N) c) N → Calls Try.prog 71 #[.agg #[.int .i64 2, .bool (decide (v < 0)), .slice A (len32 N) c, .int .i64 0, .bool false]] W fun e w' => Gives W (.int .u32 ((fi v : Nat) : Int)) e w') := (show ∀ A c W, _ → _ from fun A c W h => by
    have := bits_calls (.number (decide (v < 0)) N 0) _ W ⟨A, c, rfl, h⟩ (small_whole _ N (by omega))
    unfold fi
    rw [← eN]
    exact this)
  obtain ⟨r, er⟩ : ∃ r, r = fi v := ⟨_, rfl⟩
  rw [← er] at HT ⊢
  clear er
  by_cases h : v < 0
  · obtain ⟨c, ec⟩ : ∃ c : Nat, (c : Int) = IntKind.u64.wrap v := ⟨(IntKind.u64.wrap v).toNat, by rw [IntKind.wrap_u64]; omega⟩
    have W1 : IntKind.u64.wrap v = (c : Int) := ec.symm
    have W2 : IntKind.u64.wrap (-(c : Int)) = (N : Int) := by rw [IntKind.wrap_u64] at ec ⊢; omega
    rw [decide_eq_true h] at HT
    clear ec eN hv
    go_enter Try.func39, Try.ntmps39
    go_wp2_with (first
      | (go_at_call 72; refine (HN.out _).mono ?_; rintro e1 w1 ⟨u, rfl, ⟨A, c1, rfl, hc1, hr1⟩, hbel⟩; have HA1 := Lib.hid (show NatAt w1 (.slice A (len32 N) c1) N from ⟨A, c1, rfl, hc1, hr1⟩); have HB1 := Lib.hid hbel; clear hbel hc1 hr1)
      | (go_at_call 71; refine (HT.out _ _ _ HA1.out).mono ?_; rintro e1 w2 ⟨rfl, hbel⟩; have HB2 := Lib.hid (ujoin HB1.out hbel); clear hbel))
    go_ret
    exact ⟨rfl, HB2.out⟩
  · have W1 : IntKind.u64.wrap v = (N : Int) := by rw [IntKind.wrap_u64]; omega
    rw [decide_eq_false h] at HT
    clear eN hv
    go_enter Try.func39, Try.ntmps39
    go_wp2_with (first
      | (go_at_call 72; refine (HN.out _).mono ?_; rintro e1 w1 ⟨u, rfl, ⟨A, c1, rfl, hc1, hr1⟩, hbel⟩; have HA1 := Lib.hid (show NatAt w1 (.slice A (len32 N) c1) N from ⟨A, c1, rfl, hc1, hr1⟩); have HB1 := Lib.hid hbel; clear hbel hc1 hr1)
      | (go_at_call 71; refine (HT.out _ _ _ HA1.out).mono ?_; rintro e1 w2 ⟨rfl, hbel⟩; have HB2 := Lib.hid (ujoin HB1.out hbel); clear hbel))
    go_ret
    exact ⟨rfl, HB2.out⟩

set_option maxHeartbeats 1600000 in
set_option maxRecDepth 100000 in
theorem scale20_calls (v : Int) (hv : v.natAbs < 2 ^ 38) (w : World) : Calls Try.prog 45 #[.int .u32 ((fi v : Nat) : Int), .int .i64 (-20)] w fun e w' => Gives w (.int .u32 ((tw v : Nat) : Int)) e w' := by
  obtain ⟨s, M, e, h1, h2, h3, h4, h5⟩ := read20_all v hv
  have HA := Lib.hid fun W => num_calls (fi v) (fi_lt v) W
  rw [h1] at HA
  have HT : Hid (∀ A c W, NatAt W (.slice A (len32 M) c) M → Calls Try.prog 71 #[.agg #[.int .i64 2, .bool s, .slice A (len32 M) c, .int .i64 (e - 20), .bool false]] W fun e w' => Gives W (.int .u32 ((tw v : Nat) : Int)) e w') := (show ∀ A c W, _ → _ from fun A c W h => by
    have := bits_calls (.number s M (e - 20)) _ W ⟨A, c, rfl, h⟩ ⟨small_lt (m := 2) (Nat.lt_of_lt_of_le h3 (by decide)) (by decide), by omega, by omega⟩
    rw [h2] at this
    exact this)
  have e1 : e - 20 = e + min (-min 20 1000) 1000 := by omega
  rw [e1] at HT
  clear e1 h2
  obtain ⟨r, er⟩ : ∃ r, r = tw v := ⟨_, rfl⟩
  obtain ⟨a, ea⟩ : ∃ r, r = fi v := ⟨_, rfl⟩
  rw [← er] at HT ⊢
  rw [← ea] at HA ⊢
  clear er ea h1 hv
  go_enter Try.func45, Try.ntmps45
  go_wp2_with (first
    | (go_at_call 84; (with_reducible refine (HA.out _).mono ?_); rintro e1 w1 ⟨u, rfl, ⟨A, c, rfl, hr⟩, hbel⟩; have HU1 := Lib.hid hr; have HB1 := Lib.hid hbel; unfold numV; clear hr hbel)
    | (go_at_call 71; refine (HT.out _ _ _ (HU1.out.below ((Below.refl _ _).alloc (Nat.le_refl _) _))).mono ?_; rintro e1 w2 ⟨rfl, hbel⟩; have HB2 := Lib.hid (ujoin (ujoin HB1.out ((Below.refl _ _).alloc (Nat.le_refl _) _)) hbel); clear hbel))
  go_ret
  exact ⟨rfl, HB2.out⟩
end Go.Proofs.Ytmeifciagepmpaa
