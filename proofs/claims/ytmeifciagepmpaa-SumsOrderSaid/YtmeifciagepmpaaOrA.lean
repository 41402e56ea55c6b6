/- For SumsOrder: a pair, parts of a list, append and slice as the walk meets them. -/
import Derived.Test.YtmeifciagepmpaaShuf
namespace Go.Proofs.Ytmeifciagepmpaa
open Go.RowKit Go.Proofs.YtmeifciagepmpaaW.PrintWords
set_option linter.unusedSimpArgs false
set_option linter.unusedVariables false

theorem wpList_append_want {P : Program} {ops : Array Oper} {rest : List Oper} {o : Oper} {a : Act} {w : World} {Q : Exit → Act → World → Prop} (hw : Region.wanted o (yielded ops a.tmps) = true) (s x : Operand) (t : TypeId)
    (ho : o.op = .call { callee := .builtin .append, args := #[s, x], argTypes := #[t, t] }) (vs vx : Value) (hs : a.eval s = vs) (hx : a.eval x = vx) (v : Value) (w' : World)
    (hr : (Builtin.append_ #[t, t] o.type #[vs, vx]).run P w = .ok v w') (h : wpList P ops Q rest (a.put o.dst v) w') : wpList P ops Q (o :: rest) a w :=
  wpList_step fun _ hK => by
    rw [if_pos hw]
    unfold Oper.wp execOp
    simp only [ho, resolve, invoke, builtin, Sem.run_bind, Sem.run_pure, Result.andThen_ok, List.map_toArray, List.map_cons, List.map_nil, hs, hx, hr]
    exact hK _ _ h
def partA (A : Option Addr) (m c : Nat) : Option Addr := if c = m then A else A.map (·.add m)
set_option maxRecDepth 100000 in
theorem wpList_slice_low {ops : Array Oper} {rest : List Oper} {o : Oper} {a : Act} {w : World} {Q : Exit → Act → World → Prop} (hgd : o.guard = none) (x h0 : Operand) (ho : o.op = .slice 23 x none (some h0) none)
    (A : Option Addr) (n c m : Nat) (hx : a.eval x = .slice A n c) (hm : a.eval h0 = .int .i64 (m : Int)) (hc : m ≤ c) (h : wpList Try.prog ops Q rest (a.put o.dst (.slice A m c)) w) : wpList Try.prog ops Q (o :: rest) a w :=
  wpList_plain hgd fun _ hK => by
    unfold Oper.wp execOp
    have e : (if c = 0 then A else A.map (·.add (0 * 1))) = A := by
      by_cases h : c = 0
      · rw [if_pos h]
      · rw [if_neg h, Nat.zero_mul]; cases A <;> simp [u_add0]
    have h2 : (0 : Int) ≤ (m : Int) ∧ (m : Int) ≤ (c : Int) := by omega
    simp only [ho, Option.map_some, Option.map_none, hx, hm, Instr.sliceAt, Instr.slice, Instr.sliceBounds, Instr.sliceBound, asIntOf, Sem.run_bind, run_underlying Try.underlying23, Sem.run_pure, Result.andThen_ok, if_pos h2, Int.toNat_natCast, u_size, Nat.sub_zero, e]
    exact hK _ _ h
set_option maxRecDepth 100000 in
theorem wpList_slice_high {ops : Array Oper} {rest : List Oper} {o : Oper} {a : Act} {w : World} {Q : Exit → Act → World → Prop} (hgd : o.guard = none) (x l0 : Operand) (ho : o.op = .slice 23 x (some l0) none none)
    (A : Option Addr) (n c m : Nat) (hx : a.eval x = .slice A n c) (hm : a.eval l0 = .int .i64 (m : Int)) (hc : m ≤ n) (h : wpList Try.prog ops Q rest (a.put o.dst (.slice (partA A m c) (n - m) (c - m))) w) : wpList Try.prog ops Q (o :: rest) a w :=
  wpList_plain hgd fun _ hK => by
    unfold Oper.wp execOp
    have e : (if c = m then A else A.map (·.add (m * 1))) = partA A m c := by rw [Nat.mul_one]; rfl
    have h2 : (0 : Int) ≤ (m : Int) ∧ (m : Int) ≤ (n : Int) := by omega
    simp only [ho, Option.map_some, Option.map_none, hx, hm, Instr.sliceAt, Instr.slice, Instr.sliceBounds, Instr.sliceBound, asIntOf, Sem.run_bind, run_underlying Try.underlying23, Sem.run_pure, Result.andThen_ok, if_pos h2, Int.toNat_natCast, u_size, Nat.sub_zero, e]
    exact hK _ _ h

/-! ### A sample and its negative -/
theorem xor_top (a : Nat) (h : a < 2147483648) : a ^^^ 2147483648 = a + 2147483648 := by
  have e : a ^^^ 2147483648 = a ||| 2147483648 := Nat.eq_of_testBit_eq fun i => by
    rw [Nat.testBit_xor, Nat.testBit_or]
    by_cases h1 : i = 31
    · subst h1
      rw [Nat.testBit_lt_two_pow (x := a) (i := 31) h]
      simp
    · rw [show (2147483648 : Nat) = 2 ^ 31 from rfl, Nat.testBit_two_pow, decide_eq_false (Ne.symm h1)]
      simp
  have h2 := Nat.shiftLeft_add_eq_or_of_lt (i := 31) (b := a) h 1
  rw [show (1 : Nat) <<< 31 = 2147483648 by decide] at h2
  rw [e, Nat.or_comm, ← h2, Nat.add_comm]
def negX (a : Nat) : Nat := if a < 2147483648 then a + 2147483648 else a - 2147483648
theorem negX_lt (a : Nat) (h : a < 4294967296) : negX a < 4294967296 := by unfold negX; split <;> omega
theorem u_flip (a : Nat) (h : a < 4294967296) : bits .xor .u32 (a : Int) 2147483648 = ((negX a : Nat) : Int) := by
  have e : a ^^^ 2147483648 = negX a := by
    unfold negX
    by_cases h1 : a < 2147483648
    · rw [if_pos h1, xor_top a h1]
    · rw [if_neg h1]
      obtain ⟨b, rfl⟩ : ∃ b, a = b + 2147483648 := ⟨a - 2147483648, by omega⟩
      rw [← xor_top b (by omega), Nat.xor_assoc, Nat.xor_self, Nat.xor_zero, xor_top b (by omega)]
      omega
  have hl := negX_lt a h
  have ha : a % 2 ^ 32 = a := Nat.mod_eq_of_lt h
  have hb : (2147483648 : Nat) % 2 ^ 32 = 2147483648 := rfl
  have h2 : bits .xor .u32 (a : Int) ((2147483648 : Nat) : Int) = ((negX a : Nat) : Int) := by
    simp only [bits, BitVec.ofInt_natCast, BitVec.toNat_xor, BitVec.toNat_ofNat]
    rw [show IntKind.u32.bits = 32 from rfl, ha, hb, e]
    rw [IntKind.wrap_u32]; omega
  exact h2
theorem negX_exp (a : Nat) : expN (negX a) = expN a := by unfold expN negX; split <;> omega
theorem negX_frac (a : Nat) : fracN (negX a) = fracN a := by unfold fracN negX; split <;> omega
theorem negX_sgn (a : Nat) (h : a < 4294967296) : sgnB (negX a) = !sgnB a := by
  unfold sgnB negX
  by_cases h1 : a < 2147483648
  · rw [if_pos h1, decide_eq_true (show 2147483648 ≤ a + 2147483648 by omega), decide_eq_false (by omega)]; rfl
  · rw [if_neg h1, decide_eq_false (show ¬ 2147483648 ≤ a - 2147483648 by omega), decide_eq_true (by omega)]; rfl
theorem smp_negX (a : Nat) (h : a < 4294967296) : smp (negX a) = - smp a := by
  have e1 : pM (negX a) = pM a := by unfold pM; rw [negX_exp, negX_frac]
  have e2 : pE (negX a) = pE a := by unfold pE; rw [negX_exp]
  unfold smp pN
  rw [e1, e2, negX_exp, negX_sgn a h]
  by_cases h1 : expN a = 255
  · rw [if_pos h1, if_pos h1]; simp
  · rw [if_neg h1, if_neg h1]
    cases sgnB a <;> simp [Int.neg_mul]

/-- The exact sum takes a sample and its negative as nothing but no minus 0. -/
def pairAc (p : Nat) : Ac := ⟨0, 2, 0, 0, 0, p⟩
theorem acOne_pair (a : Nat) (h : a < 4294967296) (hx : expN a ≠ 255) : ∃ p, p ≤ 1 ∧ acPlus (acOne a) (acOne (negX a)) = pairAc p := by
  have hs := smp_negX a h
  have hx2 : expN (negX a) ≠ 255 := by rw [negX_exp]; exact hx
  by_cases h1 : a = 2147483648
  · subst h1
    refine ⟨1, Nat.le_refl _, ?_⟩
    rw [acOne_no, acOne_fin _ hx2 (by decide), hs, smp_nought]
    rfl
  · by_cases h2 : negX a = 2147483648
    · refine ⟨1, Nat.le_refl _, ?_⟩
      rw [h2] at hs
      rw [h2, acOne_no, acOne_fin _ hx h1, show smp a = 0 by rw [smp_nought] at hs; omega]
      rfl
    · refine ⟨0, Nat.zero_le _, ?_⟩
      rw [acOne_fin _ hx h1, acOne_fin _ hx2 h2, hs]
      show Ac.mk (smp a + -smp a) (1 + 1) (0 + 0) (0 + 0) (0 + 0) (0 + 0) = Ac.mk 0 2 0 0 0 0
      rw [Int.add_right_neg]
theorem exR_pos {L : Nat} (h : L ≠ 0) : exR L 1 ≠ 0 := by
  obtain ⟨Q, eQ⟩ : ∃ Q, Q = L * 2 ^ 96 / 1 := ⟨_, rfl⟩
  have eQ1 : Q = L * 2 ^ 96 := by rw [eQ, Nat.div_one]
  have hQ0 : Q ≠ 0 := by
    rw [eQ1]
    exact Nat.ne_of_gt (Nat.mul_pos (Nat.pos_of_ne_zero h) (Nat.two_pow_pos _))
  obtain ⟨k, ek⟩ : ∃ k : Nat, (k : Int) = max ((bitlen Q : Int) - 269) (-149) + 245 := ⟨(max ((bitlen Q : Int) - 269) (-149) + 245).toNat, by omega⟩
  have h1 := exR_some (L := L) (d := 1) (Q := Q) (k := k) eQ hQ0 rfl ek rfl rfl
  rw [h1.1]
  have h2 := h1.2.1
  have h3 := h1.2.2.1
  have hi := toNat_le1 (decide (Q / 2 ^ (k - 1) % 2 = 1 ∧ (decide (L * 2 ^ 96 % 1 ≠ 0) = true ∨ Q % 2 ^ (k - 1) ≠ 0 ∨ Q / 2 ^ k % 2 = 1)))
  have hp : 1 ≤ Q / 2 ^ k := by
    rw [Nat.le_div_iff_mul_le (Nat.two_pow_pos _), Nat.one_mul]
    by_cases hk : k = 96
    · rw [hk, eQ1]
      exact Nat.le_mul_of_pos_left _ (Nat.pos_of_ne_zero h)
    · have hb := (bitlen_spec hQ0).1
      refine Nat.le_trans (Nat.pow_le_pow_right (by decide) ?_) hb
      omega
  obtain ⟨m, em⟩ : ∃ m, m = Q / 2 ^ k + (decide (Q / 2 ^ (k - 1) % 2 = 1 ∧ (decide (L * 2 ^ 96 % 1 ≠ 0) = true ∨ Q % 2 ^ (k - 1) ≠ 0 ∨ Q / 2 ^ k % 2 = 1))).toNat := ⟨_, rfl⟩
  rw [← em]
  have hm1 : 1 ≤ m := by omega
  have hm2 : m ≤ 16777216 := by omega
  clear em hi hp h2 h1 ek hQ0 eQ1 eQ h
  rcases Nat.lt_or_ge m 8388608 with h4 | h4
  · rw [rung_low h4]; omega
  · rw [rung_high h3 h4 hm2]; omega
theorem ovr_pair (S : Ac) (p : Nat) (hp : p ≤ 1) (hno : S.no ≤ S.n) : ovr (acPlus S (pairAc p)) 1 = if ovr S 1 = 2147483648 then 0 else ovr S 1 := by
  cases S with
  | mk z n nans up dn no =>
    have hno' : no ≤ n := hno
    have e : acPlus ⟨z, n, nans, up, dn, no⟩ (pairAc p) = ⟨z, n + 2, nans, up, dn, no + p⟩ := by
      show Ac.mk (z + 0) (n + 2) (nans + 0) (up + 0) (dn + 0) (no + p) = _
      rw [Int.add_zero]; rfl
    rw [e]
    unfold ovr
    simp only
    by_cases h1 : 0 < nans ∨ (0 < up ∧ 0 < dn)
    · rw [if_pos h1, if_pos h1]; rfl
    · rw [if_neg h1, if_neg h1]
      by_cases h2 : 0 < up
      · rw [if_pos h2, if_pos h2]; rfl
      · rw [if_neg h2, if_neg h2]
        by_cases h3 : 0 < dn
        · rw [if_pos h3, if_pos h3]; rfl
        · rw [if_neg h3, if_neg h3]
          by_cases h4 : z = 0
          · rw [if_pos h4, if_pos h4, if_neg (show ¬ (0 < n + 2 ∧ no + p = n + 2) by omega)]
            by_cases h5 : 0 < n ∧ no = n
            · rw [if_pos h5]; rfl
            · rw [if_neg h5]; rfl
          · have hz := exR_pos (L := z.natAbs) (by omega)
            have hl := exR_lt z.natAbs 1
            rw [if_neg h4, if_neg h4]
            obtain ⟨r, er⟩ : ∃ r, r = exR z.natAbs 1 := ⟨_, rfl⟩
            rw [← er] at hz hl ⊢
            by_cases h5 : z < 0
            · rw [if_pos h5, if_neg (by omega)]
            · rw [if_neg h5, if_neg (by omega)]
/-- x, then the list, then the negative of x. -/
def withPair (a : Nat) (n : Nat) (y : Nat → Nat) : Nat → Nat := catN (catN (ux [a]) 1 y) (1 + n) (ux [negX a])
theorem exactOf_pair (a n : Nat) (y : Nat → Nat) (h : a < 4294967296) (hx : expN a ≠ 255) : exactOf (withPair a n y) (1 + n + 1) = if exactOf y n = 2147483648 then 0 else exactOf y n := by
  obtain ⟨p, hp, e⟩ := acOne_pair a h hx
  have e2 : acAll acNone (withPair a n y) (1 + n + 1) = acPlus (acAll acNone y n) (pairAc p) := by
    unfold withPair
    rw [acAll_cat, acAll_cat, acAll_from _ y n]
    show acPlus (acPlus (acPlus acNone (acOne a)) (acAll acNone y n)) (acOne (negX a)) = _
    rw [acNone_plus, acPlus_comm (acOne a), acPlus_assoc, e]
  unfold exactOf
  rw [e2, ovr_pair _ p hp (acOk_none.all y n).no]
theorem exactOf_perm {x y : Nat → Nat} {n : Nat} (h : acAll acNone y n = acAll acNone x n) : exactOf y n = exactOf x n := by unfold exactOf; rw [h]
theorem exactOf_cat0 (x y : Nat → Nat) (n : Nat) : exactOf (catN x 0 y) (0 + n) = exactOf y n := by
  unfold exactOf
  rw [acAll_cat]
  rfl
end Go.Proofs.Ytmeifciagepmpaa
