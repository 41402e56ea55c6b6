/- For SumsOrder: a pair, parts of a list, append and slice as the walk meets them. halidelaw3.SumsOrder, the walk. -/
import Derived.Test.YtmeifciagepmpaaRowS
namespace Go.Proofs.Ytmeifciagepmpaa
open Go.RowKit Go.Proofs.YtmeifciagepmpaaW.PrintWords
set_option linter.unusedSimpArgs false
set_option linter.unusedVariables false

theorem wpList_append_want {P : Program} {ops : Array Oper} {rest : List Oper} {o : Oper} {a : Act} {w : World} {Q : Exit → Act → World → Prop} (hw : Region.wanted o (yielded ops a.tmps) = true) (s x : Operand) (t : TypeId)
    (ho : o.op = .call { callee := .builtin .append, args := #[s, x], argTypes := #[t, t] }) (vs vx : Value) (hs : a.eval s = vs) (hx : a.eval x = vx) (v : Value) (w' : World)
    (hr : (Builtin.append_ #[t, t] o.type #[vs, vx]).run P w = .ok v w') (h : wpList P ops Q rest (a.put o.dst v) w') : wpList P ops Q (o :: rest) a w :=
  wpList_step fun _ hK => by
    rw [if_pos hw]
    unfold Oper.wp execOp
    simp only [ho, resolve, invoke, builtin, Sem.run_bind, Sem.run_pure, Result.andThen_ok, List.map_toArray, List.map_cons, List.map_nil, hs, hx, hr]
    exact hK _ _ h
def partA (A : Option Addr) (m c : Nat) : Option Addr := if c = m then A else A.map (·.add m)
set_option maxRecDepth 100000 in
theorem wpList_slice_low {ops : Array Oper} {rest : List Oper} {o : Oper} {a : Act} {w : World} {Q : Exit → Act → World → Prop} (hgd : o.guard = none) (x h0 : Operand) (ho : o.op = .slice 23 x none (some h0) none)
    (A : Option Addr) (n c m : Nat) (hx : a.eval x = .slice A n c) (hm : a.eval h0 = .int .i64 (m : Int)) (hc : m ≤ c) (h : wpList Try.prog ops Q rest (a.put o.dst (.slice A m c)) w) : wpList Try.prog ops Q (o :: rest) a w :=
  wpList_plain hgd fun _ hK => by
    unfold Oper.wp execOp
    have e : (if c = 0 then A else A.map (·.add (0 * 1))) = A := by
      by_cases h : c = 0
      · rw [if_pos h]
      · rw [if_neg h, Nat.zero_mul]; cases A <;> simp [u_add0]
    have h2 : (0 : Int) ≤ (m : Int) ∧ (m : Int) ≤ (c : Int) := by omega
    simp only [ho, Option.map_some, Option.map_none, hx, hm, Instr.sliceAt, Instr.slice, Instr.sliceBounds, Instr.sliceBound, asIntOf, Sem.run_bind, run_underlying Try.underlying23, Sem.run_pure, Result.andThen_ok, if_pos h2, Int.toNat_natCast, u_size, Nat.sub_zero, e]
    exact hK _ _ h
set_option maxRecDepth 100000 in
theorem wpList_slice_high {ops : Array Oper} {rest : List Oper} {o : Oper} {a : Act} {w : World} {Q : Exit → Act → World → Prop} (hgd : o.guard = none) (x l0 : Operand) (ho : o.op = .slice 23 x (some l0) none none)
    (A : Option Addr) (n c m : Nat) (hx : a.eval x = .slice A n c) (hm : a.eval l0 = .int .i64 (m : Int)) (hc : m ≤ n) (h : wpList Try.prog ops Q rest (a.put o.dst (.slice (partA A m c) (n - m) (c - m))) w) : wpList Try.prog ops Q (o :: rest) a w :=
  wpList_plain hgd fun _ hK => by
    unfold Oper.wp execOp
    have e : (if c = m then A else A.map (·.add (m * 1))) = partA A m c := by rw [Nat.mul_one]; rfl
    have h2 : (0 : Int) ≤ (m : Int) ∧ (m : Int) ≤ (n : Int) := by omega
    simp only [ho, Option.map_some, Option.map_none, hx, hm, Instr.sliceAt, Instr.slice, Instr.sliceBounds, Instr.sliceBound, asIntOf, Sem.run_bind, run_underlying Try.underlying23, Sem.run_pure, Result.andThen_ok, if_pos h2, Int.toNat_natCast, u_size, Nat.sub_zero, e]
    exact hK _ _ h

/-! ### A sample and its negative -/
theorem xor_top (a : Nat) (h : a < 2147483648) : a ^^^ 2147483648 = a + 2147483648 := by
  have e : a ^^^ 2147483648 = a ||| 2147483648 := Nat.eq_of_testBit_eq fun i => by
    rw [Nat.testBit_xor, Nat.testBit_or]
    by_cases h1 : i = 31
    · subst h1
      rw [Nat.testBit_lt_two_pow (x := a) (i := 31) h]
      simp
    · rw [show (2147483648 : Nat) = 2 ^ 31 from rfl, Nat.testBit_two_pow, decide_eq_false (Ne.symm h1)]
      simp
  have h2 := Nat.shiftLeft_add_eq_or_of_lt (i := 31) (b := a) h 1
  rw [show (1 : Nat) <<< 31 = 2147483648 by decide] at h2
  rw [e, Nat.or_comm, ← h2, Nat.add_comm]
def negX (a : Nat) : Nat := if a < 2147483648 then a + 2147483648 else a - 2147483648
theorem negX_lt (a : Nat) (h : a < 4294967296) : negX a < 4294967296 := by unfold negX; split <;> omega
theorem u_flip (a : Nat) (h : a < 4294967296) : bits .xor .u32 (a : Int) 2147483648 = ((negX a : Nat) : Int) := by
  have e : a ^^^ 2147483648 = negX a := by
    unfold negX
    by_cases h1 : a < 2147483648
    · rw [if_pos h1, xor_top a h1]
    · rw [if_neg h1]
      obtain ⟨b, rfl⟩ : ∃ b, a = b + 2147483648 := ⟨a - 2147483648, by omega⟩
      rw [← xor_top b (by omega), Nat.xor_assoc, Nat.xor_self, Nat.xor_zero, xor_top b (by omega)]
      omega
  have hl := negX_lt a h
  have ha : a % 2 ^ 32 = a := Nat.mod_eq_of_lt h
  have hb : (2147483648 : Nat) % 2 ^ 32 = 2147483648 := rfl
  have h2 : bits .xor .u32 (a : Int) ((2147483648 : Nat) : Int) = ((negX a : Nat) : Int) := by
    simp only [bits, BitVec.ofInt_natCast, BitVec.toNat_xor, BitVec.toNat_ofNat]
    rw [show IntKind.u32.bits = 32 from rfl, ha, hb, e]
    rw [IntKind.wrap_u32]; omega
  exact h2
theorem negX_exp (a : Nat) : expN (negX a) = expN a := by unfold expN negX; split <;> omega
theorem negX_frac (a : Nat) : fracN (negX a) = fracN a := by unfold fracN negX; split <;> omega
theorem negX_sgn (a : Nat) (h : a < 4294967296) : sgnB (negX a) = !sgnB a := by
  unfold sgnB negX
  by_cases h1 : a < 2147483648
  · rw [if_pos h1, decide_eq_true (show 2147483648 ≤ a + 2147483648 by omega), decide_eq_false (by omega)]; rfl
  · rw [if_neg h1, decide_eq_false (show ¬ 2147483648 ≤ a - 2147483648 by omega), decide_eq_true (by omega)]; rfl
theorem smp_negX (a : Nat) (h : a < 4294967296) : smp (negX a) = - smp a := by
  have e1 : pM (negX a) = pM a := by unfold pM; rw [negX_exp, negX_frac]
  have e2 : pE (negX a) = pE a := by unfold pE; rw [negX_exp]
  unfold smp pN
  rw [e1, e2, negX_exp, negX_sgn a h]
  by_cases h1 : expN a = 255
  · rw [if_pos h1, if_pos h1]; simp
  · rw [if_neg h1, if_neg h1]
    cases sgnB a <;> simp [Int.neg_mul]

/-- The exact sum takes a sample and its negative as nothing but no minus 0. -/
def pairAc (p : Nat) : Ac := ⟨0, 2, 0, 0, 0, p⟩
theorem acOne_pair (a : Nat) (h : a < 4294967296) (hx : expN a ≠ 255) : ∃ p, p ≤ 1 ∧ acPlus (acOne a) (acOne (negX a)) = pairAc p := by
  have hs := smp_negX a h
  have hx2 : expN (negX a) ≠ 255 := by rw [negX_exp]; exact hx
  by_cases h1 : a = 2147483648
  · subst h1
    refine ⟨1, Nat.le_refl _, ?_⟩
    rw [acOne_no, acOne_fin _ hx2 (by decide), hs, smp_nought]
    rfl
  · by_cases h2 : negX a = 2147483648
    · refine ⟨1, Nat.le_refl _, ?_⟩
      rw [h2] at hs
      rw [h2, acOne_no, acOne_fin _ hx h1, show smp a = 0 by rw [smp_nought] at hs; omega]
      rfl
    · refine ⟨0, Nat.zero_le _, ?_⟩
      rw [acOne_fin _ hx h1, acOne_fin _ hx2 h2, hs]
      show Ac.mk (smp a + -smp a) (1 + 1) (0 + 0) (0 + 0) (0 + 0) (0 + 0) = Ac.mk 0 2 0 0 0 0
      rw [Int.add_right_neg]
theorem exR_pos {L : Nat} (h : L ≠ 0) : exR L 1 ≠ 0 := by
  obtain ⟨Q, eQ⟩ : ∃ Q, Q = L * 2 ^ 96 / 1 := ⟨_, rfl⟩
  have eQ1 : Q = L * 2 ^ 96 := by rw [eQ, Nat.div_one]
  have hQ0 : Q ≠ 0 := by
    rw [eQ1]
    exact Nat.ne_of_gt (Nat.mul_pos (Nat.pos_of_ne_zero h) (Nat.two_pow_pos _))
  obtain ⟨k, ek⟩ : ∃ k : Nat, (k : Int) = max ((bitlen Q : Int) - 269) (-149) + 245 := ⟨(max ((bitlen Q : Int) - 269) (-149) + 245).toNat, by omega⟩
  have h1 := exR_some (L := L) (d := 1) (Q := Q) (k := k) eQ hQ0 rfl ek rfl rfl
  rw [h1.1]
  have h2 := h1.2.1
  have h3 := h1.2.2.1
  have hi := toNat_le1 (decide (Q / 2 ^ (k - 1) % 2 = 1 ∧ (decide (L * 2 ^ 96 % 1 ≠ 0) = true ∨ Q % 2 ^ (k - 1) ≠ 0 ∨ Q / 2 ^ k % 2 = 1)))
  have hp : 1 ≤ Q / 2 ^ k := by
    rw [Nat.le_div_iff_mul_le (Nat.two_pow_pos _), Nat.one_mul]
    by_cases hk : k = 96
    · rw [hk, eQ1]
      exact Nat.le_mul_of_pos_left _ (Nat.pos_of_ne_zero h)
    · have hb := (bitlen_spec hQ0).1
      refine Nat.le_trans (Nat.pow_le_pow_right (by decide) ?_) hb
      omega
  obtain ⟨m, em⟩ : ∃ m, m = Q / 2 ^ k + (decide (Q / 2 ^ (k - 1) % 2 = 1 ∧ (decide (L * 2 ^ 96 % 1 ≠ 0) = true ∨ Q % 2 ^ (k - 1) ≠ 0 ∨ Q / 2 ^ k % 2 = 1))).toNat := ⟨_, rfl⟩
  rw [← em]
  have hm1 : 1 ≤ m := by omega
  have hm2 : m ≤ 16777216 := by omega
  clear em hi hp h2 h1 ek hQ0 eQ1 eQ h
  rcases Nat.lt_or_ge m 8388608 with h4 | h4
  · rw [rung_low h4]; omega
  · rw [rung_high h3 h4 hm2]; omega
theorem ovr_pair (S : Ac) (p : Nat) (hp : p ≤ 1) (hno : S.no ≤ S.n) : ovr (acPlus S (pairAc p)) 1 = if ovr S 1 = 2147483648 then 0 else ovr S 1 := by
  cases S with
  | mk z n nans up dn no =>
    have hno' : no ≤ n := hno
    have e : acPlus ⟨z, n, nans, up, dn, no⟩ (pairAc p) = ⟨z, n + 2, nans, up, dn, no + p⟩ := by
      show Ac.mk (z + 0) (n + 2) (nans + 0) (up + 0) (dn + 0) (no + p) = _
      rw [Int.add_zero]; rfl
    rw [e]
    unfold ovr
    simp only
    by_cases h1 : 0 < nans ∨ (0 < up ∧ 0 < dn)
    · rw [if_pos h1, if_pos h1]; rfl
    · rw [if_neg h1, if_neg h1]
      by_cases h2 : 0 < up
      · rw [if_pos h2, if_pos h2]; rfl
      · rw [if_neg h2, if_neg h2]
        by_cases h3 : 0 < dn
        · rw [if_pos h3, if_pos h3]; rfl
        · rw [if_neg h3, if_neg h3]
          by_cases h4 : z = 0
          · rw [if_pos h4, if_pos h4, if_neg (show ¬ (0 < n + 2 ∧ no + p = n + 2) by omega)]
            by_cases h5 : 0 < n ∧ no = n
            · rw [if_pos h5]; rfl
            · rw [if_neg h5]; rfl
          · have hz := exR_pos (L := z.natAbs) (by omega)
            have hl := exR_lt z.natAbs 1
            rw [if_neg h4, if_neg h4]
            obtain ⟨r, er⟩ : ∃ r, r = exR z.natAbs 1 := ⟨_, rfl⟩
            rw [← er] at hz hl ⊢
            by_cases h5 : z < 0
            · rw [if_pos h5, if_neg (by omega)]
            · rw [if_neg h5, if_neg (by omega)]
/-- x, then the list, then the negative of x. -/
def withPair (a : Nat) (n : Nat) (y : Nat → Nat) : Nat → Nat := catN (catN (ux [a]) 1 y) (1 + n) (ux [negX a])
theorem exactOf_pair (a n : Nat) (y : Nat → Nat) (h : a < 4294967296) (hx : expN a ≠ 255) : exactOf (withPair a n y) (1 + n + 1) = if exactOf y n = 2147483648 then 0 else exactOf y n := by
  obtain ⟨p, hp, e⟩ := acOne_pair a h hx
  have e2 : acAll acNone (withPair a n y) (1 + n + 1) = acPlus (acAll acNone y n) (pairAc p) := by
    unfold withPair
    rw [acAll_cat, acAll_cat, acAll_from _ y n]
    show acPlus (acPlus (acPlus acNone (acOne a)) (acAll acNone y n)) (acOne (negX a)) = _
    rw [acNone_plus, acPlus_comm (acOne a), acPlus_assoc, e]
  unfold exactOf
  rw [e2, ovr_pair _ p hp (acOk_none.all y n).no]
theorem exactOf_perm {x y : Nat → Nat} {n : Nat} (h : acAll acNone y n = acAll acNone x n) : exactOf y n = exactOf x n := by unfold exactOf; rw [h]
theorem exactOf_cat0 (x y : Nat → Nat) (n : Nat) : exactOf (catN x 0 y) (0 + n) = exactOf y n := by
  unfold exactOf
  rw [acAll_cat]
  rfl

/-- The list of the call's own, and two Accs. -/
structure OrdS (w1 W : World) (A : Option Addr) (n c : Nat) (y : Nat → Nat) (g1 g2 : Nat) (S T : Ac) : Prop where
  own : OwnV W w1.heap.size (.slice A n c) n y
  bel : Below w1.heap.size w1 W
  a1 : AcAt W g1 S
  a2 : AcAt W g2 T
  n1 : w1.heap.size ≤ g1
  n2 : w1.heap.size ≤ g2
  ne : g1 ≠ g2
  m1 : ∀ ad, A = some ad → ad.block ≠ g1
  m2 : ∀ ad, A = some ad → ad.block ≠ g2
theorem OwnV.rowA {W : World} {base n c : Nat} {A : Option Addr} {x : Nat → Nat} (h : OwnV W base (.slice A n c) n x) : RowU W A n x ∧ n ≤ c ∧ (∀ ad, A = some ad → base ≤ ad.block ∧ ad.block < W.heap.size ∧ (Value.slice A n c).ownBlock = some ad.block) ∧ (A = none → n = 0) := by
  obtain ⟨A1, c1, e, h1, h2, h3, h4⟩ := h.row
  injection e with e1 _ e2
  subst e1 e2
  exact ⟨h2, h1, h3, h4⟩
theorem own_ne {A : Option Addr} {W : World} {base n c g : Nat} {x : Nat → Nat} (h : OwnV W base (.slice A n c) n x) (hm : ∀ ad, A = some ad → ad.block ≠ g) : (Value.slice A n c).ownBlock = none ∨ (Value.slice A n c).ownBlock ≠ some g := by
  have h3 := h.rowA.2.2.1
  cases A with
  | none => left; rfl
  | some ad =>
    right
    rw [(h3 ad rfl).2.2]
    intro e
    injection e with e
    exact hm ad rfl e
section
variable {w1 W W' : World} {A : Option Addr} {n c : Nat} {y : Nat → Nat} {g1 g2 : Nat} {S T S' : Ac}
theorem OrdS.below (h : OrdS w1 W A n c y g1 g2 S T) (hb : Below W.heap.size W W') : OrdS w1 W' A n c y g1 g2 S T :=
  ⟨h.own.below hb, ujoin h.bel hb, h.a1.below hb, h.a2.below hb, h.n1, h.n2, h.ne, h.m1, h.m2⟩
theorem OrdS.set1 (h : OrdS w1 W A n c y g1 g2 S T) (hA : AccOf W g1 S' W') : OrdS w1 W' A n c y g1 g2 S' T :=
  ⟨h.own.kept hA.gr (own_ne h.own h.m1), h.bel.grown hA.gr h.bel.size (fun k e => by injection e with e; rw [← e]; exact h.n1), hA.at, h.a2.grown hA.gr (Ne.symm h.ne), h.n1, h.n2, h.ne, h.m1, h.m2⟩
theorem OrdS.set2 (h : OrdS w1 W A n c y g1 g2 S T) (hA : AccOf W g2 S' W') : OrdS w1 W' A n c y g1 g2 S S' :=
  ⟨h.own.kept hA.gr (own_ne h.own h.m2), h.bel.grown hA.gr h.bel.size (fun k e => by injection e with e; rw [← e]; exact h.n2), h.a1.grown hA.gr h.ne, hA.at, h.n1, h.n2, h.ne, h.m1, h.m2⟩
theorem OrdS.row (h : OrdS w1 W A n c y g1 g2 S T) : RowU W A n y := h.own.rowA.1
theorem OrdS.size (h : OrdS w1 W A n c y g1 g2 S T) : w1.heap.size ≤ W.heap.size := h.bel.size
end
theorem ordS_new {w1 W W1 W2 : World} {A : Option Addr} {n c : Nat} {y : Nat → Nat} {g1 g2 : Nat} (ho : OwnV W w1.heap.size (.slice A n c) n y) (hb : Below w1.heap.size w1 W) (h1 : W.heap.size ≤ g1) (a1 : AcAt W1 g1 acNone) (b1 : Below W.heap.size W W1) (h2 : W1.heap.size ≤ g2) (a2 : AcAt W2 g2 acNone) (b2 : Below W1.heap.size W1 W2) : OrdS w1 W2 A n c y g1 g2 acNone acNone := by
  have hl := a1.lt
  have hs1 := b1.size
  have hs := hb.size
  have hr := ho.rowA.2.2.1
  exact ⟨(ho.below b1).below b2, ujoin (ujoin hb b1) b2, a1.below b2, a2, by omega, by omega, by omega, fun ad e => by have := (hr ad e).2.1; omega, fun ad e => by have := (hr ad e).2.1; omega⟩
theorem RowU.partA {w : World} {A : Option Addr} {n c : Nat} {x : Nat → Nat} (h : RowU w A n x) (hc' : n ≤ c) (m : Nat) (hm : m ≤ n) : RowU w (partA A m c) (n - m) (fun k => x (k + m)) := by
  by_cases h0 : n - m = 0
  · rw [h0]; exact RowU.nil _ _ _
  · obtain ⟨ad, e, hc⟩ := h (by omega)
    subst e
    unfold Go.Proofs.Ytmeifciagepmpaa.partA
    by_cases hcm : c = m
    · omega
    · rw [if_neg hcm]
      by_cases hm0 : m = 0
      · subst hm0
        show RowU w (some (ad.add 0)) _ _
        rw [u_add0]
        exact h
      · exact h.part m (by omega) (n - m) (by omega)
theorem partA_block {A : Option Addr} {m c g : Nat} (h : ∀ ad, A = some ad → ad.block ≠ g) : ∀ ad, partA A m c = some ad → ad.block ≠ g := by
  intro ad e
  unfold partA at e
  split at e
  · exact h ad e
  · obtain ⟨a0, e1, e2⟩ := Option.map_eq_some_iff.1 e
    rw [← e2, show (a0.add m).block = a0.block by unfold Addr.add; split <;> rfl]
    exact h a0 e1
theorem ord_app1 {w1 W : World} {A : Option Addr} {n c : Nat} {y : Nat → Nat} {g1 g2 : Nat} {S T : Ac} (h : OrdS w1 W A n c y g1 g2 S T) (hn : n ≤ 100000) :
    ∃ A' c' W', (Builtin.append_ #[23, 23] 23 #[.slice none 0 0, .slice A n c]).run Try.prog W = .ok (.slice A' n c') W' ∧ n ≤ c' ∧ RowU W' A' n y ∧ OwnV W' w1.heap.size (.slice A n c) n y ∧ Below w1.heap.size w1 W' := by
  obtain ⟨v, W', h1, h2, h3, h4⟩ := run_appendU W w1.heap.size 23 (.slice none 0 0) 0 y A n c y (OwnV.nil _ _ _) h.size h.row (by omega)
  rw [Nat.zero_add] at h2
  obtain ⟨A', c', rfl, h5, h6, _⟩ := h2.row
  refine ⟨A', c', W', h1, h5, h6.congr fun k hk => ?_, h.own.kept h3 ?_, h.bel.grown h3 h.bel.size (fun k e => by cases e)⟩
  · show catN y 0 y k = y k
    unfold catN
    rw [if_neg (by omega), Nat.sub_zero]
  · cases A with
    | none => left; rfl
    | some ad => right; rw [(h.own.rowA.2.2.1 ad rfl).2.2]; intro e; cases e
theorem ord_app2 {w1 W : World} {A : Option Addr} {n c : Nat} {y : Nat → Nat} (h : OwnV W w1.heap.size (.slice A n c) n y) (hb : Below w1.heap.size w1 W) (hn : n ≤ 100000) (a : Nat) :
    ∃ v' W', (Builtin.append_ #[23, 23] 23 #[.slice (some ⟨W.heap.size, 0, none⟩) 1 1, .slice A n c]).run Try.prog (W.alloc (.cells #[.int .u32 (a : Int)] 25)) = .ok v' W' ∧ OwnV W' w1.heap.size v' (1 + n) (catN (ux [a]) 1 y) ∧ Below w1.heap.size w1 W' := by
  have hbl : Below W.heap.size W (W.alloc (.cells #[.int .u32 (a : Int)] 25)) := (Below.refl _ _).alloc (Nat.le_refl _) _
  have hs := hb.size
  obtain ⟨v, W', h1, h2, h3, h4⟩ := run_appendU (W.alloc (.cells #[.int .u32 (a : Int)] 25)) w1.heap.size 23 (.slice (some ⟨W.heap.size, 0, none⟩) 1 1) 1 (ux [a]) A n c y (OwnV.lit W w1.heap.size [a] hs (by simp)) (Nat.le_trans hs hbl.size) (h.below hbl).rowA.1 (by omega)
  exact ⟨v, W', h1, h2, (ujoin hb hbl).grown h3 (Nat.le_trans hs hbl.size) (fun k e => by injection e with e; rw [← e]; exact hs)⟩
theorem ord_app3 {w1 W : World} {v : Value} {n : Nat} {y : Nat → Nat} (h : OwnV W w1.heap.size v n y) (hb : Below w1.heap.size w1 W) (hn : n ≤ 200000) (a : Nat) :
    ∃ A' c' W', (Builtin.append_ #[23, 23] 23 #[v, .slice (some ⟨W.heap.size, 0, none⟩) 1 1]).run Try.prog (W.alloc (.cells #[.int .u32 (a : Int)] 25)) = .ok (.slice A' (n + 1) c') W' ∧ n + 1 ≤ c' ∧ RowU W' A' (n + 1) (catN y n (ux [a])) ∧ Below w1.heap.size w1 W' := by
  have hbl : Below W.heap.size W (W.alloc (.cells #[.int .u32 (a : Int)] 25)) := (Below.refl _ _).alloc (Nat.le_refl _) _
  have hs := hb.size
  obtain ⟨v', W', h1, h2, h3, h4⟩ := run_appendU (W.alloc (.cells #[.int .u32 (a : Int)] 25)) w1.heap.size 23 v n y (some ⟨W.heap.size, 0, none⟩) 1 1 (ux [a]) (h.below hbl) (Nat.le_trans hs hbl.size) (OwnV.lit W w1.heap.size [a] hs (by simp)).rowA.1 (by omega)
  obtain ⟨A', c', rfl, h5, h6, _⟩ := h2.row
  refine ⟨A', c', W', h1, h5, h6, (ujoin hb hbl).grown h3 (Nat.le_trans hs hbl.size) (fun k e => ?_)⟩
  obtain ⟨A0, c0, ev, _, _, h7, _⟩ := h.row
  subst ev
  cases A0 with
  | none => cases e
  | some ad =>
    have h8 := h7 ad rfl
    rw [h8.2.2] at e
    injection e with e
    rw [← e]
    exact h8.1
end Go.Proofs.Ytmeifciagepmpaa
