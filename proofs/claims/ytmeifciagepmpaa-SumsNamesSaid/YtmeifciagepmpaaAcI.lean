/- Acc.Over, Sum, Mean, Count. -/
import Derived.Test.YtmeifciagepmpaaAcH
namespace Go.Proofs.Ytmeifciagepmpaa
open Go.RowKit Go.Proofs.YtmeifciagepmpaaW.PrintWords
set_option linter.unusedSimpArgs false
set_option linter.unusedVariables false

/-- What an Acc tells of its sum by d. -/
def ovr (S : Ac) (d : Nat) : Nat :=
  if 0 < S.nans ∨ (0 < S.up ∧ 0 < S.dn) then 2143289344 else if 0 < S.up then 2139095040 else if 0 < S.dn then 4286578688
  else if S.z = 0 then (if 0 < S.n ∧ S.no = S.n then 2147483648 else 0) else if S.z < 0 then exR S.z.natAbs d + 2147483648 else exR S.z.natAbs d
def ovrV (S : Ac) (d : Int) : Nat := if d < 1 ∨ 4294967295 < d then 0 else ovr S d.toNat
def ovrE (d : Int) : Int := if d < 1 ∨ 4294967295 < d then 33 else 0

theorem exR_lt (L d : Nat) : exR L d ≤ 2139095040 := by
  by_cases h0 : L * 2 ^ 96 / d = 0
  · rw [exR_zero h0]; omega
  · obtain ⟨Q, eQ⟩ : ∃ Q, Q = L * 2 ^ 96 / d := ⟨_, rfl⟩
    obtain ⟨k, ek⟩ : ∃ k : Nat, (k : Int) = max ((bitlen Q : Int) - 269) (-149) + 245 := ⟨(max ((bitlen Q : Int) - 269) (-149) + 245).toNat, by omega⟩
    have h := exR_some (L := L) (d := d) (Q := Q) (k := k) eQ (by rw [eQ]; exact h0) rfl ek rfl rfl
    rw [h.1]
    have h2 := h.2.1
    have h3 := h.2.2.1
    have hi := toNat_le1 (decide (Q / 2 ^ (k - 1) % 2 = 1 ∧ (decide (L * 2 ^ 96 % d ≠ 0) = true ∨ Q % 2 ^ (k - 1) ≠ 0 ∨ Q / 2 ^ k % 2 = 1)))
    obtain ⟨m, em⟩ : ∃ m, m = Q / 2 ^ k + (decide (Q / 2 ^ (k - 1) % 2 = 1 ∧ (decide (L * 2 ^ 96 % d ≠ 0) = true ∨ Q % 2 ^ (k - 1) ≠ 0 ∨ Q / 2 ^ k % 2 = 1))).toNat := ⟨_, rfl⟩
    rw [← em]
    have hm : m ≤ 16777216 := by omega
    rcases Nat.lt_or_ge m 8388608 with h4 | h4
    · rw [rung_low h4]; omega
    · rw [rung_high h3 h4 hm]; omega
theorem u_or_top (a : Nat) (h : a < 2147483648) : bits .or .u32 (a : Int) 2147483648 = ((a + 2147483648 : Nat) : Int) := by
  have h1 := (u_bits a 2147483648 (by omega) (by decide)).2
  have e : a ||| 2147483648 = a + 2147483648 := by
    have h2 := Nat.shiftLeft_add_eq_or_of_lt (i := 31) (b := a) h 1
    rw [show (1 : Nat) <<< 31 = 2147483648 by decide] at h2
    rw [Nat.or_comm, ← h2, Nat.add_comm]
  rw [e] at h1
  exact h1

/-! ### '==' of limbs -/
theorem run_eq_arrD {P : Program} (w : World) (D : Nat) (t e : TypeId) (len : Nat) (k : IntKind) (xs ys : Array Value) (f g : Nat → Int) (ht : P.underlying t = some (.array len e))
    (hD : ∀ a b : Int, (Op.equalIn D e (.int k a) (.int k b)).run P w = .ok (a == b) w)
    (hs : (sizeOf e).run P w = .ok 1 w) (hx : ∀ i, i < len → (Go.part e xs i).run P w = .ok (.int k (f i)) w) (hy : ∀ i, i < len → (Go.part e ys i).run P w = .ok (.int k (g i)) w) (r : Bool) (hr : r = true ↔ ∀ i, i < len → f i = g i) :
    (Op.equalIn (D + 1) t (.agg xs) (.agg ys)).run P w = .ok r w := by
  simp only [Op.equalIn, Sem.run_bind, run_underlying ht, Result.andThen_ok, hs, Std.Legacy.Range.forIn_eq_forIn_range', Std.Legacy.Range.size]
  have key : ∀ (m s : Nat), s + m ≤ len → ∀ q : Bool, (q = true ↔ ∀ i, s ≤ i → i < s + m → f i = g i) →
      (forIn (List.range' s m) ((none, ()) : Option Bool × Unit) fun i (_ : Option Bool × Unit) => do
            let a ← Go.part e xs (i * 1)
            let b ← Go.part e ys (i * 1)
            let c ← Op.equalIn D e a b
            if (!c) = true then pure (ForInStep.done (some false, ())) else pure (ForInStep.yield (none, ()))).run P w = .ok (if q then (none, ()) else (some false, ())) w := by
    intro m
    induction m with
    | zero => intro s _ q hq; have : q = true := hq.2 (fun i h1 h2 => by omega); subst this; simp
    | succ m ih =>
      intro s hs q hq
      rw [List.range'_succ, List.forIn_cons]
      simp only [Sem.run_bind, Nat.mul_one, hx s (by omega), hy s (by omega), Result.andThen_ok, hD]
      by_cases h : f s = g s
      · have hb : (f s == g s) = true := beq_iff_eq.2 h
        simp only [hb, Bool.not_true, Bool.false_eq_true, if_false, Sem.run_pure, Result.andThen_ok]
        have := ih (s + 1) (by omega) q (hq.trans ⟨fun k i h1 h2 => k i (by omega) (by omega), fun k i h1 h2 => by
          rcases Nat.lt_or_ge s i with h3 | h3
          · exact k i (by omega) (by omega)
          · have : i = s := by omega
            subst this; exact h⟩)
        simp only [Nat.mul_one] at this
        exact this
      · have hb : (f s == g s) = false := beq_eq_false_iff_ne.2 h
        have hq0 : q = false := by
          cases q
          · rfl
          · exact absurd (hq.1 rfl s (Nat.le_refl _) (by omega)) h
        simp only [hb, Bool.not_false, if_true, Sem.run_pure, Result.andThen_ok, hq0]
        simp
  have := key len 0 (by omega) r (hr.trans ⟨fun k i _ h2 => k i (by omega), fun k i h => k i (Nat.zero_le _) (by omega)⟩)
  simp only [Nat.sub_zero, Nat.add_sub_cancel, Nat.div_one]
  rw [this]
  cases r <;> simp
theorem u_part (w : World) (n : Nat) (f : Nat → Nat) (i : Nat) (h : i < n) : (Go.part 25 (arrU n f) i).run Try.prog w = .ok (.int .u32 ((f i : Nat) : Int)) w := by
  have hagg : (isAgg 25).run Try.prog w = .ok false w := by
    unfold isAgg
    rw [Sem.run_bind, run_underlying Try.underlying25 w]
    simp
  simp [Go.part, Sem.run_bind, hagg, arrU, h]
theorem u_size (w : World) : (sizeOf 25).run Try.prog w = .ok 1 w := by
  obtain ⟨i, hi, hz⟩ := Option.map_eq_some_iff.1 u_info
  simp only [Prod.mk.injEq] at hz
  simp [sizeOf, typeInfo, hi, hz.2.1]
theorem vt_zero_iff (f : Nat → Nat) : ∀ n, vt f n = 0 ↔ ∀ k, k < n → f k = 0
  | 0 => ⟨fun _ _ h => by omega, fun _ => rfl⟩
  | n + 1 => by
    rw [vt]
    have ih := vt_zero_iff f n
    have hp := p32_pos n
    constructor
    · intro h k hk
      rcases Nat.lt_or_ge k n with h1 | h1
      · exact ih.1 (by omega) k h1
      · have : k = n := by omega
        subst this
        rcases Nat.eq_zero_or_pos (f k) with h2 | h2
        · exact h2
        · have := Nat.mul_pos h2 hp; omega
    · intro h
      rw [ih.2 fun k hk => h k (by omega), h n (by omega), Nat.zero_mul]
theorem zeros14 : (#[.int .u32 0, .int .u32 0, .int .u32 0, .int .u32 0, .int .u32 0, .int .u32 0, .int .u32 0, .int .u32 0, .int .u32 0, .int .u32 0, .int .u32 0, .int .u32 0, .int .u32 0, .int .u32 0] : Array Value) = arrU 14 (fun _ => 0) := by kernel_rfl
theorem eqA_limbs (d : Nat) (w : World) (f : Nat → Nat) (r : Bool) (hr : r = true ↔ vt f 14 = 0) :
    (Op.equalIn (d + 2) 87 (.agg (arrU 14 f)) (.agg #[.int .u32 0, .int .u32 0, .int .u32 0, .int .u32 0, .int .u32 0, .int .u32 0, .int .u32 0, .int .u32 0, .int .u32 0, .int .u32 0, .int .u32 0, .int .u32 0, .int .u32 0, .int .u32 0])).run Try.prog w = .ok r w := by
  rw [zeros14]
  refine run_eq_arrD w (d + 1) 87 25 14 .u32 _ _ (fun i => (f i : Int)) (fun _ => 0) Try.underlying87 (fun a b => run_equalIn_int w d _ _ .u32 a b Try.underlying25) (u_size w) (fun i h => u_part w 14 f i h) (fun i h => u_part w 14 (fun _ => 0) i h) r ?_
  rw [hr, vt_zero_iff]
  exact ⟨fun h i hi => by rw [h i hi]; rfl, fun h i hi => by have := h i hi; omega⟩
end Go.Proofs.Ytmeifciagepmpaa
