/- Acc.Over, Sum, Mean, Count. Acc.Over, the walk. Acc.Over, Mean, Sum, Count; sums.Exact. -/
import Derived.Test.YtmeifciagepmpaaAcH
namespace Go.Proofs.Ytmeifciagepmpaa
open Go.RowKit Go.Proofs.YtmeifciagepmpaaW.PrintWords
set_option linter.unusedSimpArgs false
set_option linter.unusedVariables false

/-- What an Acc tells of its sum by d. -/
def ovr (S : Ac) (d : Nat) : Nat :=
  if 0 < S.nans ∨ (0 < S.up ∧ 0 < S.dn) then 2143289344 else if 0 < S.up then 2139095040 else if 0 < S.dn then 4286578688
  else if S.z = 0 then (if 0 < S.n ∧ S.no = S.n then 2147483648 else 0) else if S.z < 0 then exR S.z.natAbs d + 2147483648 else exR S.z.natAbs d
def ovrV (S : Ac) (d : Int) : Nat := if d < 1 ∨ 4294967295 < d then 0 else ovr S d.toNat
def ovrE (d : Int) : Int := if d < 1 ∨ 4294967295 < d then 33 else 0

theorem exR_lt (L d : Nat) : exR L d ≤ 2139095040 := by
  by_cases h0 : L * 2 ^ 96 / d = 0
  · rw [exR_zero h0]; omega
  · obtain ⟨Q, eQ⟩ : ∃ Q, Q = L * 2 ^ 96 / d := ⟨_, rfl⟩
    obtain ⟨k, ek⟩ : ∃ k : Nat, (k : Int) = max ((bitlen Q : Int) - 269) (-149) + 245 := ⟨(max ((bitlen Q : Int) - 269) (-149) + 245).toNat, by omega⟩
    have h := exR_some (L := L) (d := d) (Q := Q) (k := k) eQ (by rw [eQ]; exact h0) rfl ek rfl rfl
    rw [h.1]
    have h2 := h.2.1
    have h3 := h.2.2.1
    have hi := toNat_le1 (decide (Q / 2 ^ (k - 1) % 2 = 1 ∧ (decide (L * 2 ^ 96 % d ≠ 0) = true ∨ Q % 2 ^ (k - 1) ≠ 0 ∨ Q / 2 ^ k % 2 = 1)))
    obtain ⟨m, em⟩ : ∃ m, m = Q / 2 ^ k + (decide (Q / 2 ^ (k - 1) % 2 = 1 ∧ (decide (L * 2 ^ 96 % d ≠ 0) = true ∨ Q % 2 ^ (k - 1) ≠ 0 ∨ Q / 2 ^ k % 2 = 1))).toNat := ⟨_, rfl⟩
    rw [← em]
    have hm : m ≤ 16777216 := by omega
    rcases Nat.lt_or_ge m 8388608 with h4 | h4
    · rw [rung_low h4]; omega
    · rw [rung_high h3 h4 hm]; omega
theorem u_or_top (a : Nat) (h : a < 2147483648) : bits .or .u32 (a : Int) 2147483648 = ((a + 2147483648 : Nat) : Int) := by
  have h1 := (u_bits a 2147483648 (by omega) (by decide)).2
  have e : a ||| 2147483648 = a + 2147483648 := by
    have h2 := Nat.shiftLeft_add_eq_or_of_lt (i := 31) (b := a) h 1
    rw [show (1 : Nat) <<< 31 = 2147483648 by decide] at h2
    rw [Nat.or_comm, ← h2, Nat.add_comm]
  rw [e] at h1
  exact h1

/-! ### '==' of limbs -/
theorem run_eq_arrD {P : Program} (w : World) (D : Nat) (t e : TypeId) (len : Nat) (k : IntKind) (xs ys : Array Value) (f g : Nat → Int) (ht : P.underlying t = some (.array len e))
    (hD : ∀ a b : Int, (Op.equalIn D e (.int k a) (.int k b)).run P w = .ok (a == b) w)
    (hs : (sizeOf e).run P w = .ok 1 w) (hx : ∀ i, i < len → (Go.part e xs i).run P w = .ok (.int k (f i)) w) (hy : ∀ i, i < len → (Go.part e ys i).run P w = .ok (.int k (g i)) w) (r : Bool) (hr : r = true ↔ ∀ i, i < len → f i = g i) :
    (Op.equalIn (D + 1) t (.agg xs) (.agg ys)).run P w = .ok r w := by
  simp only [Op.equalIn, Sem.run_bind, run_underlying ht, Result.andThen_ok, hs, Std.Legacy.Range.forIn_eq_forIn_range', Std.Legacy.Range.size]
  have key : ∀ (m s : Nat), s + m ≤ len → ∀ q : Bool, (q = true ↔ ∀ i, s ≤ i → i < s + m → f i = g i) →
      (forIn (List.range' s m) ((none, ()) : Option Bool × Unit) fun i (_ : Option Bool × Unit) => do
            let a ← Go.part e xs (i * 1)
            let b ← Go.part e ys (i * 1)
            let c ← Op.equalIn D e a b
            if (!c) = true then pure (ForInStep.done (some false, ())) else pure (ForInStep.yield (none, ()))).run P w = .ok (if q then (none, ()) else (some false, ())) w := by
    intro m
    induction m with
    | zero => intro s _ q hq; have : q = true := hq.2 (fun i h1 h2 => by omega); subst this; simp
    | succ m ih =>
      intro s hs q hq
      rw [List.range'_succ, List.forIn_cons]
      simp only [Sem.run_bind, Nat.mul_one, hx s (by omega), hy s (by omega), Result.andThen_ok, hD]
      by_cases h : f s = g s
      · have hb : (f s == g s) = true := beq_iff_eq.2 h
        simp only [hb, Bool.not_true, Bool.false_eq_true, if_false, Sem.run_pure, Result.andThen_ok]
        have := ih (s + 1) (by omega) q (hq.trans ⟨fun k i h1 h2 => k i (by omega) (by omega), fun k i h1 h2 => by
          rcases Nat.lt_or_ge s i with h3 | h3
          · exact k i (by omega) (by omega)
          · have : i = s := by omega
            subst this; exact h⟩)
        simp only [Nat.mul_one] at this
        exact this
      · have hb : (f s == g s) = false := beq_eq_false_iff_ne.2 h
        have hq0 : q = false := by
          cases q
          · rfl
          · exact absurd (hq.1 rfl s (Nat.le_refl _) (by omega)) h
        simp only [hb, Bool.not_false, if_true, Sem.run_pure, Result.andThen_ok, hq0]
        simp
  have := key len 0 (by omega) r (hr.trans ⟨fun k i _ h2 => k i (by omega), fun k i h => k i (Nat.zero_le _) (by omega)⟩)
  simp only [Nat.sub_zero, Nat.add_sub_cancel, Nat.div_one]
  rw [this]
  cases r <;> simp
theorem u_part (w : World) (n : Nat) (f : Nat → Nat) (i : Nat) (h : i < n) : (Go.part 25 (arrU n f) i).run Try.prog w = .ok (.int .u32 ((f i : Nat) : Int)) w := by
  have hagg : (isAgg 25).run Try.prog w = .ok false w := by
    unfold isAgg
    rw [Sem.run_bind, run_underlying Try.underlying25 w]
    simp
  simp [Go.part, Sem.run_bind, hagg, arrU, h]
theorem u_size (w : World) : (sizeOf 25).run Try.prog w = .ok 1 w := by
  obtain ⟨i, hi, hz⟩ := Option.map_eq_some_iff.1 u_info
  simp only [Prod.mk.injEq] at hz
  simp [sizeOf, typeInfo, hi, hz.2.1]
theorem vt_zero_iff (f : Nat → Nat) : ∀ n, vt f n = 0 ↔ ∀ k, k < n → f k = 0
  | 0 => ⟨fun _ _ h => by omega, fun _ => rfl⟩
  | n + 1 => by
    rw [vt]
    have ih := vt_zero_iff f n
    have hp := p32_pos n
    constructor
    · intro h k hk
      rcases Nat.lt_or_ge k n with h1 | h1
      · exact ih.1 (by omega) k h1
      · have : k = n := by omega
        subst this
        rcases Nat.eq_zero_or_pos (f k) with h2 | h2
        · exact h2
        · have := Nat.mul_pos h2 hp; omega
    · intro h
      rw [ih.2 fun k hk => h k (by omega), h n (by omega), Nat.zero_mul]
theorem zeros14 : (#[.int .u32 0, .int .u32 0, .int .u32 0, .int .u32 0, .int .u32 0, .int .u32 0, .int .u32 0, .int .u32 0, .int .u32 0, .int .u32 0, .int .u32 0, .int .u32 0, .int .u32 0, .int .u32 0] : Array Value) = arrU 14 (fun _ => 0) := by kernel_rfl
theorem eqA_limbs (d : Nat) (w : World) (f : Nat → Nat) (r : Bool) (hr : r = true ↔ vt f 14 = 0) :
    (Op.equalIn (d + 2) 87 (.agg (arrU 14 f)) (.agg #[.int .u32 0, .int .u32 0, .int .u32 0, .int .u32 0, .int .u32 0, .int .u32 0, .int .u32 0, .int .u32 0, .int .u32 0, .int .u32 0, .int .u32 0, .int .u32 0, .int .u32 0, .int .u32 0])).run Try.prog w = .ok r w := by
  rw [zeros14]
  refine run_eq_arrD w (d + 1) 87 25 14 .u32 _ _ (fun i => (f i : Int)) (fun _ => 0) Try.underlying87 (fun a b => run_equalIn_int w d _ _ .u32 a b Try.underlying25) (u_size w) (fun i h => u_part w 14 f i h) (fun i h => u_part w 14 (fun _ => 0) i h) r ?_
  rw [hr, vt_zero_iff]
  exact ⟨fun h i hi => by rw [h i hi]; rfl, fun h i hi => by have := h i hi; omega⟩

theorem ret2_u {a b : Nat} {x y : Int} (h1 : a = b) (h2 : x = y) : Ending.returned (.tuple #[.int .u32 (a : Int), .int .i64 x]) = .returned (.tuple #[.int .u32 (b : Int), .int .i64 y]) := by rw [h1, h2]

set_option maxHeartbeats 6400000 in
set_option maxRecDepth 100000 in
theorem acOver_low (w : World) (g : Nat) (d : Int) (hd : d < 1 ∨ 4294967295 < d) :
    Calls Try.prog 70 #[.pointer (some ⟨g, 0, none⟩), .int .i64 d] w fun e w' => e = .returned (.tuple #[.int .u32 0, .int .i64 33]) ∧ w = w' := by
  rcases hd with h | h
  · go_enter Try.func70, Try.ntmps70
    go_wp2
    go_ret2
    exact ⟨rfl, rfl⟩
  · have h1 : ¬ d < 1 := by omega
    go_enter Try.func70, Try.ntmps70
    go_wp2
    go_ret2
    exact ⟨rfl, rfl⟩

set_option maxHeartbeats 6400000 in
set_option maxRecDepth 100000 in
theorem acOver_in (w : World) (g : Nat) (S : Ac) (d : Nat) (hS : AcAt w g S) (hok : AcOk S) (hN : S.n ≤ 1000000000000) (hd1 : 1 ≤ d) (hd2 : d ≤ 4294967295) :
    Calls Try.prog 70 #[.pointer (some ⟨g, 0, none⟩), .int .i64 (d : Int)] w fun e w' => Gives w (.tuple #[.int .u32 ((ovr S d : Nat) : Int), .int .i64 0]) e w' := by
  obtain ⟨f, hbl, hL⟩ := hS
  have HL := Lib.hid hL
  have HA : Hid (AccW w g f (acC S) w) := (show AccW _ _ _ _ _ from ⟨⟨rfl, rfl, rfl, Nat.le_refl _, fun _ _ _ => rfl⟩, hbl⟩)
  have EO : Hid (ovr S d = if 0 < S.nans ∨ (0 < S.up ∧ 0 < S.dn) then 2143289344 else if 0 < S.up then 2139095040 else if 0 < S.dn then 4286578688
    else if S.z = 0 then (if 0 < S.n ∧ S.no = S.n then 2147483648 else 0) else if S.z < 0 then exR S.z.natAbs d + 2147483648 else exR S.z.natAbs d) := (show _ = _ from rfl)
  obtain ⟨res, eres⟩ : ∃ r, r = ovr S d := ⟨_, rfl⟩
  rw [← eres] at EO ⊢
  have hz : S.z.natAbs < P447 := Nat.lt_of_le_of_lt hok.z (p447_277 (by omega))
  have RD := Lib.hid (hL.read hz)
  have hl := Lib.hid (loadVar_limbs hbl)
  obtain ⟨⟨z0, z1, z2, z3, z4⟩, -⟩ := HA.out.counts
  have b1 := hok.nans
  have b2 := hok.up
  have b3 := hok.dn
  have b4 := hok.no
  have e0 : acC S 0 = S.n := rfl
  have e1 : acC S 1 = S.nans := rfl
  have e2 : acC S 2 = S.up := rfl
  have e3 : acC S 3 = S.dn := rfl
  have e4 : acC S 4 = S.no := rfl
  rw [e0] at z0
  rw [e1] at z1
  rw [e2] at z2
  rw [e3] at z3
  rw [e4] at z4
  obtain ⟨n, en⟩ : ∃ n, n = S.n := ⟨_, rfl⟩
  obtain ⟨na, ena⟩ : ∃ n, n = S.nans := ⟨_, rfl⟩
  obtain ⟨up, eup⟩ : ∃ n, n = S.up := ⟨_, rfl⟩
  obtain ⟨dn, edn⟩ : ∃ n, n = S.dn := ⟨_, rfl⟩
  obtain ⟨no, eno⟩ : ∃ n, n = S.no := ⟨_, rfl⟩
  rw [← en] at z0 b1 b2 b3 b4 hN EO
  rw [← ena] at z1 b1 EO
  rw [← eup] at z2 b2 EO
  rw [← edn] at z3 b3 EO
  rw [← eno] at z4 b4 EO
  have h1 : ¬ (d : Int) < 1 := by omega
  have h2 : ¬ (4294967295 : Int) < (d : Int) := by omega
  have hd3 : (0 : Int) ≤ (d : Int) := by omega
  clear hL hbl eres e0 e1 e2 e3 e4 en ena eup edn eno hok hz
  by_cases hna : 0 < na
  · as_aux_lemma =>
    have hb : (0 : Int) < (na : Int) := by omega
    have E : Hid (res = 2143289344) := (show _ = _ by rw [EO.out, if_pos (.inl hna)])
    clear hna EO RD hl
    go_enter Try.func70, Try.ntmps70
    go_wp2
    go_ret2
    exact ⟨ret2_u (a := 2143289344) E.out.symm rfl, Below.refl _ _⟩
  · have hbna : ¬ (0 : Int) < (na : Int) := by omega
    have hna0 := Lib.hid hna
    clear hna
    by_cases hup : 0 < up
    · have hbup : (0 : Int) < (up : Int) := by omega
      by_cases hdn : 0 < dn
      · as_aux_lemma =>
        have hbdn : (0 : Int) < (dn : Int) := by omega
        have E : Hid (res = 2143289344) := (show _ = _ by rw [EO.out, if_pos (.inr ⟨hup, hdn⟩)])
        clear hup hdn hna0 EO RD hl
        go_enter Try.func70, Try.ntmps70
        go_wp2
        go_ret2
        exact ⟨ret2_u (a := 2143289344) E.out.symm rfl, Below.refl _ _⟩
      · as_aux_lemma =>
        have hbdn : ¬ (0 : Int) < (dn : Int) := by omega
        have E : Hid (res = 2139095040) := (show _ = _ by rw [EO.out, if_neg (by have := hna0.out; omega), if_pos hup])
        clear hup hdn hna0 EO RD hl
        go_enter Try.func70, Try.ntmps70
        go_wp2
        go_ret2
        exact ⟨ret2_u (a := 2139095040) E.out.symm rfl, Below.refl _ _⟩
    · have hbup : ¬ (0 : Int) < (up : Int) := by omega
      by_cases hdn : 0 < dn
      · as_aux_lemma =>
        have hbdn : (0 : Int) < (dn : Int) := by omega
        have E : Hid (res = 4286578688) := (show _ = _ by rw [EO.out, if_neg (by have := hna0.out; omega), if_neg hup, if_pos hdn])
        clear hup hdn hna0 EO RD hl
        go_enter Try.func70, Try.ntmps70
        go_wp2
        go_ret2
        exact ⟨ret2_u (a := 4286578688) E.out.symm rfl, Below.refl _ _⟩
      · have hbdn : ¬ (0 : Int) < (dn : Int) := by omega
        have EO2 : Hid (res = if S.z = 0 then (if 0 < n ∧ no = n then 2147483648 else 0) else if S.z < 0 then exR S.z.natAbs d + 2147483648 else exR S.z.natAbs d) := (show _ = _ by rw [EO.out, if_neg (by have := hna0.out; omega), if_neg hup, if_neg hdn])
        have HE := Lib.hid fun k W r => eqA_limbs k W f r
        have HZS : Hid (∀ W, Calls Try.prog 97 #[.agg (arrU 14 f)] W fun e w' => ∃ (b : Nat) (neg : Bool) (h' : Nat → Nat), e = .returned (.tuple #[.slice (some ⟨b, 0, none⟩) 14 14, .bool neg]) ∧ RowU w' (some ⟨b, 0, none⟩) 14 h' ∧ Below W.heap.size W w' ∧ (∀ k, k < 14 → h' k < 4294967296) ∧ vt h' 14 = S.z.natAbs ∧ neg = decide (S.z < 0)) := (show ∀ W, _ from fun W =>
          (lsize_calls W f HL.out.lt).mono fun e w' ⟨b, neg, h', k1, k2, k3, k4, k5⟩ => ⟨b, neg, h', k1, k2, k3, k4, by
            rcases k5 with ⟨q1, q2, q3⟩ | ⟨q1, q2, cy, q3⟩
            · obtain ⟨r1, r2⟩ := RD.out.1 q2
              exact ⟨q3.trans r2, by rw [q1]; exact (decide_eq_false (by omega)).symm⟩
            · obtain ⟨r1, r2⟩ := RD.out.2 q2
              exact ⟨r2 _ _ q3, by rw [q1]; exact (decide_eq_true r1).symm⟩⟩)
        have HVZ : Hid (vt f 14 = 0 ↔ S.z = 0) := (show _ ↔ _ by
          rcases Nat.lt_or_ge (f 13) 2147483648 with q | q
          · obtain ⟨r1, r2⟩ := RD.out.1 q
            rw [r2]; omega
          · obtain ⟨r1, r2⟩ := RD.out.2 q
            refine ⟨fun h => ?_, fun h => by omega⟩
            have h3 := (vt_zero_iff f 14).1 h 13 (by decide)
            omega)
        obtain ⟨ag, eag⟩ : ∃ ag, ag = arrU 14 f := ⟨_, rfl⟩
        rw [← eag] at HE HZS hl
        clear hup hdn hna0 EO RD HL eag
        by_cases hz : S.z = 0
        · have heq := fun k W => HE.out k W true (by rw [HVZ.out]; simp [hz])
          have EO3 : Hid (res = if 0 < n ∧ no = n then 2147483648 else 0) := (show _ = _ by rw [EO2.out, if_pos hz])
          clear HE HZS HVZ hz EO2
          by_cases hn0 : 0 < n
          · have hbn : (0 : Int) < (n : Int) := by omega
            have hbn2 : decide ((0 : Int) < (n : Int)) = true := decide_eq_true hbn
            have hbn3 : decide (0 < n) = true := decide_eq_true hn0
            by_cases hno : no = n
            · as_aux_lemma =>
              have hbo : ((no : Int) == (n : Int)) = true := by rw [beq_iff_eq]; omega
              have E : Hid (res = 2147483648) := (show _ = _ by rw [EO3.out, if_pos ⟨hn0, hno⟩])
              clear EO3 hno hn0
              go_enter Try.func70, Try.ntmps70
              go_wp2_with (refine wpList_load_part rfl 87 _ rfl ⟨g, 0, none⟩ rfl _ hl.out ?_)
              go_quiet (fail)
              go_wp2
              go_ret2
              exact ⟨ret2_u (a := 2147483648) E.out.symm rfl, (Drawn0.mk ⟨_, rfl⟩).below⟩
            · as_aux_lemma =>
              have hbo : ((no : Int) == (n : Int)) = false := by rw [beq_eq_false_iff_ne]; omega
              have E : Hid (res = 0) := (show _ = _ by rw [EO3.out, if_neg (fun h => hno h.2)])
              clear EO3 hno hn0
              go_enter Try.func70, Try.ntmps70
              go_wp2_with (refine wpList_load_part rfl 87 _ rfl ⟨g, 0, none⟩ rfl _ hl.out ?_)
              go_quiet (fail)
              go_wp2
              go_ret2
              exact ⟨ret2_u (a := 0) E.out.symm rfl, (Drawn0.mk ⟨_, rfl⟩).below⟩
          · as_aux_lemma =>
            have hbn : ¬ (0 : Int) < (n : Int) := by omega
            have hbn2 : decide ((0 : Int) < (n : Int)) = false := decide_eq_false hbn
            have hbn3 : decide (0 < n) = false := decide_eq_false hn0
            have E : Hid (res = 0) := (show _ = _ by rw [EO3.out, if_neg (fun h => hn0 h.1)])
            clear EO3 hn0
            go_enter Try.func70, Try.ntmps70
            go_wp2_with (refine wpList_load_part rfl 87 _ rfl ⟨g, 0, none⟩ rfl _ hl.out ?_)
            go_quiet (fail)
            go_wp2
            go_ret2
            exact ⟨ret2_u (a := 0) E.out.symm rfl, (Drawn0.mk ⟨_, rfl⟩).below⟩
        · have heq := fun k W => HE.out k W false (by rw [HVZ.out]; simp [hz])
          have EO3 : Hid (res = if S.z < 0 then exR S.z.natAbs d + 2147483648 else exR S.z.natAbs d) := (show _ = _ by rw [EO2.out, if_neg hz])
          obtain ⟨L, eL⟩ : ∃ L, L = S.z.natAbs := ⟨_, rfl⟩
          obtain ⟨ng, eng⟩ : ∃ ng, ng = decide (S.z < 0) := ⟨_, rfl⟩
          obtain ⟨r, er⟩ : ∃ r, r = exR L d := ⟨_, rfl⟩
          rw [← eL, ← er] at EO3
          rw [← eL, ← eng] at HZS
          have EO4 : Hid (res = if ng = true then r + 2147483648 else r) := (show _ = _ by rw [EO3.out, eng]; simp)
          have hr : r ≤ 2139095040 := by rw [er]; exact exR_lt _ _
          have HXR : Hid (∀ W A (h' : Nat → Nat), RowU W A 14 h' → (∀ k, k < 14 → h' k < 4294967296) → vt h' 14 = L → Calls Try.prog 98 #[.slice A 14 14, .int .u64 (d : Int), .int .i64 149] W fun e w' => Gives W (.int .u32 (r : Int)) e w') := (show ∀ W A h', _ → _ → _ → _ from fun W A h' k1 k2 k3 => by
            rw [er]
            exact xround_calls W A 14 14 h' d L k1 (Nat.le_refl _) (Nat.le_refl _) k2 (by omega) (by omega) k3.symm)
          have hor := u_or_top r (by omega)
          have W1 : IntKind.u64.wrap (d : Int) = (d : Int) := u_w64 _ (by omega)
          clear HE HVZ hz EO2 EO3 eL eng er
          cases ng with
          | true =>
            have E : Hid (res = r + 2147483648) := (show _ = _ from EO4.out)
            clear EO4
            go_enter Try.func70, Try.ntmps70
            go_wp2_with (first
              | (go_at_call 97; refine (HZS.out _).mono ?_; rintro e1 w1 ⟨b, ng, h', rfl, hrow, hbel, hlt, hv, rfl⟩; have HRW := Lib.hid hrow; have HB1 := Lib.hid hbel; have HLT := Lib.hid hlt; have HV := Lib.hid hv; clear hrow hbel hlt hv)
              | (go_at_call 98; refine (HXR.out _ _ _ HRW.out HLT.out HV.out).mono ?_; rintro e1 w2 ⟨rfl, hbel⟩; have HB2 := Lib.hid (ujoin HB1.out hbel); clear hbel)
              | (refine wpList_load_part rfl 87 _ rfl ⟨g, 0, none⟩ rfl _ hl.out ?_))
            go_ret2
            exact ⟨ret2_u E.out.symm rfl, HB2.out⟩
          | false =>
            have E : Hid (res = r) := (show _ = _ from EO4.out)
            clear EO4
            go_enter Try.func70, Try.ntmps70
            go_wp2_with (first
              | (go_at_call 97; refine (HZS.out _).mono ?_; rintro e1 w1 ⟨b, ng, h', rfl, hrow, hbel, hlt, hv, rfl⟩; have HRW := Lib.hid hrow; have HB1 := Lib.hid hbel; have HLT := Lib.hid hlt; have HV := Lib.hid hv; clear hrow hbel hlt hv)
              | (go_at_call 98; refine (HXR.out _ _ _ HRW.out HLT.out HV.out).mono ?_; rintro e1 w2 ⟨rfl, hbel⟩; have HB2 := Lib.hid (ujoin HB1.out hbel); clear hbel)
              | (refine wpList_load_part rfl 87 _ rfl ⟨g, 0, none⟩ rfl _ hl.out ?_))
            go_ret2
            exact ⟨ret2_u E.out.symm rfl, HB2.out⟩

theorem acOver_calls (w : World) (g : Nat) (S : Ac) (d : Int) (hS : AcAt w g S) (hok : AcOk S) (hN : S.n ≤ 1000000000000) :
    Calls Try.prog 70 #[.pointer (some ⟨g, 0, none⟩), .int .i64 d] w fun e w' => Gives w (.tuple #[.int .u32 ((ovrV S d : Nat) : Int), .int .i64 (ovrE d)]) e w' := by
  by_cases h : d < 1 ∨ 4294967295 < d
  · refine (acOver_low w g d h).mono fun e w' ⟨h1, h2⟩ => ⟨?_, ?_⟩
    · rw [h1, ovrV, ovrE, if_pos h, if_pos h]; rfl
    · subst h2; exact Below.refl _ _
  · obtain ⟨k, rfl⟩ : ∃ k : Nat, d = (k : Int) := ⟨d.toNat, by omega⟩
    have e1 : ovrV S (k : Int) = ovr S k := by rw [ovrV, if_neg h, Int.toNat_natCast]
    have e2 : ovrE (k : Int) = 0 := by rw [ovrE, if_neg h]
    rw [e1, e2]
    exact acOver_in w g S k hS hok hN (by omega) (by omega)

theorem AcAt.n_cell {W : World} {g : Nat} {S : Ac} (h : AcAt W g S) : W.cell? ⟨g, 14, none⟩ = some (.int .i64 ((S.n : Nat) : Int)) := by
  obtain ⟨f, hbl, _⟩ := h
  exact (ucell hbl _).trans (accC_get2 _ _ 0 (by decide))

set_option maxHeartbeats 1600000 in
set_option maxRecDepth 100000 in
theorem acCount_calls (w : World) (g : Nat) (S : Ac) (hS : AcAt w g S) :
    Calls Try.prog 38 #[.pointer (some ⟨g, 0, none⟩)] w fun e w' => e = .returned (.int .i64 ((S.n : Nat) : Int)) ∧ w = w' := by
  have c := hS.n_cell
  obtain ⟨n, en⟩ : ∃ n, n = S.n := ⟨_, rfl⟩
  rw [← en] at c ⊢
  clear en hS
  go_enter Try.func38, Try.ntmps38
  go_wp2
  go_ret
  exact ⟨rfl, rfl⟩

set_option maxHeartbeats 1600000 in
set_option maxRecDepth 100000 in
theorem acMean_calls (w : World) (g : Nat) (S : Ac) (hS : AcAt w g S) (hok : AcOk S) (hN : S.n ≤ 1000000000000) :
    Calls Try.prog 46 #[.pointer (some ⟨g, 0, none⟩)] w fun e w' => Gives w (.tuple #[.int .u32 ((ovrV S (S.n : Int) : Nat) : Int), .int .i64 (ovrE (S.n : Int))]) e w' := by
  have c := hS.n_cell
  have HO := Lib.hid (acOver_calls w g S (S.n : Int) hS hok hN)
  obtain ⟨v, ev⟩ : ∃ n, n = ovrV S (S.n : Int) := ⟨_, rfl⟩
  obtain ⟨x, ex⟩ : ∃ n, n = ovrE (S.n : Int) := ⟨_, rfl⟩
  rw [← ev, ← ex] at HO ⊢
  obtain ⟨n, en⟩ : ∃ n, n = S.n := ⟨_, rfl⟩
  rw [← en] at c HO
  clear en hS ev ex hok hN
  go_enter Try.func46, Try.ntmps46
  go_wp2_with (go_at_call 70; refine HO.out.mono ?_; rintro e1 w1 ⟨rfl, hbel⟩)
  go_ret2
  exact ⟨rfl, hbel⟩

set_option maxHeartbeats 1600000 in
set_option maxRecDepth 100000 in
theorem acSum_calls (w : World) (g : Nat) (S : Ac) (hS : AcAt w g S) (hok : AcOk S) (hN : S.n ≤ 1000000000000) :
    Calls Try.prog 37 #[.pointer (some ⟨g, 0, none⟩)] w fun e w' => Gives w (.int .u32 ((ovr S 1 : Nat) : Int)) e w' := by
  have HO := Lib.hid (acOver_in w g S 1 hS hok hN (by decide) (by decide))
  obtain ⟨v, ev⟩ : ∃ n, n = ovr S 1 := ⟨_, rfl⟩
  rw [← ev] at HO ⊢
  clear hS ev hok hN
  go_enter Try.func37, Try.ntmps37
  go_wp2_with (go_at_call 70; refine HO.out.mono ?_; rintro e1 w1 ⟨rfl, hbel⟩)
  go_ret
  exact ⟨rfl, hbel⟩

/-- The exact sum of samples. -/
def exactOf (x : Nat → Nat) (n : Nat) : Nat := ovr (acAll acNone x n) 1

set_option maxHeartbeats 1600000 in
set_option maxRecDepth 100000 in
theorem pExact_calls (w : World) (A : Option Addr) (n c : Nat) (x : Nat → Nat) (hr : RowU w A n x) (hc : n ≤ c) (hn : n ≤ 1000000000) (hx : ∀ k, k < n → x k < 4294967296) :
    Calls Try.prog 23 #[.slice A n c] w fun e w' => Gives w (.int .u32 ((exactOf x n : Nat) : Int)) e w' := by
  have HADD : Hid (∀ W g, Below w.heap.size w W → w.heap.size ≤ g → AcAt W g acNone → Calls Try.prog 32 #[.pointer (some ⟨g, 0, none⟩), .slice A n c] W fun e w' => e = .returned (.tuple #[]) ∧ AcAt w' g (acAll acNone x n) ∧ Below w.heap.size w w') := (show ∀ W g, _ → _ → _ → _ from fun W g hb hg hA => by
    refine (acAdd_calls W g acNone _ n c x hA acOk_none (show 0 + n ≤ _ by omega) (hr.below hb) (fun h0 ad e => ?_) hc hx).mono fun e w' ⟨h1, h2⟩ => ⟨h1, h2.at, hb.grown h2.gr hb.size (fun k e => by injection e with e; omega)⟩
    obtain ⟨ad', e', hca⟩ := hr h0
    have hlt := World.block_lt_of_cell? _ _ (hca 0 h0)
    rw [u_add0] at hlt
    rw [e] at e'
    injection e' with e'
    subst e'
    omega)
  have HSUM : Hid (∀ W g, AcAt W g (acAll acNone x n) → Calls Try.prog 37 #[.pointer (some ⟨g, 0, none⟩)] W fun e w' => Gives W (.int .u32 ((exactOf x n : Nat) : Int)) e w') := (show ∀ W g, _ → _ from fun W g hA =>
    acSum_calls W g _ hA (acOk_none.all x n) (by rw [acAll_n]; show 0 + n ≤ _; omega))
  obtain ⟨v, ev⟩ : ∃ n', n' = exactOf x n := ⟨_, rfl⟩
  rw [← ev] at HSUM ⊢
  clear ev hr hc hn hx
  go_enter Try.func23, Try.ntmps23
  go_wp2_with (first
    | (go_at_call 30; refine (new_calls _).mono ?_; rintro e1 w1 ⟨g, rfl, hg, hA, hbel⟩; have HG := Lib.hid hg; have HA1 := Lib.hid hA; have HB1 := Lib.hid hbel; clear hg hA hbel)
    | (go_at_call 32; refine (HADD.out _ _ HB1.out HG.out HA1.out).mono ?_; rintro e1 w2 ⟨rfl, hA, hbel⟩; have HA2 := Lib.hid hA; have HB2 := Lib.hid hbel; clear hA hbel)
    | (go_at_call 37; refine (HSUM.out _ _ HA2.out).mono ?_; rintro e1 w3 ⟨rfl, hbel⟩; have HB3 := Lib.hid (ujoin HB2.out hbel); clear hbel))
  go_ret
  exact ⟨rfl, HB3.out⟩
end Go.Proofs.Ytmeifciagepmpaa
