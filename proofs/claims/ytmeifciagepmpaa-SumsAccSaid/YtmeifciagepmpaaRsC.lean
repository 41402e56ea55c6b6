/- The reference's Sum of a list: Of, special, Told, Exact. The reference's Of, special, Told, Exact. The reference's Told, Exact. -/
import Derived.Test.YtmeifciagepmpaaRs3
namespace Go.Proofs.Ytmeifciagepmpaa
open Go.RowKit Go.Proofs.YtmeifciagepmpaaW.PrintWords
set_option linter.unusedSimpArgs false
set_option linter.unusedVariables false

theorem inf_exp (a : Nat) : (rd32 a).isInfinity = (!(rd32 a).isNaN && decide (expN a = 255)) := by
  rw [rd32, read_parts 23 8 150 255 isF32]
  by_cases h : a / 2 ^ 23 % 2 ^ 8 = 255
  · rw [if_pos h, decide_eq_true (show expN a = 255 from h)]
    split <;> rfl
  · rw [if_neg h, decide_eq_false (show ¬ expN a = 255 from h)]
    split <;> rfl
theorem smp_zero (a : Nat) (ha : a < 4294967296) (h : (rd32 a).isNaN = true ∨ (rd32 a).isInfinity = true ∨ isZ (rd32 a) = true) : smp a = 0 := by
  by_cases hx : expN a = 255
  · exact smp_inf a hx
  · rcases h with h | h | h
    · exact absurd (nan_exp a h) hx
    · rw [inf_exp, decide_eq_false hx, Bool.and_false] at h; cases h
    · rcases smp_read a hx with h1 | h1
      · rw [h1] at h
        have h2 : pM a = 0 := by simpa [isZ] using h
        rw [← valZ_smp a hx]
        unfold valZ
        rw [h2]
        simp
      · omega
/-- The Sum at block g is of S. -/
def RefAt (W : World) (g : Nat) (S : Ac) : Prop := ∃ (k : Int) (s : Bool) (A : Option Addr) (m c : Nat) (e : Int),
  W.heap[g]? = some (.cells #[.int .i64 k, .bool s, .slice A (len32 m) c, .int .i64 e, .bool false, .int .i64 (S.n : Int), .bool (decide (0 < S.nans)), .bool (decide (0 < S.up)), .bool (decide (0 < S.dn)), .bool (decide (S.no < S.n))] 114 (0, 0)) ∧
  RowU W A (len32 m) (dig m) ∧ len32 m ≤ c ∧ (S.n = 0 ∨ (1 ≤ S.n ∧ k = 2 ∧ -149 ≤ e ∧ e ≤ 104 ∧ valZ s m e = S.z))
theorem RefAt.lt {W : World} {g : Nat} {S : Ac} (h : RefAt W g S) : g < W.heap.size := by
  obtain ⟨_, _, _, _, _, _, h, _⟩ := h
  exact (Array.getElem?_eq_some_iff.1 h).1
theorem RefAt.below {W W' : World} {g : Nat} {S : Ac} (h : RefAt W g S) (hb : Below W.heap.size W W') : RefAt W' g S := by
  have hl := h.lt
  obtain ⟨k, s, A, m, c, e, h1, h2, h3⟩ := h
  exact ⟨k, s, A, m, c, e, (hb.block g hl).trans h1, h2.below hb, h3⟩
theorem valZ_size {s : Bool} {m : Nat} {e : Int} {z : Int} (h : valZ s m e = z) : m * 2 ^ (e + 149).toNat = z.natAbs := by
  subst h
  unfold valZ
  have h2 : ((2 : Int) ^ (e + 149).toNat).natAbs = 2 ^ (e + 149).toNat := by rw [Int.natAbs_pow]; rfl
  cases s
  · rw [if_neg (by decide), Int.natAbs_mul, h2, Int.natAbs_natCast]
  · rw [if_pos rfl, Int.natAbs_neg, Int.natAbs_mul, h2, Int.natAbs_natCast]
theorem p447_pow : P447 < 2 ^ (32 * 14) := by
  rw [show (32 * 14 : Nat) = 448 from rfl, p448]
  rw [p447_416, p448_416]
  have := p416_pos
  omega
theorem valZ_small {s : Bool} {m : Nat} {e : Int} {z : Int} (h : valZ s m e = z) (hz : z.natAbs < P447) (h1 : -149 ≤ e) (h2 : e ≤ 104) : Small (.number s m e) := by
  have h3 := valZ_size h
  have h4 : m * 1 ≤ m * 2 ^ (e + 149).toNat := Nat.mul_le_mul_left _ (Nat.two_pow_pos _)
  have h5 : len32 m ≤ 14 := (lt_len32 m 14).2 (Nat.lt_trans (show m < P447 by omega) p447_pow)
  exact ⟨by omega, by omega, by omega⟩

theorem rsPlus_told (w : World) (g : Nat) (S : Ac) (a : Nat) (ha : a < 4294967296) (hS : RefAt w g S) (hok : AcOk S) (hN : S.n ≤ 1000000000000) :
    Calls Try.prog 91 #[.pointer (some ⟨g, 0, none⟩), .int .u32 (a : Int)] w fun en w' => en = .returned (.tuple #[]) ∧ w.grownBy w' (some g) ∧ RefAt w' g (acPlus S (acOne a)) := by
  obtain ⟨k, s, A, m, c, e, hbl, hr, hc, h0⟩ := hS
  have hz : S.z.natAbs < P447 := Nat.lt_of_le_of_lt hok.z (p447_277 (by omega))
  obtain ⟨s2, A2, m2, c2, e2, h1, hv, he1, he2⟩ : ∃ (s2 : Bool) (A2 : Option Addr) (m2 c2 : Nat) (e2 : Int), ((S.n = 0 ∧ s2 = false ∧ A2 = none ∧ m2 = 0 ∧ c2 = 0 ∧ e2 = 0) ∨ (1 ≤ S.n ∧ k = 2 ∧ s2 = s ∧ A2 = A ∧ m2 = m ∧ c2 = c ∧ e2 = e)) ∧ valZ s2 m2 e2 = S.z ∧ -149 ≤ e2 ∧ e2 ≤ 104 := by
    rcases h0 with h0 | ⟨h1, h2, h3, h4, h5⟩
    · refine ⟨false, none, 0, 0, 0, .inl ⟨h0, rfl, rfl, rfl, rfl, rfl⟩, ?_, by decide, by decide⟩
      have := hok.z
      rw [h0, Nat.zero_mul] at this
      have h6 : S.z = 0 := by omega
      rw [h6]; rfl
    · exact ⟨s, A, m, c, e, .inr ⟨h1, h2, rfl, rfl, rfl, rfl, rfl⟩, h5, h3, h4⟩
  refine (rsPlus_calls w g k s s2 A A2 m c m2 c2 e e2 S.n _ _ _ _ a ha hN hbl hr hc h1 (valZ_small hv hz he1 he2)).mono fun en w' ⟨s3, A3, m3, c3, e3, ⟨h2, h3, h4, h5⟩, h6, h7⟩ => ⟨h2, h3, 2, s3, A3, m3, c3, e3, ?_, h5, h6, .inr ⟨?_, rfl, ?_⟩⟩
  · have f0 : (decide (0 < S.nans) || (rd32 a).isNaN) = decide (0 < (acPlus S (acOne a)).nans) := by
      show _ = decide (0 < S.nans + (rd32 a).isNaN.toNat)
      cases (rd32 a).isNaN <;> by_cases h : 0 < S.nans <;> simp [h] <;> omega
    have f1 : (decide (0 < S.up) || ((rd32 a).isInfinity && !sgnB a)) = decide (0 < (acPlus S (acOne a)).up) := by
      rw [inf_exp]
      show _ = decide (0 < S.up + (!(rd32 a).isNaN && decide (expN a = 255) && !sgnB a).toNat)
      cases (!(rd32 a).isNaN && decide (expN a = 255) && !sgnB a) <;> by_cases h : 0 < S.up <;> simp [h] <;> omega
    have f2 : (decide (0 < S.dn) || ((rd32 a).isInfinity && sgnB a)) = decide (0 < (acPlus S (acOne a)).dn) := by
      rw [inf_exp]
      show _ = decide (0 < S.dn + (!(rd32 a).isNaN && decide (expN a = 255) && sgnB a).toNat)
      cases (!(rd32 a).isNaN && decide (expN a = 255) && sgnB a) <;> by_cases h : 0 < S.dn <;> simp [h] <;> omega
    have f3 : (decide (S.no < S.n) || decide (a ≠ 2147483648)) = decide ((acPlus S (acOne a)).no < (acPlus S (acOne a)).n) := by
      show _ = decide (S.no + (decide (a = 2147483648)).toNat < S.n + 1)
      have := hok.no
      by_cases h : a = 2147483648
      · rw [decide_eq_true h, decide_eq_false (show ¬ a ≠ 2147483648 from fun k => k h), Bool.or_false]
        by_cases h' : S.no < S.n <;> simp [h']
      · rw [decide_eq_false h, decide_eq_true (show a ≠ 2147483648 from h), Bool.or_true]
        symm
        rw [decide_eq_true_iff]
        simp
        omega
    rw [← f0, ← f1, ← f2, ← f3]
    exact h4
  · show 1 ≤ S.n + 1; omega
  · show -149 ≤ e3 ∧ e3 ≤ 104 ∧ valZ s3 m3 e3 = S.z + smp a
    rcases h7 with ⟨h7, rfl, rfl, rfl⟩ | ⟨h7, h8, h9⟩
    · rw [smp_zero a ha h7, Int.add_zero]
      exact ⟨he1, he2, hv⟩
    · have hx : expN a ≠ 255 := fun hx => by rw [inf_exp, h7, decide_eq_true hx] at h8; cases h8
      rcases smp_read a hx with h10 | h10
      · obtain ⟨s', m', h11, h12⟩ := valZ_plus s2 (sgnB a) m2 (pM a) e2 (pE a) he1 (pE_bd a).2.1
        rw [h10, h11] at h9
        injection h9 with i1 i2 i3
        subst i1 i2 i3
        rw [hv, valZ_smp a hx] at h12
        have := pE_bd a
        exact ⟨by omega, by omega, h12⟩
      · omega

/-! ### The rounded number -/
theorem told_exR (s : Bool) (m : Nat) (e : Int) (hm : m ≠ 0) (he : -149 ≤ e) : told32 (.number s m e) = (if s then 2147483648 else 0) + exR (m * 2 ^ (e + 149).toNat) 1 := by
  have h1 : told32 (.number s m e) = (fmt 23 8).write (.number s m e) := told_write 23 8 255 rfl
  obtain ⟨j, ej⟩ : ∃ j : Nat, j = (e + 149).toNat + 96 := ⟨_, rfl⟩
  have h2 := write_scale 23 8 150 255 isF32 s m j e hm
  have h3 : e - (j : Int) = -245 := by omega
  rw [h3] at h2
  rw [h1, ← h2, write_num 23 8 150 255 isF32]
  have h4 : m * 2 ^ (e + 149).toNat * 2 ^ 96 / 1 = m * 2 ^ j := by rw [Nat.div_one, Nat.mul_assoc, ← Nat.pow_add, ej]
  have h5 : m * 2 ^ j ≠ 0 := Nat.mul_ne_zero hm (Nat.ne_of_gt (Nat.two_pow_pos _))
  unfold exR
  rw [h4, if_neg h5, Nat.mod_one]
  unfold refRound
  cases s
  · show 0 + _ = 0 + (0 + _); rw [Nat.zero_add, Nat.zero_add, Nat.zero_add]; rfl
  · show 2147483648 + _ = 2147483648 + (0 + _); rw [Nat.zero_add]; rfl
/-- What a sum that isn't finite tells. -/
def spV (S : Ac) : Nat := if 0 < S.nans ∨ (0 < S.up ∧ 0 < S.dn) then 2143289344 else if 0 < S.up then 2139095040 else if 0 < S.dn then 4286578688 else 0
def spB (S : Ac) : Bool := decide (0 < S.nans ∨ 0 < S.up ∨ 0 < S.dn)
theorem ovr_special {S : Ac} (h : spB S = true) (d : Nat) : ovr S d = spV S := by
  have h' : 0 < S.nans ∨ 0 < S.up ∨ 0 < S.dn := of_decide_eq_true h
  unfold ovr spV
  by_cases h1 : 0 < S.nans ∨ (0 < S.up ∧ 0 < S.dn)
  · rw [if_pos h1, if_pos h1]
  · rw [if_neg h1, if_neg h1]
    by_cases h2 : 0 < S.up
    · rw [if_pos h2, if_pos h2]
    · rw [if_neg h2, if_neg h2]
      by_cases h3 : 0 < S.dn
      · rw [if_pos h3, if_pos h3]
      · omega
theorem ovr_plain {S : Ac} (h : spB S = false) (d : Nat) : ovr S d = if S.z = 0 then (if 0 < S.n ∧ S.no = S.n then 2147483648 else 0) else if S.z < 0 then exR S.z.natAbs d + 2147483648 else exR S.z.natAbs d := by
  have h' : ¬ (0 < S.nans ∨ 0 < S.up ∨ 0 < S.dn) := of_decide_eq_false h
  unfold ovr
  rw [if_neg (by omega), if_neg (by omega), if_neg (by omega)]

set_option maxHeartbeats 1600000 in
set_option maxRecDepth 100000 in
theorem special_calls (w : World) (g : Nat) (S : Ac) (hS : RefAt w g S) :
    Calls Try.prog 92 #[.pointer (some ⟨g, 0, none⟩)] w fun en w' => en = .returned (.tuple #[.int .u32 ((spV S : Nat) : Int), .bool (spB S)]) ∧ w = w' := by
  obtain ⟨k, s, A, m, c, e, hbl, -⟩ := hS
  have g6 := ucell hbl 6
  have g7 := ucell hbl 7
  have g8 := ucell hbl 8
  replace g6 : w.cell? ⟨g, 6, none⟩ = some (.bool (decide (0 < S.nans))) := g6
  replace g7 : w.cell? ⟨g, 7, none⟩ = some (.bool (decide (0 < S.up))) := g7
  replace g8 : w.cell? ⟨g, 8, none⟩ = some (.bool (decide (0 < S.dn))) := g8
  have EV : Hid (spV S = if decide (0 < S.nans) = true ∨ (decide (0 < S.up) = true ∧ decide (0 < S.dn) = true) then 2143289344 else if decide (0 < S.up) = true then 2139095040 else if decide (0 < S.dn) = true then 4286578688 else 0) := (show _ = _ by unfold spV; simp only [decide_eq_true_eq])
  have EB : Hid (spB S = (decide (0 < S.nans) || (decide (0 < S.up) || decide (0 < S.dn)))) := (show _ = _ by unfold spB; simp)
  obtain ⟨v, ev⟩ : ∃ v, v = spV S := ⟨_, rfl⟩
  obtain ⟨b, eb⟩ : ∃ v, v = spB S := ⟨_, rfl⟩
  rw [← ev] at EV ⊢
  rw [← eb] at EB ⊢
  obtain ⟨na, ena⟩ : ∃ v, v = decide (0 < S.nans) := ⟨_, rfl⟩
  obtain ⟨up, eup⟩ : ∃ v, v = decide (0 < S.up) := ⟨_, rfl⟩
  obtain ⟨dn, edn⟩ : ∃ v, v = decide (0 < S.dn) := ⟨_, rfl⟩
  rw [← ena] at g6 EV EB
  rw [← eup] at g7 EV EB
  rw [← edn] at g8 EV EB
  clear hbl ev eb ena eup edn
  cases na with
  | true =>
    have e1 : v = 2143289344 := EV.out
    have e2 : b = true := EB.out
    subst e1 e2
    clear EV EB
    go_enter Try.func92, Try.ntmps92
    go_wp2
    go_ret2
    exact ⟨rfl, rfl⟩
  | false =>
    cases up with
    | true =>
      cases dn with
      | true =>
        have e1 : v = 2143289344 := EV.out
        have e2 : b = true := EB.out
        subst e1 e2
        clear EV EB
        go_enter Try.func92, Try.ntmps92
        go_wp2
        go_ret2
        exact ⟨rfl, rfl⟩
      | false =>
        have e1 : v = 2139095040 := EV.out
        have e2 : b = true := EB.out
        subst e1 e2
        clear EV EB
        go_enter Try.func92, Try.ntmps92
        go_wp2
        go_ret2
        exact ⟨rfl, rfl⟩
    | false =>
      cases dn with
      | true =>
        have e1 : v = 4286578688 := EV.out
        have e2 : b = true := EB.out
        subst e1 e2
        clear EV EB
        go_enter Try.func92, Try.ntmps92
        go_wp2
        go_ret2
        exact ⟨rfl, rfl⟩
      | false =>
        have e1 : v = 0 := EV.out
        have e2 : b = false := EB.out
        subst e1 e2
        clear EV EB
        go_enter Try.func92, Try.ntmps92
        go_wp2
        go_ret2
        exact ⟨rfl, rfl⟩

def OfEnd (w : World) (S : Ac) (e : Ending) (w' : World) : Prop := ∃ g, e = .returned (.pointer (some ⟨g, 0, none⟩)) ∧ w.heap.size ≤ g ∧ RefAt w' g S ∧ Below w.heap.size w w'
def RefOf (w : World) (g : Nat) (S : Ac) (W : World) : Prop := RefAt W g S ∧ Below w.heap.size w W

set_option maxHeartbeats 1600000 in
set_option maxRecDepth 100000 in
theorem of_list_calls (w : World) (A : Option Addr) (n c : Nat) (x : Nat → Nat) (hr : RowU w A n x) (hc : n ≤ c) (hn : n ≤ 1000000000) (hx : ∀ k, k < n → x k < 4294967296) :
    Calls Try.prog 58 #[.slice A n c] w fun e w' => OfEnd w (acAll acNone x n) e w' := by
  have HR := Lib.hid hr
  have HX := Lib.hid hx
  have H0 : Hid (RefOf w w.heap.size (acAll acNone x 0) (w.alloc (.cells #[.int .i64 0, .bool false, .slice none 0 0, .int .i64 0, .bool false, .int .i64 0, .bool false, .bool false, .bool false, .bool false] 114))) :=
    (show RefAt _ _ _ ∧ _ from ⟨⟨0, false, none, 0, 0, 0, heap_alloc_new w _, RowU.nil _ _ _, Nat.le_refl _, .inl rfl⟩, (Below.refl _ _).alloc (Nat.le_refl _) _⟩)
  have HOK := Lib.hid fun k => AcOk.all acOk_none x k
  have HNN := Lib.hid fun k => acAll_n acNone x k
  clear hr hx
  unfold OfEnd
  go_enter Try.func58, Try.ntmps58
  go_wp2
  generalize w.alloc (.cells #[.int .i64 0, .bool false, .slice none 0 0, .int .i64 0, .bool false, .int .i64 0, .bool false, .bool false, .bool false, .bool false] 114) = w1 at H0 ⊢
  obtain ⟨g, eg⟩ : ∃ g, g = w.heap.size := ⟨_, rfl⟩
  rw [← eg] at H0 ⊢
  have HG := Lib.hid eg
  clear eg
  go_loopg [4] n (fun kq v4 wr => ∃ k : Nat, v4 = .int .i64 (k : Int) ∧ k ≤ n ∧ n ≤ k + kq ∧ Aside (RefOf w g (acAll acNone x k) wr))
  case atStart => exact ⟨0, by first | rfl | go_num, by omega, by omega, H0.out⟩
  case round =>
    obtain ⟨k, rfl, hk, hkq, HA⟩ := hrel
    by_cases hlt : k < n
    · have hltz : (k : Int) < (n : Int) := by omega
      have hk0 : (0 : Int) ≤ (k : Int) := by omega
      obtain ⟨ad, rfl, hca⟩ := HR.out (by omega)
      have c1 := (HA.out.2.cell (World.block_lt_of_cell? _ _ (hca k hlt))).trans (hca k hlt)
      have HPL : Hid (Calls Try.prog 91 #[.pointer (some ⟨g, 0, none⟩), .int .u32 ((x k : Nat) : Int)] wr fun en w' => en = .returned (.tuple #[]) ∧ RefOf w g (acAll acNone x (k + 1)) w') := (show Calls _ _ _ _ _ from
        (rsPlus_told wr g (acAll acNone x k) (x k) (HX.out k hlt) HA.out.1 (HOK.out k) (by rw [HNN.out]; show 0 + k ≤ _; omega)).mono fun en w' ⟨h1, h2, h3⟩ => ⟨h1, h3, HA.out.2.grown h2 HA.out.2.size (fun q e => by injection e with e; rw [← e, HG.out]; exact Nat.le_refl _)⟩)
      obtain ⟨a, ea⟩ : ∃ a, a = x k := ⟨_, rfl⟩
      rw [← ea] at c1 HPL
      clear hca ea HA
      go_wp2_with (go_at_call 91; refine HPL.out.mono ?_; rintro e1 w2 ⟨rfl, hA⟩; have HA2 := Lib.hid hA; clear hA)
      go_roundg (n - (k + 1))
      case measure => omega
      case rel => exact ⟨k + 1, by go_num, by omega, by omega, HA2.out⟩
    · have hltz : ¬ (k : Int) < (n : Int) := by omega
      have e : k = n := by omega
      rw [e] at HA
      clear hlt e
      go_wp2
      go_ret
      exact ⟨g, rfl, Nat.le_of_eq HG.out.symm, HA.out.1, HA.out.2⟩

set_option maxHeartbeats 3200000 in
set_option maxRecDepth 100000 in
theorem told_sum_calls (w : World) (g : Nat) (S : Ac) (hS : RefAt w g S) (hok : AcOk S) (hN : S.n ≤ 1000000000000) :
    Calls Try.prog 59 #[.pointer (some ⟨g, 0, none⟩)] w fun en w' => Gives w (.int .u32 ((ovr S 1 : Nat) : Int)) en w' := by
  have HSP := Lib.hid (special_calls w g S hS)
  have ESP := Lib.hid fun h => ovr_special (S := S) h 1
  have EPL := Lib.hid fun h => ovr_plain (S := S) h 1
  obtain ⟨k, s, A, m, c, e, hbl, hr, hc, h0⟩ := hS
  have hz : S.z.natAbs < P447 := Nat.lt_of_le_of_lt hok.z (p447_277 (by omega))
  have g0 : w.cell? ⟨g, 0, none⟩ = some (.int .i64 k) := ucell hbl 0
  have g1 : w.cell? ⟨g, 1, none⟩ = some (.bool s) := ucell hbl 1
  have g2 : w.cell? ⟨g, 2, none⟩ = some (.slice A (len32 m) c) := ucell hbl 2
  have g3 : w.cell? ⟨g, 3, none⟩ = some (.int .i64 e) := ucell hbl 3
  have g4 : w.cell? ⟨g, 4, none⟩ = some (.bool false) := ucell hbl 4
  have g5 : w.cell? ⟨g, 5, none⟩ = some (.int .i64 (S.n : Int)) := ucell hbl 5
  have g9 : w.cell? ⟨g, 9, none⟩ = some (.bool (decide (S.no < S.n))) := ucell hbl 9
  obtain ⟨res, er⟩ : ∃ r, r = ovr S 1 := ⟨_, rfl⟩
  rw [← er] at ESP EPL ⊢
  obtain ⟨v, ev⟩ : ∃ v, v = spV S := ⟨_, rfl⟩
  obtain ⟨b, eb⟩ : ∃ v, v = spB S := ⟨_, rfl⟩
  rw [← ev, ← eb] at HSP
  rw [← eb] at ESP EPL
  rw [← ev] at ESP
  clear er ev eb
  cases b with
  | true =>
    have E := Lib.hid (ESP.out rfl)
    clear g0 g1 g2 g3 g4 g5 g9 h0 hbl hr hc hok
    go_enter Try.func59, Try.ntmps59
    go_wp2_with (go_at_call 92; refine HSP.out.mono ?_; rintro e1 w1 ⟨rfl, rfl⟩)
    go_ret
    exact ⟨ret_int (by rw [E.out]), Below.refl _ _⟩
  | false =>
    have E0 := Lib.hid (EPL.out rfl)
    have hno := hok.no
    rcases h0 with h0 | ⟨h1, rfl, he1, he2, hv⟩
    · have hb : ((S.n : Int) == 0) = true := by rw [beq_iff_eq]; omega
      have E : Hid (res = 0) := (show _ = _ by
        rw [E0.out]
        have h2 := hok.z
        rw [h0, Nat.zero_mul] at h2
        rw [if_pos (by omega), if_neg (by omega)])
      obtain ⟨n, en⟩ : ∃ n, n = S.n := ⟨_, rfl⟩
      rw [← en] at g5 hb
      clear g0 g1 g2 g3 g4 g9 h0 hbl hr hc hok EPL ESP en hno
      go_enter Try.func59, Try.ntmps59
      go_wp2_with (go_at_call 92; refine HSP.out.mono ?_; rintro e1 w1 ⟨rfl, rfl⟩)
      go_ret
      exact ⟨ret_int (a := 0) (by rw [E.out]; rfl), Below.refl _ _⟩
    · have hb : ((S.n : Int) == 0) = false := by rw [beq_eq_false_iff_ne]; omega
      have hsz := valZ_size hv
      have hNA : Hid (NumAt w (.agg #[.int .i64 2, .bool s, .slice A (len32 m) c, .int .i64 e, .bool false]) (.number s m e)) := (show NumAt _ _ _ from ⟨A, c, rfl, A, c, rfl, hc, hr⟩)
      have HSM := Lib.hid (valZ_small hv hz he1 he2)
      have HZC := Lib.hid (zero_calls (.number s m e) _ w hNA.out)
      have ez : isZ (.number s m e) = decide (m = 0) := by show (m == 0) = _; by_cases h : m = 0 <;> simp [h]
      rw [ez] at HZC
      by_cases hm : m = 0
      · have hz0 : S.z = 0 := by rw [hm, Nat.zero_mul] at hsz; omega
        have E1 : Hid (res = if S.no < S.n then 0 else 2147483648) := (show _ = _ by
          rw [E0.out, if_pos hz0]
          by_cases h : S.no < S.n
          · rw [if_pos h, if_neg (by omega)]
          · rw [if_neg h, if_pos (by omega)])
        rw [decide_eq_true hm] at HZC
        by_cases hp : S.no < S.n
        · have E : Hid (res = 0) := (show _ = _ by rw [E1.out, if_pos hp])
          rw [decide_eq_true hp] at g9
          obtain ⟨n, en⟩ : ∃ n, n = S.n := ⟨_, rfl⟩
          rw [← en] at g5 hb
          obtain ⟨sl, esl⟩ : ∃ v, v = Value.slice A (len32 m) c := ⟨_, rfl⟩
          rw [← esl] at g2 HZC
          clear hbl hr hc hok EPL ESP en hno h1 hsz hm hz0 hp ez hv esl HSM hNA E0 E1
          have k9 := Lib.hid fun W (hb : Below w.heap.size w W) => (hb.cell (World.block_lt_of_cell? _ _ g9)).trans g9
          go_enter Try.func59, Try.ntmps59
          go_wp2_with (first
            | (go_at_call 92; refine HSP.out.mono ?_; rintro e1 w1 ⟨rfl, rfl⟩)
            | (go_at_call 93; refine HZC.out.mono ?_; rintro e1 w3 ⟨rfl, hbel⟩; have HB3 := Lib.hid hbel; have l9 := k9.out _ hbel; clear hbel))
          go_ret
          exact ⟨ret_int (a := 0) (by rw [E.out]; rfl), HB3.out⟩
        · have E : Hid (res = 2147483648) := (show _ = _ by rw [E1.out, if_neg hp])
          rw [decide_eq_false hp] at g9
          obtain ⟨n, en⟩ : ∃ n, n = S.n := ⟨_, rfl⟩
          rw [← en] at g5 hb
          obtain ⟨sl, esl⟩ : ∃ v, v = Value.slice A (len32 m) c := ⟨_, rfl⟩
          rw [← esl] at g2 HZC
          clear hbl hr hc hok EPL ESP en hno h1 hsz hm hz0 hp ez hv esl HSM hNA E0 E1
          have k9 := Lib.hid fun W (hb : Below w.heap.size w W) => (hb.cell (World.block_lt_of_cell? _ _ g9)).trans g9
          go_enter Try.func59, Try.ntmps59
          go_wp2_with (first
            | (go_at_call 92; refine HSP.out.mono ?_; rintro e1 w1 ⟨rfl, rfl⟩)
            | (go_at_call 93; refine HZC.out.mono ?_; rintro e1 w3 ⟨rfl, hbel⟩; have HB3 := Lib.hid hbel; have l9 := k9.out _ hbel; clear hbel))
          go_ret
          exact ⟨ret_int (a := 2147483648) (by rw [E.out]; rfl), HB3.out⟩
      · have hzn : S.z ≠ 0 := by
          have := Nat.mul_pos (Nat.pos_of_ne_zero hm) (Nat.two_pow_pos (e + 149).toNat)
          omega
        have hs : s = decide (S.z < 0) := by
          have h2 := Nat.mul_pos (Nat.pos_of_ne_zero hm) (Nat.two_pow_pos (e + 149).toNat)
          rw [← hv]
          unfold valZ
          have h3 : (m : Int) * 2 ^ (e + 149).toNat = ((m * 2 ^ (e + 149).toNat : Nat) : Int) := by push_cast; rfl
          rw [h3]
          cases s
          · rw [if_neg (by decide)]; symm; rw [decide_eq_false_iff_not]; omega
          · rw [if_pos rfl]; symm; rw [decide_eq_true_iff]; omega
        have E : Hid (res = told32 (.number s m e)) := (show _ = _ by
          rw [E0.out, if_neg hzn, told_exR s m e hm he1, hsz]
          by_cases h : S.z < 0
          · rw [if_pos h, hs, decide_eq_true h]; simp; omega
          · rw [if_neg h, hs, decide_eq_false h]; simp)
        rw [decide_eq_false hm] at HZC
        have HF := Lib.hid fun W => F32_calls W
        have HR : Hid (∀ W, Below w.heap.size w W → Calls Try.prog 44 #[formV 23 8, .agg #[.int .i64 2, .bool s, .slice A (len32 m) c, .int .i64 e, .bool false]] W fun e' w' => Gives W (.int .u64 ((res : Nat) : Int)) e' w') := fun W hb => by
          rw [E.out]; exact round_calls 23 8 150 255 isF32 _ _ W (hNA.out.below hb) HSM.out
        have hlt : res < 4294967296 := by rw [E.out]; exact told32_lt _
        have W1 := u_w32 res hlt
        obtain ⟨n, en⟩ : ∃ n, n = S.n := ⟨_, rfl⟩
        rw [← en] at g5 hb
        obtain ⟨sl, esl⟩ : ∃ v, v = Value.slice A (len32 m) c := ⟨_, rfl⟩
        rw [← esl] at g2 HZC HR
        clear hbl hr hc hok EPL ESP en hno h1 hsz hm hzn ez hv esl HSM hNA E0 hs E hlt g9
        have HG := Lib.hid (show w.cell? ⟨g, 0, none⟩ = some (.int .i64 2) ∧ w.cell? ⟨g, 1, none⟩ = some (.bool s) ∧ w.cell? ⟨g, 2, none⟩ = some sl ∧ w.cell? ⟨g, 3, none⟩ = some (.int .i64 e) ∧ w.cell? ⟨g, 4, none⟩ = some (.bool false) ∧ Below w.heap.size w w from ⟨g0, g1, g2, g3, g4, Below.refl _ _⟩)
        go_enter Try.func59, Try.ntmps59
        go_upto_region 10 with (first
          | (go_at_call 92; refine HSP.out.mono ?_; rintro e1 w1 ⟨rfl, rfl⟩)
          | (go_at_call 93; refine HZC.out.mono ?_; rintro e1 w3 ⟨rfl, hbel⟩; have HB3 := Lib.hid hbel; have HG3 := Lib.hid (keep6 hbel HG.out); clear hbel))
        obtain ⟨x0, x1, x2, x3, x4, hb3⟩ := HG3.out
        go_region_held3 (fun w' => w'.cell? ⟨g, 0, none⟩ = some (.int .i64 2) ∧ w'.cell? ⟨g, 1, none⟩ = some (.bool s) ∧ w'.cell? ⟨g, 2, none⟩ = some sl ∧ w'.cell? ⟨g, 3, none⟩ = some (.int .i64 e) ∧ w'.cell? ⟨g, 4, none⟩ = some (.bool false) ∧ Below w.heap.size w w')
          (first | exact ⟨x0, x1, x2, x3, x4, hb3.drew⟩ | exact keep6 hbel ‹_›) (first
          | (go_at_call 40; refine (HF.out _).mono ?_; rintro e1 w4 ⟨rfl, hbel⟩; have HB4 := Lib.hid (ujoin hb3.drew hbel); unfold formV)
          | (go_at_call 44; refine (HR.out w4 HB4.out).mono ?_; rintro e1 w5 ⟨rfl, hbel⟩))
        rename_i hH
        go_wp2
        go_ret
        exact ⟨rfl, hH.2.2.2.2.2⟩

set_option maxHeartbeats 1600000 in
set_option maxRecDepth 100000 in
theorem rExact_calls (w : World) (A : Option Addr) (n c : Nat) (x : Nat → Nat) (hr : RowU w A n x) (hc : n ≤ c) (hn : n ≤ 1000000000) (hx : ∀ k, k < n → x k < 4294967296) :
    Calls Try.prog 24 #[.slice A n c] w fun e w' => Gives w (.int .u32 ((exactOf x n : Nat) : Int)) e w' := by
  have HOF := Lib.hid (of_list_calls w A n c x hr hc hn hx)
  have HT : Hid (∀ W g, RefAt W g (acAll acNone x n) → Calls Try.prog 59 #[.pointer (some ⟨g, 0, none⟩)] W fun e w' => Gives W (.int .u32 ((exactOf x n : Nat) : Int)) e w') := (show ∀ W g, _ → _ from fun W g h =>
    told_sum_calls W g _ h (acOk_none.all x n) (by rw [acAll_n]; show 0 + n ≤ _; omega))
  obtain ⟨v, ev⟩ : ∃ v, v = exactOf x n := ⟨_, rfl⟩
  rw [← ev] at HT ⊢
  clear hr hx ev
  go_enter Try.func24, Try.ntmps24
  go_wp2_with (first
    | (go_at_call 58; refine HOF.out.mono ?_; rintro e1 w1 ⟨g, rfl, hg, hA, hbel⟩; have HA := Lib.hid hA; have HB := Lib.hid hbel; clear hg hA hbel)
    | (go_at_call 59; refine (HT.out _ _ HA.out).mono ?_; rintro e1 w2 ⟨rfl, hbel⟩; have HB2 := Lib.hid (ujoin HB.out hbel); clear hbel))
  go_ret
  exact ⟨rfl, HB2.out⟩

set_option maxHeartbeats 3200000 in
set_option maxRecDepth 100000 in
theorem lawExact_calls (w : World) (A : Option Addr) (n c : Nat) (x : Nat → Nat) (hr : RowU w A n x) (hc : n ≤ c) (hx : ∀ k, k < n → x k < 4294967296) :
    Calls Try.prog 6 #[.slice A n c] w fun e w' => LawTrue w e w' := by
  have HX := Lib.hid hx
  have HR := Lib.hid hr
  clear hx hr
  unfold LawTrue
  by_cases hlt : 2000 < n
  · have hb : (2000 : Int) < (n : Int) := by omega
    go_enter Try.func6, Try.ntmps6
    go_wp2_with (go_at_call 12; refine (known_calls _).mono ?_; rintro e1 w1 ⟨rfl, hbel⟩)
    go_ret
    exact ⟨rfl, hbel⟩
  · have hb : ¬ (2000 : Int) < (n : Int) := by omega
    have HLE := Lib.hid fun W h => lent_calls W A n c x h hc (by omega)
    have HP := Lib.hid fun W B c h (hc : n ≤ c) => pExact_calls W B n c x h hc (by omega) HX.out
    have HF := Lib.hid fun W B c h (hc : n ≤ c) => rExact_calls W B n c x h hc (by omega) HX.out
    have HS := Lib.hid fun W g hg h => stays_calls W g A n c x hg h (by omega)
    obtain ⟨u, eu⟩ : ∃ u, u = exactOf x n := ⟨_, rfl⟩
    rw [← eu] at HP HF
    have t1 : ((u : Int) == (u : Int)) = true := beq_self_eq_true _
    clear eu hlt
    go_enter Try.func6, Try.ntmps6
    go_wp2_with (first
      | (go_at_call 12; refine (known_calls _).mono ?_; rintro e1 w1 ⟨rfl, hbel⟩; have HR1 := Lib.hid (HR.out.below hbel); have HB1 := Lib.hid hbel; clear hbel)
      | (go_at_call 13; refine (HLE.out _ HR1.out).mono ?_; rintro e1 w2 ⟨g, rfl, hg, hbl, hbel⟩; have HG2 := Lib.hid hbl; have HR2 := Lib.hid (HR1.out.below hbel); have HB2 := Lib.hid (ujoin HB1.out hbel); clear hbel hbl hg)
      | (go_at_call 23; refine (HP.out _ _ _ (lent_rowOf HG2.out) (by omega)).mono ?_; rintro e1 w3 ⟨rfl, hbel⟩; have HG3 := Lib.hid ((hbel.block _ (Array.getElem?_eq_some_iff.1 HG2.out).1).trans HG2.out); have HR3 := Lib.hid (HR2.out.below hbel); have HB3 := Lib.hid (ujoin HB2.out hbel); clear hbel)
      | (go_at_call 24; refine (HF.out _ _ _ HR3.out hc).mono ?_; rintro e1 w4 ⟨rfl, hbel⟩; have HG4 := Lib.hid ((hbel.block _ (Array.getElem?_eq_some_iff.1 HG3.out).1).trans HG3.out); have HR4 := Lib.hid (HR3.out.below hbel); have HB4 := Lib.hid (ujoin HB3.out hbel); clear hbel)
      | (go_at_call 18; refine (HS.out _ _ HG4.out HR4.out).mono ?_; rintro e1 w7 ⟨rfl, hd⟩; have HB7 := Lib.hid (ujoin HB4.out hd.below); clear hd))
    go_ret
    exact ⟨rfl, HB7.out⟩
end Go.Proofs.Ytmeifciagepmpaa
