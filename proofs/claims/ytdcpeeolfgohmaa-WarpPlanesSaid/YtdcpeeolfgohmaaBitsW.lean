/- The program's bits: split, Class, IsNaN, Parts. -/
import Derived.Test.YtdcpeeolfgohmaaFlW
namespace Go.Proofs.Ytdcpeeolfgohmaa
open Go.RowKit Go.Proofs.YtdcpeeolfgohmaaW.PrintWords
set_option linter.unusedSimpArgs false
set_option linter.unusedVariables false

def sgnB (a : Nat) : Bool := decide (2147483648 ≤ a)
def expN (a : Nat) : Nat := a / 8388608 % 256
def fracN (a : Nat) : Nat := a % 8388608
theorem u_mask32 (a k : Nat) (hk : k ≤ 32) (ha : a < 4294967296) : bits .and .u32 (a : Int) ((2 ^ k - 1 : Nat) : Int) = ((a % 2 ^ k : Nat) : Int) := by
  have h2 : 2 ^ k - 1 < 4294967296 := by
    have : 2 ^ k ≤ 2 ^ 32 := Nat.pow_le_pow_right (by decide) hk
    have := Nat.two_pow_pos k
    omega
  rw [(u_bits a (2 ^ k - 1) ha h2).1, Nat.and_two_pow_sub_one_eq_mod]

set_option maxHeartbeats 1600000 in
set_option maxRecDepth 100000 in
theorem split_calls (a : Nat) (ha : a < 4294967296) (w : World) :
    Calls Try.prog 167 #[.int .u32 (a : Int)] w fun e w' => Gives w (.agg #[.bool (sgnB a), .int .i64 ((expN a : Nat) : Int), .int .i64 ((fracN a : Nat) : Int)]) e w' := by
  obtain ⟨s, es⟩ : ∃ s, s = sgnB a := ⟨_, rfl⟩
  obtain ⟨x, ex⟩ : ∃ x, x = expN a := ⟨_, rfl⟩
  obtain ⟨m, em⟩ : ∃ m, m = fracN a := ⟨_, rfl⟩
  rw [← es, ← ex, ← em]
  obtain ⟨y, ey⟩ : ∃ y, y = a / 8388608 := ⟨_, rfl⟩
  have W1 : (a : Int) / 8388608 = (y : Int) := by omega
  have W2 : bits .and .u32 (y : Int) 255 = (x : Int) := by
    have h := u_mask32 y 8 (by decide) (by omega)
    rw [ex, expN, ← ey]; exact h
  have W3 : bits .and .u32 (a : Int) 8388607 = (m : Int) := by
    have h := u_mask32 a 23 (by decide) ha
    rw [em, fracN]; exact h
  have hx : x < 256 := by rw [ex]; exact Nat.mod_lt _ (by decide)
  have hm : m < 8388608 := by rw [em]; exact Nat.mod_lt _ (by decide)
  have W4 : decide ((2147483648 : Int) ≤ (a : Int)) = s := by rw [es, sgnB]; by_cases h : 2147483648 ≤ a <;> simp [h] <;> omega
  clear es ex em ey
  go_enter Try.func167, Try.ntmps167
  go_wp2
  exact bodyPost_ret (v := .agg #[.bool s, .int .i64 (x : Int), .int .i64 (m : Int)]) (by simp [results, Try.results167, go_sem]) rfl ⟨rfl, (Below.refl _ _).alloc (Nat.le_refl _) _⟩

theorem eqA_parts (d : Nat) (w : World) (x0 y0 : Bool) (x1 y1 x2 y2 : Int) :
    (Op.equalIn (d + 2) 202 (.agg #[.bool x0, .int .i64 x1, .int .i64 x2]) (.agg #[.bool y0, .int .i64 y1, .int .i64 y2])).run Try.prog w = .ok (x0 == y0 && (x1 == y1 && (x2 == y2))) w := by
  refine eqA_of Try.underlying202 (by kernel_rfl) ?_
  refine eqf_cons (by rfl) (by go_simp; rfl) (by go_simp; rfl) (by go_simp) ?_
  refine eqf_cons (by rfl) (by go_simp; rfl) (by go_simp; rfl) (by go_simp) ?_
  exact eqf_last (by rfl) (by go_simp; rfl) (by go_simp; rfl) (by go_simp)
attribute [local go_sem high] eqA_parts

def classN (a : Nat) : Int := if expN a = 0 ∧ fracN a = 0 then 5 else if expN a = 255 ∧ fracN a = 0 then 2 else if expN a = 255 then 1 else if expN a = 0 then 4 else 3

set_option maxHeartbeats 3200000 in
set_option maxRecDepth 100000 in
theorem class_calls (a : Nat) (ha : a < 4294967296) (w : World) :
    Calls Try.prog 164 #[.int .u32 (a : Int)] w fun e w' => Gives w (.int .i64 (classN a)) e w' := by
  have HSP := Lib.hid fun W => split_calls a ha W
  obtain ⟨s, es⟩ : ∃ s, s = sgnB a := ⟨_, rfl⟩
  obtain ⟨x, ex⟩ : ∃ x, x = expN a := ⟨_, rfl⟩
  obtain ⟨m, em⟩ : ∃ m, m = fracN a := ⟨_, rfl⟩
  have EC : Hid (classN a = if x = 0 ∧ m = 0 then 5 else if x = 255 ∧ m = 0 then 2 else if x = 255 then 1 else if x = 0 then 4 else 3) := (show _ = _ by rw [classN, ← ex, ← em])
  rw [← es, ← ex, ← em] at HSP
  clear es ex em ha
  have hcase : (x = 0 ∧ m = 0) ∨ (x = 0 ∧ m ≠ 0) ∨ (x = 255 ∧ m = 0) ∨ (x = 255 ∧ m ≠ 0) ∨ (x ≠ 0 ∧ x ≠ 255) := by omega
  have hb0 : (false == false) = true := rfl
  rcases hcase with ⟨h1, h2⟩ | ⟨h1, h2⟩ | ⟨h1, h2⟩ | ⟨h1, h2⟩ | ⟨h1, h2⟩
  · subst h1 h2
    have E : Hid (classN a = 5) := EC.out
    go_enter Try.func164, Try.ntmps164
    go_wp2_with (go_at_call 167; refine (HSP.out _).mono ?_; rintro e1 w1 ⟨rfl, hbel⟩; have HB1 := Lib.hid hbel; clear hbel)
    go_ret
    exact ⟨ret_int (a := 5) (by rw [E.out]), ujoin HB1.out ((Below.refl _ _).alloc (Nat.le_refl _) _)⟩
  · subst h1
    have E : Hid (classN a = 4) := (show _ = _ by rw [EC.out, if_neg (by omega), if_neg (by omega), if_neg (by omega), if_pos rfl])
    have hm : ((m : Int) == 0) = false := by rw [beq_eq_false_iff_ne]; omega
    clear h2
    go_enter Try.func164, Try.ntmps164
    go_wp2_with (go_at_call 167; refine (HSP.out _).mono ?_; rintro e1 w1 ⟨rfl, hbel⟩; have HB1 := Lib.hid hbel; clear hbel)
    go_ret
    exact ⟨ret_int (a := 4) (by rw [E.out]), ujoin HB1.out ((Below.refl _ _).alloc (Nat.le_refl _) _)⟩
  · subst h1 h2
    have E : Hid (classN a = 2) := (show _ = _ by rw [EC.out]; rfl)
    go_enter Try.func164, Try.ntmps164
    go_wp2_with (go_at_call 167; refine (HSP.out _).mono ?_; rintro e1 w1 ⟨rfl, hbel⟩; have HB1 := Lib.hid hbel; clear hbel)
    go_ret
    exact ⟨ret_int (a := 2) (by rw [E.out]), ujoin HB1.out ((Below.refl _ _).alloc (Nat.le_refl _) _)⟩
  · subst h1
    have E : Hid (classN a = 1) := (show _ = _ by rw [EC.out, if_neg (by omega), if_neg (by omega), if_pos rfl])
    have hm : ((m : Int) == 0) = false := by rw [beq_eq_false_iff_ne]; omega
    clear h2
    go_enter Try.func164, Try.ntmps164
    go_wp2_with (go_at_call 167; refine (HSP.out _).mono ?_; rintro e1 w1 ⟨rfl, hbel⟩; have HB1 := Lib.hid hbel; clear hbel)
    go_ret
    exact ⟨ret_int (a := 1) (by rw [E.out]), ujoin HB1.out ((Below.refl _ _).alloc (Nat.le_refl _) _)⟩
  · have E : Hid (classN a = 3) := (show _ = _ by rw [EC.out, if_neg (by omega), if_neg (by omega), if_neg (by omega), if_neg (by omega)])
    have hx0 : ((x : Int) == 0) = false := by rw [beq_eq_false_iff_ne]; omega
    have hx1 : ((x : Int) == 255) = false := by rw [beq_eq_false_iff_ne]; omega
    clear h1 h2
    go_enter Try.func164, Try.ntmps164
    go_wp2_with (go_at_call 167; refine (HSP.out _).mono ?_; rintro e1 w1 ⟨rfl, hbel⟩; have HB1 := Lib.hid hbel; clear hbel)
    go_ret
    exact ⟨ret_int (a := 3) (by rw [E.out]), ujoin HB1.out ((Below.refl _ _).alloc (Nat.le_refl _) _)⟩
end Go.Proofs.Ytdcpeeolfgohmaa
