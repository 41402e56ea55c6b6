/- RefA without what this seat does not reach (part.py). -/
import Derived.Test.YtdcpeeolfgohmaaPlusAC
namespace Go.Proofs.Ytdcpeeolfgohmaa
open Go.RowKit Go.Proofs.YtdcpeeolfgohmaaW.PrintWords
set_option linter.unusedSimpArgs false
set_option linter.unusedVariables false

/-! ### How large sums are -/
def Sized (M : Nat) (lo hi : Int) : Ieee.Datum → Prop
  | .number _ m p => m < M ∧ lo ≤ p ∧ p ≤ hi
  | _ => True
theorem sized_read (fr ex bias top : Nat) (hf : IsForm fr ex bias top) (b : Nat) : Sized (2 * 2 ^ fr) (1 - (bias : Int)) (2 ^ ex) ((fmt fr ex).read b) := by
  rw [read_parts fr ex bias top hf]
  have hm := Nat.mod_lt b (Nat.two_pow_pos fr)
  have hx := Nat.mod_lt (b / 2 ^ fr) (Nat.two_pow_pos ex)
  have hx' : ((b / 2 ^ fr % 2 ^ ex : Nat) : Int) < 2 ^ ex := by exact_mod_cast hx
  have hp : (0 : Int) < 2 ^ ex := by exact_mod_cast Nat.two_pow_pos ex
  have hb : 150 ≤ bias := by rcases hf with ⟨rfl, rfl, rfl, rfl⟩ | ⟨rfl, rfl, rfl, rfl⟩ <;> decide
  split
  · split <;> trivial
  · split
    · exact ⟨by omega, by omega, by omega⟩
    · exact ⟨by omega, by omega, by omega⟩
theorem sized_flip {M : Nat} {lo hi : Int} {d : Ieee.Datum} (h : Sized M lo hi d) : Sized M lo hi d.opposite := by
  cases d <;> exact h
theorem sized_plus {M1 M2 D : Nat} {lo hi : Int} {d1 d2 : Ieee.Datum} (h1 : Sized M1 lo hi d1) (h2 : Sized M2 lo hi d2) (hD : hi - lo ≤ D) : Sized ((M1 + M2) * 2 ^ D) lo hi (plusD d1 d2) := by
  cases d1 with
  | nan s t => trivial
  | infinity s =>
    cases d2 with
    | nan s t => trivial
    | infinity t => unfold plusD Ieee.Datum.sum; dsimp only; split <;> trivial
    | number t m p => trivial
  | number s m p =>
    cases d2 with
    | nan s t => trivial
    | infinity t => trivial
    | number t n q =>
      obtain ⟨a1, a2, a3⟩ := h1
      obtain ⟨b1, b2, b3⟩ := h2
      obtain ⟨X, hX⟩ : ∃ X, X = m * 2 ^ (p - min p q).toNat := ⟨_, rfl⟩
      obtain ⟨Y, hY⟩ : ∃ Y, Y = n * 2 ^ (q - min p q).toNat := ⟨_, rfl⟩
      have k1 : 2 ^ (p - min p q).toNat ≤ 2 ^ D := Nat.pow_le_pow_right (by decide) (by omega)
      have k2 : 2 ^ (q - min p q).toNat ≤ 2 ^ D := Nat.pow_le_pow_right (by decide) (by omega)
      have hD0 := Nat.two_pow_pos D
      have x1 : X < M1 * 2 ^ D := by
        rw [hX]
        exact Nat.lt_of_le_of_lt (Nat.mul_le_mul_left _ k1) ((Nat.mul_lt_mul_right hD0).2 a1)
      have y1 : Y < M2 * 2 ^ D := by
        rw [hY]
        exact Nat.lt_of_le_of_lt (Nat.mul_le_mul_left _ k2) ((Nat.mul_lt_mul_right hD0).2 b1)
      have e : (M1 + M2) * 2 ^ D = M1 * 2 ^ D + M2 * 2 ^ D := Nat.add_mul _ _ _
      rw [e]
      by_cases hs : s = t
      · subst hs
        rw [plusD_same, ← hX, ← hY]
        exact ⟨by omega, by omega, by omega⟩
      · obtain rfl : t = !s := by cases s <;> cases t <;> simp_all
        rw [plusD_diff s m n p q X Y hX hY]
        split
        · exact ⟨by omega, by omega, by omega⟩
        · split
          · exact ⟨by omega, by omega, by omega⟩
          · exact ⟨by omega, by omega, by omega⟩
theorem sized_small {M L : Nat} {lo hi : Int} {d : Ieee.Datum} (h : Sized M lo hi d) (hM : M ≤ 2 ^ (32 * L)) (hL : L ≤ 10000) (h1 : -100000 ≤ lo) (h2 : hi ≤ 100000) : Small d := by
  cases d with
  | number s m p => exact ⟨small_lt (m := L) (Nat.lt_of_lt_of_le h.1 hM) hL, by have := h.2.1; omega, by have := h.2.2; omega⟩
  | infinity s => trivial
  | nan s t => trivial
theorem small_flip {d : Ieee.Datum} (h : Small d) : Small d.opposite := by cases d <;> exact h

/-! ### The reference's reckoning -/
def add32 (a b : Nat) : Nat := told32 (plusD (rd32 a) (rd32 b))
def sub32 (a b : Nat) : Nat := told32 (plusD (rd32 a) (rd32 b).opposite)
def wide64 (a : Nat) : Nat := told64 (rd32 a)
def add64 (a b : Nat) : Nat := told64 (plusD (rd64 a) (rd64 b))
def first32 (a : Nat) : Nat := if (rd32 a).isNaN then 2143289344 else a
theorem small_add32 (a b : Nat) : Small (plusD (rd32 a) (rd32 b)) :=
  sized_small (L := 14) (sized_plus (D := 405) (sized_read 23 8 150 255 isF32 a) (sized_read 23 8 150 255 isF32 b) (by decide)) (by decide +kernel) (by decide) (by decide) (by decide)
theorem small_sub32 (a b : Nat) : Small (plusD (rd32 a) (rd32 b).opposite) :=
  sized_small (L := 14) (sized_plus (D := 405) (sized_read 23 8 150 255 isF32 a) (sized_flip (sized_read 23 8 150 255 isF32 b)) (by decide)) (by decide +kernel) (by decide) (by decide) (by decide)
theorem small_add64 (a b : Nat) : Small (plusD (rd64 a) (rd64 b)) :=
  sized_small (L := 100) (sized_plus (D := 3122) (sized_read 52 11 1075 2047 isF64 a) (sized_read 52 11 1075 2047 isF64 b) (by decide)) (by decide +kernel) (by decide) (by decide) (by decide)

theorem NumAt.kind {w : World} {u : Value} {d : Ieee.Datum} (h : NumAt w u d) : ∃ k s A n c e b, u = numV k s A n c e b ∧ (k == 0) = d.isNaN := by
  cases d with
  | number s m p => obtain ⟨A, c, rfl, _⟩ := h; exact ⟨_, _, _, _, _, _, _, rfl, rfl⟩
  | infinity s => obtain ⟨A, n, c, e, b, rfl⟩ := h; exact ⟨_, _, _, _, _, _, _, rfl, rfl⟩
  | nan s t => obtain ⟨s', A, n, c, e, b, rfl⟩ := h; exact ⟨_, _, _, _, _, _, _, rfl, rfl⟩
theorem NumAt.flip {w : World} {k : Int} {s : Bool} {A : Option Addr} {n c : Nat} {e : Int} {b : Bool} {d : Ieee.Datum} (h : NumAt w (numV k s A n c e b) d) : NumAt w (numV k (!s) A n c e b) d.opposite := by
  cases d with
  | number s' m p =>
    obtain ⟨A', c', h, hn⟩ := h
    unfold numV at h
    simp only [Value.agg.injEq, Array.mk.injEq, List.cons.injEq, Value.int.injEq, Value.bool.injEq, Value.slice.injEq, true_and, and_true] at h
    obtain ⟨rfl, rfl, ⟨rfl, rfl, rfl⟩, rfl, rfl⟩ := h
    exact ⟨A, c, rfl, hn⟩
  | infinity s' =>
    obtain ⟨A', n', c', e', b', h⟩ := h
    unfold numV at h
    simp only [Value.agg.injEq, Array.mk.injEq, List.cons.injEq, Value.int.injEq, Value.bool.injEq, Value.slice.injEq, true_and, and_true] at h
    obtain ⟨rfl, rfl, _⟩ := h
    exact ⟨_, _, _, _, _, rfl⟩
  | nan s' t =>
    obtain ⟨s2, A', n', c', e', b', h⟩ := h
    unfold numV at h
    simp only [Value.agg.injEq, Array.mk.injEq, List.cons.injEq, Value.int.injEq, Value.bool.injEq, Value.slice.injEq, true_and, and_true] at h
    obtain ⟨rfl, _⟩ := h
    exact ⟨_, _, _, _, _, _, rfl⟩

set_option maxHeartbeats 1600000 in
set_option maxRecDepth 100000 in
theorem rWide_calls (a : Nat) (ha : a < 4294967296) (w : World) : Calls Try.prog 129 #[.int .u32 (a : Int)] w fun e w' => Gives w (.int .u64 ((wide64 a : Nat) : Int)) e w' := by
  have HA := Lib.hid fun W => num_calls a ha W
  have HF := Lib.hid fun W => F64_calls W
  have HR := Lib.hid fun (u : Value) (W : World) (h : NumAt W u (rd32 a)) => round_calls 52 11 1075 2047 isF64 (rd32 a) u W h (small_read 23 8 150 255 isF32 a)
  rw [show toldW 52 11 2047 (rd32 a) = wide64 a from rfl] at HR
  clear ha
  go_enter Try.func129, Try.ntmps129
  go_wp2_with (first
    | (go_at_call 107; refine (HF.out _).mono ?_; rintro e1 w1 ⟨rfl, hbel⟩; have HB1 := Lib.hid hbel; unfold formV; clear hbel)
    | (go_at_call 151; refine (HA.out _).mono ?_; rintro e1 w2 ⟨u, rfl, hu, hbel⟩; have HU := Lib.hid hu; have HB2 := Lib.hid (ujoin HB1.out hbel); clear hu hbel)
    | (go_at_call 110; refine (HR.out u _ HU.out).mono ?_; rintro e1 w3 ⟨rfl, hbel⟩; have HB3 := Lib.hid (ujoin HB2.out hbel); clear hbel))
  go_ret
  exact ⟨rfl, HB3.out⟩

set_option maxHeartbeats 1600000 in
set_option maxRecDepth 100000 in
theorem rAdd64_calls (a b : Nat) (ha : a < 18446744073709551616) (hb : b < 18446744073709551616) (w : World) : Calls Try.prog 130 #[.int .u64 (a : Int), .int .u64 (b : Int)] w fun e w' => Gives w (.int .u64 ((add64 a b : Nat) : Int)) e w' := by
  have HF := Lib.hid fun W => F64_calls W
  have HA : Hid (∀ W, Calls Try.prog 108 #[.agg #[.int .i64 52, .int .i64 11], .int .u64 (a : Int)] W fun e w' => NumEnd W (rd64 a) e w') := fun W => of_calls 52 11 1075 2047 isF64 a ha W
  have HB : Hid (∀ W, Calls Try.prog 108 #[.agg #[.int .i64 52, .int .i64 11], .int .u64 (b : Int)] W fun e w' => NumEnd W (rd64 b) e w') := fun W => of_calls 52 11 1075 2047 isF64 b hb W
  have HP := Lib.hid fun (u1 u2 : Value) (W : World) (h1 : NumAt W u1 (rd64 a)) (h2 : NumAt W u2 (rd64 b)) => plusNum_calls (rd64 a) (rd64 b) u1 u2 W h1 h2 (small_read 52 11 1075 2047 isF64 a) (small_read 52 11 1075 2047 isF64 b)
  have HT := Lib.hid fun (u : Value) (W : World) (h : NumAt W u (plusD (rd64 a) (rd64 b))) => round_calls 52 11 1075 2047 isF64 _ u W h (small_add64 a b)
  rw [show toldW 52 11 2047 (plusD (rd64 a) (rd64 b)) = add64 a b from rfl] at HT
  clear ha hb
  unfold formV at HF HT
  go_enter Try.func130, Try.ntmps130
  go_upto_region 2 with (go_at_call 107; refine (HF.out _).mono ?_; rintro e1 w1 ⟨rfl, hbel⟩; have HB1 := Lib.hid hbel; clear hbel)
  have hn : (w1.alloc (.cells #[.int .i64 52, .int .i64 11] 162)).cell? ⟨w1.heap.size, 0, none⟩ = some (.int .i64 52) ∧ (w1.alloc (.cells #[.int .i64 52, .int .i64 11] 162)).cell? ⟨w1.heap.size, 1, none⟩ = some (.int .i64 11) := FormAt.new w1 52 11
  have hb0 : Below w1.heap.size w1 (w1.alloc (.cells #[.int .i64 52, .int .i64 11] 162)) := (Below.refl _ _).alloc (Nat.le_refl _) _
  have HB2 := Lib.hid (ujoin HB1.out hb0)
  clear hb0 HB1
  obtain ⟨g, eg⟩ : ∃ g, g = w1.heap.size := ⟨_, rfl⟩
  rw [← eg] at hn ⊢
  clear eg
  generalize w1.alloc (.cells #[.int .i64 52, .int .i64 11] 162) = w0 at hn HB2 ⊢
  obtain ⟨c1, c2⟩ := hn
  have hb := HB2.out
  go_region_held3 (fun w' => w'.cell? ⟨g, 0, none⟩ = some (.int .i64 52) ∧ w'.cell? ⟨g, 1, none⟩ = some (.int .i64 11) ∧ Below w.heap.size w w') (first | exact ⟨c1, c2, hb.drew⟩ | exact keep3 ‹_› hbel) (first
    | (go_at_call 108; (with_reducible refine (HA.out _).mono ?_); rintro e1 w2 ⟨u1, rfl, hu1, hbel⟩; have HU1 := Lib.hid hu1)
    | (go_at_call 108; (with_reducible refine (HB.out _).mono ?_); rintro e1 w3 ⟨u2, rfl, hu2, hbel⟩; have HU2 := Lib.hid hu2; have HV1 := Lib.hid (HU1.out.below hbel))
    | (go_at_call 152; refine (HP.out u1 u2 _ HV1.out HU2.out).mono ?_; rintro e1 w4 ⟨u3, rfl, hu3, hbel⟩; have HU3 := Lib.hid hu3)
    | (go_at_call 110; refine (HT.out u3 _ HU3.out).mono ?_; rintro e1 w5 ⟨rfl, hbel⟩))
  rename_i hH
  go_wp2
  go_ret
  exact ⟨rfl, hH.2.2⟩

end Go.Proofs.Ytdcpeeolfgohmaa
