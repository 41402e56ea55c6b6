/- FlW without what this seat does not reach (part.py). -/
import Derived.Test.YtdcpeeolfgohmaaFlPQ
import Derived.Laws.FloatArith
namespace Go.Proofs.Ytdcpeeolfgohmaa
open Go.RowKit Go.Proofs.YtdcpeeolfgohmaaW.PrintWords
set_option linter.unusedSimpArgs false
set_option linter.unusedVariables false

theorem run_frombits32 (n : Nat) (w : World) : (callFunc 36 #[.int .u32 (n : Int)]).run Try.prog w = .ok (.value (.float .f32 n)) w := by
  rw [run_callFunc_extern Try.func36 (by kernel_rfl) (by kernel_rfl) (by kernel_rfl) (e := Extern.MathFloatBits.float32frombits) (by kernel_rfl)]
  rfl
theorem run_bits32 (n : Nat) (w : World) : (callFunc 156 #[.float .f32 n]).run Try.prog w = .ok (.value (.int .u32 (n : Int))) w := by
  rw [run_callFunc_extern Try.func156 (by kernel_rfl) (by kernel_rfl) (by kernel_rfl) (e := Extern.MathFloatBits.float32bits) (by kernel_rfl)]
  rfl
theorem run_frombits64 (n : Nat) (w : World) : (callFunc 74 #[.int .u64 (n : Int)]).run Try.prog w = .ok (.value (.float .f64 n)) w := by
  rw [run_callFunc_extern Try.func74 (by kernel_rfl) (by kernel_rfl) (by kernel_rfl) (e := Extern.MathFloatBits.float64frombits) (by kernel_rfl)]
  rfl
theorem run_bits64 (n : Nat) (w : World) : (callFunc 145 #[.float .f64 n]).run Try.prog w = .ok (.value (.int .u64 (n : Int))) w := by
  rw [run_callFunc_extern Try.func145 (by kernel_rfl) (by kernel_rfl) (by kernel_rfl) (e := Extern.MathFloatBits.float64bits) (by kernel_rfl)]
  rfl

set_option maxHeartbeats 1600000 in
set_option maxRecDepth 100000 in
theorem value_calls (a : Nat) (w : World) : Calls Try.prog 165 #[.int .u32 (a : Int)] w fun e w' => e = .returned (.float .f32 a) ∧ w = w' := by
  have hr := fun W => run_frombits32 a W
  go_enter Try.func165, Try.ntmps165
  go_wp2
  go_ret
  exact ⟨rfl, rfl⟩

theorem canon32_nan {r : Nat} (h : (rd32 r).isNaN = true) : canon32 r = 2143289344 := by unfold canon32; rw [h]; rfl
theorem canon32_num {r : Nat} (h : (rd32 r).isNaN = false) : canon32 r = r := by unfold canon32; rw [h]; rfl
theorem canon64_nan {r : Nat} (h : (rd64 r).isNaN = true) : canon64 r = 9221120237041090560 := by unfold canon64; rw [h]; rfl
theorem canon64_num {r : Nat} (h : (rd64 r).isNaN = false) : canon64 r = r := by unfold canon64; rw [h]; rfl
theorem neq32 (r : Nat) : (FloatKind.f32.format.order r r != some Ordering.eq) = (rd32 r).isNaN := order_self (rd32 r)
theorem neq64 (r : Nat) : (FloatKind.f64.format.order r r != some Ordering.eq) = (rd64 r).isNaN := order_self (rd64 r)

set_option maxHeartbeats 1600000 in
set_option maxRecDepth 100000 in
theorem told_calls (r : Nat) (w : World) : Calls Try.prog 144 #[.float .f32 r] w fun e w' => e = .returned (.int .u32 ((canon32 r : Nat) : Int)) ∧ w = w' := by
  have h1 := neq32 r
  have h2 := fun W => run_bits32 r W
  cases hn : (rd32 r).isNaN with
  | true =>
    have E := Lib.hid (canon32_nan hn)
    rw [hn] at h1
    clear hn
    go_enter Try.func144, Try.ntmps144
    go_wp2
    go_ret
    exact ⟨ret_int (a := 2143289344) (by rw [E.out]; rfl), rfl⟩
  | false =>
    have E := Lib.hid (canon32_num hn)
    rw [hn] at h1
    clear hn
    go_enter Try.func144, Try.ntmps144
    go_wp2
    go_ret
    exact ⟨ret_int (a := (r : Int)) (by rw [E.out]), rfl⟩

set_option maxHeartbeats 1600000 in
set_option maxRecDepth 100000 in
theorem told64_calls (r : Nat) (w : World) : Calls Try.prog 114 #[.float .f64 r] w fun e w' => e = .returned (.int .u64 ((canon64 r : Nat) : Int)) ∧ w = w' := by
  have h1 := neq64 r
  have h2 := fun W => run_bits64 r W
  cases hn : (rd64 r).isNaN with
  | true =>
    have E := Lib.hid (canon64_nan hn)
    rw [hn] at h1
    clear hn
    go_enter Try.func114, Try.ntmps114
    go_wp2
    go_ret
    exact ⟨ret_int (a := 9221120237041090560) (by rw [E.out]; rfl), rfl⟩
  | false =>
    have E := Lib.hid (canon64_num hn)
    rw [hn] at h1
    clear hn
    go_enter Try.func114, Try.ntmps114
    go_wp2
    go_ret
    exact ⟨ret_int (a := (r : Int)) (by rw [E.out]), rfl⟩

/-! ### What a machine's NaN is -/
theorem nan_word32 (t : Nat) : (rd32 (t % 2 * 2 ^ 31 + 0x7f800000 + 1 + t / 2 % (2 ^ 23 - 1))).isNaN = true ∧ t % 2 * 2 ^ 31 + 0x7f800000 + 1 + t / 2 % (2 ^ 23 - 1) < 4294967296 := by
  obtain ⟨b, eb⟩ : ∃ b, b = t % 2 * 2 ^ 31 + 0x7f800000 + 1 + t / 2 % (2 ^ 23 - 1) := ⟨_, rfl⟩
  have h1 : t % 2 < 2 := Nat.mod_lt _ (by decide)
  have h2 : t / 2 % (2 ^ 23 - 1) < 8388607 := Nat.mod_lt _ (by decide)
  obtain ⟨u, eu⟩ : ∃ u, u = t / 2 % (2 ^ 23 - 1) := ⟨_, rfl⟩
  obtain ⟨v, ev⟩ : ∃ v, v = t % 2 := ⟨_, rfl⟩
  rw [← eb]
  rw [← ev, ← eu] at eb
  rw [← ev] at h1
  rw [← eu] at h2
  have hv : v = 0 ∨ v = 1 := by omega
  have hb1 : b % 8388608 ≠ 0 := by rcases hv with rfl | rfl <;> omega
  have hb2 : b / 8388608 % 256 = 255 := by rcases hv with rfl | rfl <;> omega
  clear ev eu
  refine ⟨?_, by omega⟩
  rw [rd32, read_parts 23 8 150 255 isF32, if_pos (show b / 2 ^ 23 % 2 ^ 8 = 255 from hb2), if_neg (show ¬ b % 2 ^ 23 = 0 from hb1)]
  rfl
theorem nan_word64 (t : Nat) : (rd64 (t % 2 * 2 ^ 63 + 0x7ff0000000000000 + 1 + t / 2 % (2 ^ 52 - 1))).isNaN = true ∧ t % 2 * 2 ^ 63 + 0x7ff0000000000000 + 1 + t / 2 % (2 ^ 52 - 1) < 18446744073709551616 := by
  obtain ⟨b, eb⟩ : ∃ b, b = t % 2 * 2 ^ 63 + 0x7ff0000000000000 + 1 + t / 2 % (2 ^ 52 - 1) := ⟨_, rfl⟩
  have h1 : t % 2 < 2 := Nat.mod_lt _ (by decide)
  have h2 : t / 2 % (2 ^ 52 - 1) < 4503599627370495 := Nat.mod_lt _ (by decide)
  obtain ⟨u, eu⟩ : ∃ u, u = t / 2 % (2 ^ 52 - 1) := ⟨_, rfl⟩
  obtain ⟨v, ev⟩ : ∃ v, v = t % 2 := ⟨_, rfl⟩
  rw [← eb]
  rw [← ev, ← eu] at eb
  rw [← ev] at h1
  rw [← eu] at h2
  have hv : v = 0 ∨ v = 1 := by omega
  have hb1 : b % 4503599627370496 ≠ 0 := by rcases hv with rfl | rfl <;> omega
  have hb2 : b / 4503599627370496 % 2048 = 2047 := by rcases hv with rfl | rfl <;> omega
  clear ev eu
  refine ⟨?_, by omega⟩
  rw [rd64, read_parts 52 11 1075 2047 isF64, if_pos (show b / 2 ^ 52 % 2 ^ 11 = 2047 from hb2), if_neg (show ¬ b % 2 ^ 52 = 0 from hb1)]
  rfl
theorem add32_lt (a b : Nat) : add32 a b < 4294967296 := told32_lt _
theorem sub32_lt (a b : Nat) : sub32 a b < 4294967296 := told32_lt _
theorem add64_lt (a b : Nat) : add64 a b < 18446744073709551616 := told64_lt _

theorem fadd32_run (a b : Nat) (t : TypeId) (w : World) : ∃ r w', (binOp .add t (.float .f32 a) (.float .f32 b)).run Try.prog w = .ok (.float .f32 r) w' ∧ canon32 r = add32 a b ∧ r < 4294967296 ∧ Drawn0 w w' := by
  cases h : FloatKind.f32.format.add a b with
  | some r =>
    obtain ⟨h1, h2⟩ := fadd32_some h
    exact ⟨r, w, by simp [binOp, Op.floatArith, h], by rw [canon32_num h2, h1], by rw [← h1]; exact add32_lt a b, Drawn0.refl _⟩
  | none =>
    obtain ⟨h1, h2⟩ := nan_word32 (w.tape w.drawn (.nanBits .f32 a b))
    exact ⟨_, w.drew, by simp [binOp, Op.floatArith, h, Question.forced]; rfl, by rw [canon32_nan h1, fadd32_none h], h2, Drawn0.mk ⟨1, rfl⟩⟩
theorem fsub32_run (a b : Nat) (t : TypeId) (w : World) : ∃ r w', (binOp .sub t (.float .f32 a) (.float .f32 b)).run Try.prog w = .ok (.float .f32 r) w' ∧ canon32 r = sub32 a b ∧ r < 4294967296 ∧ Drawn0 w w' := by
  cases h : FloatKind.f32.format.sub a b with
  | some r =>
    obtain ⟨h1, h2⟩ := fsub32_some h
    exact ⟨r, w, by simp [binOp, Op.floatArith, h], by rw [canon32_num h2, h1], by rw [← h1]; exact sub32_lt a b, Drawn0.refl _⟩
  | none =>
    obtain ⟨h1, h2⟩ := nan_word32 (w.tape w.drawn (.nanBits .f32 a b))
    exact ⟨_, w.drew, by simp [binOp, Op.floatArith, h, Question.forced]; rfl, by rw [canon32_nan h1, fsub32_none h], h2, Drawn0.mk ⟨1, rfl⟩⟩
theorem fadd64_run (a b : Nat) (t : TypeId) (w : World) : ∃ r w', (binOp .add t (.float .f64 a) (.float .f64 b)).run Try.prog w = .ok (.float .f64 r) w' ∧ canon64 r = add64 a b ∧ r < 18446744073709551616 ∧ Drawn0 w w' := by
  cases h : FloatKind.f64.format.add a b with
  | some r =>
    obtain ⟨h1, h2⟩ := fadd64_some h
    exact ⟨r, w, by simp [binOp, Op.floatArith, h], by rw [canon64_num h2, h1], by rw [← h1]; exact add64_lt a b, Drawn0.refl _⟩
  | none =>
    obtain ⟨h1, h2⟩ := nan_word64 (w.tape w.drawn (.nanBits .f64 a b))
    exact ⟨_, w.drew, by simp [binOp, Op.floatArith, h, Question.forced]; rfl, by rw [canon64_nan h1, fadd64_none h], h2, Drawn0.mk ⟨1, rfl⟩⟩

end Go.Proofs.Ytdcpeeolfgohmaa
