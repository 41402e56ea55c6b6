/- The program's IsNaN, wide, Wide, Narrow; sums.wide. -/
import Derived.Test.YtdcpeeolfgohmaaBitsW
namespace Go.Proofs.Ytdcpeeolfgohmaa
open Go.RowKit Go.Proofs.YtdcpeeolfgohmaaW.PrintWords
set_option linter.unusedSimpArgs false
set_option linter.unusedVariables false

theorem class_nan (a : Nat) : (classN a == 1) = (rd32 a).isNaN := by
  have h1 : a / 2 ^ 23 % 2 ^ 8 = expN a := rfl
  have h2 : a % 2 ^ 23 = fracN a := rfl
  rw [rd32, read_parts 23 8 150 255 isF32, h1, h2]
  unfold classN
  by_cases hx : expN a = 255
  · rw [hx]
    by_cases hm : fracN a = 0
    · simp [hm, Ieee.Datum.isNaN]
    · simp [hm, Ieee.Datum.isNaN]
  · rw [if_neg hx]
    by_cases h0 : expN a = 0
    · by_cases hm : fracN a = 0
      · simp [h0, hm, Ieee.Datum.isNaN]
      · simp [h0, hm, Ieee.Datum.isNaN]
    · simp [hx, h0, Ieee.Datum.isNaN]

set_option maxHeartbeats 1600000 in
set_option maxRecDepth 100000 in
theorem pIsNaN_calls (a : Nat) (ha : a < 4294967296) (w : World) : Calls Try.prog 161 #[.int .u32 (a : Int)] w fun e w' => Gives w (.bool (rd32 a).isNaN) e w' := by
  have HC := Lib.hid fun W => class_calls a ha W
  have hx := class_nan a
  obtain ⟨nb, enb⟩ : ∃ nb, nb = (rd32 a).isNaN := ⟨_, rfl⟩
  obtain ⟨c, ec⟩ : ∃ c, c = classN a := ⟨_, rfl⟩
  rw [← enb, ← ec] at hx
  rw [← enb]
  rw [← ec] at HC
  clear enb ec
  go_enter Try.func161, Try.ntmps161
  go_wp2_with (go_at_call 164; refine (HC.out _).mono ?_; rintro e1 w1 ⟨rfl, hbel⟩; have HB1 := Lib.hid hbel; clear hbel)
  go_ret
  exact ⟨rfl, HB1.out⟩

theorem fwide_run (a : Nat) (hn : (rd32 a).isNaN = false) (w : World) : (convert 70 68 (.float .f32 a)).run Try.prog w = .ok (.float .f64 (wide64 a)) w := by
  refine run_convert_float_float w 70 68 .f32 .f64 a (wide64 a) (by kernel_rfl) (by kernel_rfl) ?_
  have hw := wide_read a hn
  unfold floatToFloatBits
  rw [if_neg (by decide)]
  show (match rd32 a with | .nan _ _ => none | .infinity s => some ((fmt 52 11).write (.infinity s)) | .number s m e => if (rd64 ((fmt 52 11).write (.number s m e))).isInfinity then none else some ((fmt 52 11).write (.number s m e))) = some (wide64 a)
  cases h : rd32 a with
  | nan s t => rw [h] at hn; cases hn
  | infinity s => show some _ = some (told64 (rd32 a)); rw [h]; rfl
  | number s m p =>
    have e : wide64 a = (fmt 52 11).write (.number s m p) := by unfold wide64; rw [h]; rfl
    have : (rd64 ((fmt 52 11).write (.number s m p))).isInfinity = false := by
      rw [← e]
      rcases hw with ⟨s', h1, h2⟩ | ⟨s', p', h1, h2⟩ | ⟨s', m', p', j, _, _, _, _, _, h1, h2⟩
      · rw [h] at h1; cases h1
      · rw [h2]; rfl
      · rw [h2]; rfl
    simp only [this]
    exact congrArg some e.symm

theorem fwide_nan_run (a : Nat) (hn : (rd32 a).isNaN = true) (w : World) : ∃ r, (convert 70 68 (.float .f32 a)).run Try.prog w = .ok (.float .f64 r) w.drew ∧ (rd64 r).isNaN = true := by
  obtain ⟨h1, h2⟩ := nan_word64 (w.tape w.drawn (.nanConv .f64 a))
  refine ⟨_, ?_, h1⟩
  have hs : Try.prog.underlying 70 = some (.float .f32) := by kernel_rfl
  have hd : Try.prog.underlying 68 = some (.float .f64) := by kernel_rfl
  have hx : ∃ s t, FloatKind.f32.decode a = .nan s t := by
    show ∃ s t, rd32 a = .nan s t
    cases h : rd32 a with
    | nan s t => exact ⟨s, t, rfl⟩
    | infinity s => rw [h] at hn; cases hn
    | number s m p => rw [h] at hn; cases hn
  obtain ⟨s, t, hx⟩ := hx
  simp [convert, run_underlying hs, run_underlying hd, Conv.floatToFloat, hx, Question.forced]
  rfl

/-- A binary64 that a binary32 can be of. -/
def NarrowOk (b : Nat) : Prop := ∀ s m p, rd64 b = .number s m p → (rd32 (told32 (rd64 b))).isInfinity = false
theorem fnarrow_run (b : Nat) (hok : NarrowOk b) (w : World) : ∃ r w', (convert 68 70 (.float .f64 b)).run Try.prog w = .ok (.float .f32 r) w' ∧ canon32 r = told32 (rd64 b) ∧ r < 4294967296 ∧ Drawn0 w w' := by
  have hs : Try.prog.underlying 68 = some (.float .f64) := by kernel_rfl
  have hd : Try.prog.underlying 70 = some (.float .f32) := by kernel_rfl
  cases h : rd64 b with
  | nan s t =>
    obtain ⟨h1, h2⟩ := nan_word32 (w.tape w.drawn (.nanConv .f32 b))
    have hx : FloatKind.f64.decode b = .nan s t := h
    exact ⟨_, w.drew, by simp [convert, run_underlying hs, run_underlying hd, Conv.floatToFloat, hx, Question.forced]; rfl, canon32_nan h1, h2, Drawn0.mk ⟨1, rfl⟩⟩
  | infinity s =>
    have hx : FloatKind.f64.decode b = .infinity s := h
    have hn : (rd32 ((fmt 23 8).write (.infinity s))).isNaN = false := write_not_nan 23 8 150 255 isF32 _ rfl
    exact ⟨(fmt 23 8).write (.infinity s), w, by simp [convert, run_underlying hs, run_underlying hd, Conv.floatToFloat, hx]; rfl, canon32_num hn, told32_lt (.infinity s), Drawn0.refl _⟩
  | number s m p =>
    have hx : FloatKind.f64.decode b = .number s m p := h
    have ho := hok s m p h
    rw [h] at ho
    have ho' : (FloatKind.f32.decode (FloatKind.f32.encode (.number s m p))).isInfinity = false := ho
    have hn : (rd32 ((fmt 23 8).write (.number s m p))).isNaN = false := write_not_nan 23 8 150 255 isF32 _ rfl
    exact ⟨(fmt 23 8).write (.number s m p), w, by simp [convert, run_underlying hs, run_underlying hd, Conv.floatToFloat, hx, ho']; rfl, canon32_num hn, told32_lt (.number s m p), Drawn0.refl _⟩

set_option maxHeartbeats 1600000 in
set_option maxRecDepth 100000 in
theorem pwide_calls (a : Nat) (hn : (rd32 a).isNaN = false) (w : World) : Calls Try.prog 162 #[.int .u32 (a : Int)] w fun e w' => e = .returned (.float .f64 (wide64 a)) ∧ w = w' := by
  have HA := Lib.hid fun W => value_calls a W
  have hr := fun W => fwide_run a hn W
  clear hn
  go_enter Try.func162, Try.ntmps162
  go_wp2_with (go_at_call 165; (with_reducible refine (HA.out _).mono ?_); rintro e1 w2 ⟨rfl, rfl⟩)
  go_ret
  exact ⟨rfl, rfl⟩

theorem wide64_nan (a : Nat) (hn : (rd32 a).isNaN = true) : wide64 a = 9221120237041090560 := by
  unfold wide64
  cases h : rd32 a with
  | nan s t => rfl
  | infinity s => rw [h] at hn; cases hn
  | number s m p => rw [h] at hn; cases hn

set_option maxHeartbeats 1600000 in
set_option maxRecDepth 100000 in
theorem pWide_calls (a : Nat) (ha : a < 4294967296) (w : World) : Calls Try.prog 155 #[.int .u32 (a : Int)] w fun e w' => Gives w (.int .u64 ((wide64 a : Nat) : Int)) e w' := by
  have HN := Lib.hid fun W => pIsNaN_calls a ha W
  have HW := Lib.hid fun hn W => pwide_calls a hn W
  have hr := fun W => run_bits64 (wide64 a) W
  have HX := Lib.hid fun hn => wide64_nan a hn
  obtain ⟨nb, enb⟩ : ∃ nb, nb = (rd32 a).isNaN := ⟨_, rfl⟩
  rw [← enb] at HN HW HX
  obtain ⟨v, ev⟩ : ∃ v, v = wide64 a := ⟨_, rfl⟩
  rw [← ev] at HW HX hr
  rw [← ev]
  clear enb ev
  cases nb with
  | true =>
    have E := Lib.hid (HX.out rfl)
    go_enter Try.func155, Try.ntmps155
    go_wp2_with (go_at_call 161; refine (HN.out _).mono ?_; rintro e1 w1 ⟨rfl, hbel⟩; have HB1 := Lib.hid hbel; clear hbel)
    go_ret
    exact ⟨ret_int (a := 9221120237041090560) (by rw [E.out]; rfl), HB1.out⟩
  | false =>
    have HW' := Lib.hid fun W => HW.out rfl W
    go_enter Try.func155, Try.ntmps155
    go_wp2_with (first
      | (go_at_call 161; refine (HN.out _).mono ?_; rintro e1 w1 ⟨rfl, hbel⟩; have HB1 := Lib.hid hbel; clear hbel)
      | (go_at_call 162; (with_reducible refine (HW'.out _).mono ?_); rintro e1 w2 ⟨rfl, rfl⟩))
    go_ret
    exact ⟨rfl, HB1.out⟩

set_option maxHeartbeats 1600000 in
set_option maxRecDepth 100000 in
theorem pNarrow_calls (b : Nat) (hok : NarrowOk b) (w : World) : Calls Try.prog 113 #[.int .u64 (b : Int)] w fun e w' => e = .returned (.int .u32 ((told32 (rd64 b) : Nat) : Int)) ∧ Drawn0 w w' := by
  obtain ⟨r, w1, hrun, hc, hlt, hd⟩ := fnarrow_run b hok w
  have hr := fun W => run_frombits64 b W
  have HT := Lib.hid (told_calls r w1)
  rw [hc] at HT
  have HD := Lib.hid hd
  clear hc hd hok
  obtain ⟨v, ev⟩ : ∃ v, v = told32 (rd64 b) := ⟨_, rfl⟩
  rw [← ev] at HT
  rw [← ev]
  clear ev
  go_enter Try.func113, Try.ntmps113
  go_wp2_with (go_at_call 144; refine HT.out.mono ?_; rintro e1 w2 ⟨rfl, rfl⟩)
  go_ret
  exact ⟨rfl, HD.out⟩

/-- What arith.Wide tells fits. -/
theorem narrow_wide (a : Nat) (ha : a < 4294967296) : NarrowOk (wide64 a) := by
  intro s m p h
  cases hn : (rd32 a).isNaN with
  | true =>
    exfalso
    rw [wide64_nan a hn, show rd64 9221120237041090560 = .nan false 2251799813685248 from by decide +kernel] at h
    cases h
  | false =>
    have hf : first32 a = a := by unfold first32; rw [if_neg (by rw [hn]; decide)]
    rw [told_finer a hn, ← first_eq a ha, hf]
    rcases wide_read a hn with ⟨s', h1, h2⟩ | ⟨s', p', h1, h2⟩ | ⟨s', m', p', j, hm, hb1, hb2, hb3, _, h1, h2⟩
    · rw [h2] at h; cases h
    · rw [h1]; rfl
    · rw [h1]; rfl
theorem first_narrow (a : Nat) (ha : a < 4294967296) : told32 (rd64 (wide64 a)) = first32 a := by
  cases hn : (rd32 a).isNaN with
  | true =>
    rw [wide64_nan a hn, show rd64 9221120237041090560 = .nan false 2251799813685248 from by decide +kernel]
    unfold first32
    rw [if_pos hn]
    rfl
  | false => rw [told_finer a hn, ← first_eq a ha]

set_option maxHeartbeats 1600000 in
set_option maxRecDepth 100000 in
theorem swide_calls (a : Nat) (ha : a < 4294967296) (w : World) : Calls Try.prog 143 #[.int .u32 (a : Int)] w fun e w' => Gives w (.float .f64 (wide64 a)) e w' := by
  have HW := Lib.hid fun W => pWide_calls a ha W
  have hr := fun W => run_frombits64 (wide64 a) W
  obtain ⟨v, ev⟩ : ∃ v, v = wide64 a := ⟨_, rfl⟩
  rw [← ev] at HW hr
  rw [← ev]
  clear ev
  go_enter Try.func143, Try.ntmps143
  go_wp2_with (go_at_call 155; refine (HW.out _).mono ?_; rintro e1 w1 ⟨rfl, hbel⟩; have HB1 := Lib.hid hbel; clear hbel)
  go_ret
  exact ⟨rfl, HB1.out⟩
end Go.Proofs.Ytdcpeeolfgohmaa
