/- sums.Dot. -/
import Derived.Test.YtmeifciagepmpaaDotA
namespace Go.Proofs.Ytmeifciagepmpaa
open Go.RowKit Go.Proofs.YtmeifciagepmpaaW.PrintWords
set_option linter.unusedSimpArgs false
set_option linter.unusedVariables false

/-- The bits of 65536 as a binary64. -/
def k65536 : Nat := 4679240012837945344
def dotB (y : Nat → Int) (x : Nat → Nat) (n : Nat) : Nat := div64 (dotOf64 y x n) k65536
def dotOf (y : Nat → Int) (x : Nat → Nat) (n : Nat) : Nat := told32 (rd64 (dotB y x n))

set_option maxHeartbeats 1600000 in
set_option maxRecDepth 100000 in
theorem pDot_calls (w : World) (A B : Option Addr) (n c d : Nat) (y : Nat → Int) (x : Nat → Nat) (hy : RowZ w A n y) (hr : RowU w B n x) (hc : n ≤ c) (hd : n ≤ d) (hn : n ≤ 1000000000) (hx : ∀ k, k < n → x k < 4294967296) (hg : ∀ k, k < n → -268435456 ≤ y k ∧ y k ≤ 268435456) (hok : NarrowOk (dotB y x n)) :
    Calls Try.prog 27 #[.slice A n c, .slice B n d] w fun e w' => Gives w (.tuple #[.int .u32 ((dotOf y x n : Nat) : Int), .int .i64 0]) e w' := by
  have HD := Lib.hid (pDot64_calls w A B n c d y x hy hr hc hd hn hx hg)
  have HV := Lib.hid fun W => fdiv64_run (dotOf64 y x n) k65536 77 W
  have HFB := fun W => run_frombits64 (dotOf64 y x n) W
  have HT := Lib.hid fun r W => told64_calls r W
  have HN := Lib.hid fun W => pNarrow_calls (dotB y x n) hok W
  have EB : Hid (div64 (dotOf64 y x n) k65536 = dotB y x n) := (show _ = _ from rfl)
  rw [EB.out] at HV
  unfold k65536 at HV
  obtain ⟨s, es⟩ : ∃ s, s = dotOf64 y x n := ⟨_, rfl⟩
  rw [← es] at HD HV HFB
  obtain ⟨b, eb⟩ : ∃ b, b = dotB y x n := ⟨_, rfl⟩
  rw [← eb] at HV HN
  have ER : Hid (told32 (rd64 b) = dotOf y x n) := (show _ = _ by rw [eb]; rfl)
  obtain ⟨v, ev⟩ : ∃ v, v = told32 (rd64 b) := ⟨_, rfl⟩
  rw [← ev] at ER HN
  rw [← ER.out]
  clear hy hr hx hg hok EB es eb ev ER
  go_enter Try.func27, Try.ntmps27
  go_wp2_with (first
    | (go_at_call 25; refine HD.out.mono ?_; rintro e1 w1 ⟨rfl, hbel⟩; have HB1 := Lib.hid hbel; obtain ⟨r, w2, hrun, hc2, hlt2, hd2⟩ := HV.out w1; have HC2 := Lib.hid hc2; have HB2 := Lib.hid (ujoin HB1.out hd2.below); clear hbel hc2 hlt2 hd2)
    | (go_at_call 53; with_reducible refine (HT.out _ _).mono ?_; rintro e2 w3 ⟨rfl, rfl⟩; rw [HC2.out])
    | (go_at_call 47; refine (HN.out _).mono ?_; rintro e2 w4 ⟨rfl, hd4⟩; have HB4 := Lib.hid (ujoin HB2.out hd4.below); clear hd4))
  go_ret2
  exact ⟨rfl, HB4.out⟩
end Go.Proofs.Ytmeifciagepmpaa
