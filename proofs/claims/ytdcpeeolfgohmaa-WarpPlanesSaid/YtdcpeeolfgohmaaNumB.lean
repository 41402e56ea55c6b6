/- halideref2: Form.Round of anything; bits; num; IsNaN. -/
import Derived.Test.YtdcpeeolfgohmaaRound
namespace Go.Proofs.Ytdcpeeolfgohmaa
open Go.RowKit Go.Proofs.YtdcpeeolfgohmaaW.PrintWords
set_option linter.unusedSimpArgs false
set_option linter.unusedVariables false

set_option maxHeartbeats 3200000 in
set_option maxRecDepth 100000 in
theorem round_nan (fr ex bias top : Nat) (hf : IsForm fr ex bias top) (s : Bool) (A : Option Addr) (n c : Nat) (e : Int) (mo : Bool) (w : World) :
    Calls Try.prog 110 #[formV fr ex, numV 0 s A n c e mo] w fun e' w' => Gives w (.int .u64 ((top * 2 ^ fr + 2 ^ (fr - 1) : Nat) : Int)) e' w' := by
  have HM := Lib.hid fun W => made_calls fr ex bias top hf W
  obtain ⟨r, er⟩ : ∃ r, r = top * 2 ^ fr + 2 ^ (fr - 1) := ⟨_, rfl⟩
  rw [← er] at HM ⊢
  clear er
  unfold formV at HM ⊢
  unfold numV
  go_enter Try.func110, Try.ntmps110
  go_wp2_with (go_at_call 135; refine (HM.out _).mono ?_; rintro e1 w1 ⟨rfl, hbel⟩)
  go_ret
  exact ⟨rfl, (((Below.refl w.heap.size w).alloc (Nat.le_refl _) _).alloc (by simp) _).trans (hbel.mono (by simp; omega))⟩

set_option maxHeartbeats 3200000 in
set_option maxRecDepth 100000 in
theorem round_inf (fr ex bias top : Nat) (hf : IsForm fr ex bias top) (s : Bool) (A : Option Addr) (n c : Nat) (e : Int) (mo : Bool) (w : World) :
    Calls Try.prog 110 #[formV fr ex, numV 1 s A n c e mo] w fun e' w' => Gives w (.int .u64 ((rSign fr ex s + top * 2 ^ fr : Nat) : Int)) e' w' := by
  have HT := Lib.hid fun W => top_calls fr ex bias top hf W
  have HSG := Lib.hid fun W => sign_calls fr ex bias top hf s W
  obtain ⟨sgn, esg⟩ : ∃ x, x = rSign fr ex s := ⟨_, rfl⟩
  obtain ⟨tp, etp⟩ : ∃ x, x = top * 2 ^ fr := ⟨_, rfl⟩
  obtain ⟨r, er⟩ : ∃ r, r = sgn + tp := ⟨_, rfl⟩
  have F : fr ≤ 52 ∧ IntKind.u64.wrap ((top : Int) * 2 ^ fr) = (tp : Int) ∧ bits .or .u64 (sgn : Int) (tp : Int) = (r : Int) := by
    rcases hf with ⟨rfl, rfl, rfl, rfl⟩ | ⟨rfl, rfl, rfl, rfl⟩
    all_goals
      cases s
      all_goals
        subst er esg etp
        decide +kernel
  obtain ⟨hfr, F1, F2⟩ := F
  have hfr64 : fr < 64 := by omega
  rw [show (if s then 2 ^ (fr + ex) else 0) = sgn from esg.symm] at HSG
  rw [← esg, ← etp, ← er]
  clear esg etp er
  unfold formV at HT HSG ⊢
  unfold numV
  go_enter Try.func110, Try.ntmps110
  have HS0 := RdS.start w fr ex 1 s A n c e mo
  obtain ⟨g, eg⟩ : ∃ g, g = w.heap.size := ⟨_, rfl⟩
  obtain ⟨h, eh⟩ : ∃ h, h = w.heap.size + 1 := ⟨_, rfl⟩
  rw [← eh, ← eg] at HS0
  have EG := Lib.hid eg
  have EH := Lib.hid eh
  clear eg eh
  go_upto_region 1 with (fail)
  rw [← EH.out, ← EG.out]
  generalize (w.alloc (.cells #[.int .i64 (fr : Int), .int .i64 (ex : Int)] 162)).alloc (.cells #[.int .i64 1, .bool s, .slice A n c, .int .i64 e, .bool mo] 166) = w0 at HS0 ⊢
  obtain ⟨⟨a0, a1⟩, ⟨b0, b1, b2, b3, b4⟩, b5⟩ := HS0
  go_upto_region 4 with (fail)
  go_region_held3 (fun w' => w'.cell? ⟨g, 0, none⟩ = some (.int .i64 (fr : Int)) ∧ w'.cell? ⟨g, 1, none⟩ = some (.int .i64 (ex : Int)) ∧ w'.cell? ⟨h, 1, none⟩ = some (.bool s) ∧ Below w.heap.size w w') (first | exact ⟨a0, a1, b1, b5.drew⟩ | exact keep4 hbel ‹_›) (first
    | (go_at_call 131; refine (HT.out _).mono ?_; rintro e1 w10 ⟨rfl, hbel⟩)
    | (go_at_call 136; refine (HSG.out _).mono ?_; rintro e1 w9 ⟨rfl, hbel⟩))
  rename_i hH
  go_wp2
  go_ret
  exact ⟨rfl, hH.2.2.2⟩

/-- The bits that are told of a number: a NaN's are the made one's. -/
def toldW (fr ex top : Nat) : Ieee.Datum → Nat
  | .nan _ _ => top * 2 ^ fr + 2 ^ (fr - 1)
  | d => (fmt fr ex).write d
/-- A number that Round takes. -/
def Small : Ieee.Datum → Prop
  | .number _ m p => len32 m ≤ 10000 ∧ -100000 ≤ p ∧ p ≤ 100000
  | _ => True

theorem form_facts (fr ex bias top : Nat) (hf : IsForm fr ex bias top) : (fmt fr ex).leastPlace = 1 - (bias : Int) ∧ (fmt fr ex).infRung = top * 2 ^ fr ∧ 1 ≤ top := by
  rcases hf with ⟨rfl, rfl, rfl, rfl⟩ | ⟨rfl, rfl, rfl, rfl⟩ <;> decide +kernel

theorem round_calls (fr ex bias top : Nat) (hf : IsForm fr ex bias top) (d : Ieee.Datum) (u : Value) (w : World) (hu : NumAt w u d) (hd : Small d) :
    Calls Try.prog 110 #[formV fr ex, u] w fun e' w' => Gives w (.int .u64 ((toldW fr ex top d : Nat) : Int)) e' w' := by
  obtain ⟨h1, h2, h3⟩ := form_facts fr ex bias top hf
  cases d with
  | number s m p =>
    obtain ⟨A, c, rfl, hn⟩ := hu
    have h := round_num fr ex bias top hf s m p false A c w hn hd.1 hd.2.1 hd.2.2
    rw [show refRound fr ex bias top s m p false = toldW fr ex top (.number s m p) from refRound_nearest (fmt fr ex) bias top h1 h2 h3 s m p] at h
    exact h
  | infinity s =>
    obtain ⟨A, n, c, e, b, rfl⟩ := hu
    have h := round_inf fr ex bias top hf s A n c e b w
    rw [show rSign fr ex s + top * 2 ^ fr = toldW fr ex top (.infinity s) by
      show _ = (fmt fr ex).word s (fmt fr ex).infRung
      rw [h2]; unfold Ieee.Format.word rSign Ieee.Format.signWeight
      show _ = if s = true then 2 ^ (ex + fr) + _ else _
      rw [Nat.add_comm ex]; split <;> omega] at h
    exact h
  | nan s t =>
    obtain ⟨s', A, n, c, e, b, rfl⟩ := hu
    exact round_nan fr ex bias top hf s' A n c e b w
end Go.Proofs.Ytdcpeeolfgohmaa
