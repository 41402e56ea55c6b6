/- Acc.Over, Mean, Sum, Count; sums.Exact. -/
import Derived.Test.YtmeifciagepmpaaAcJ
namespace Go.Proofs.Ytmeifciagepmpaa
open Go.RowKit Go.Proofs.YtmeifciagepmpaaW.PrintWords
set_option linter.unusedSimpArgs false
set_option linter.unusedVariables false

theorem acOver_calls (w : World) (g : Nat) (S : Ac) (d : Int) (hS : AcAt w g S) (hok : AcOk S) (hN : S.n ≤ 1000000000000) :
    Calls Try.prog 70 #[.pointer (some ⟨g, 0, none⟩), .int .i64 d] w fun e w' => Gives w (.tuple #[.int .u32 ((ovrV S d : Nat) : Int), .int .i64 (ovrE d)]) e w' := by
  by_cases h : d < 1 ∨ 4294967295 < d
  · refine (acOver_low w g d h).mono fun e w' ⟨h1, h2⟩ => ⟨?_, ?_⟩
    · rw [h1, ovrV, ovrE, if_pos h, if_pos h]; rfl
    · subst h2; exact Below.refl _ _
  · obtain ⟨k, rfl⟩ : ∃ k : Nat, d = (k : Int) := ⟨d.toNat, by omega⟩
    have e1 : ovrV S (k : Int) = ovr S k := by rw [ovrV, if_neg h, Int.toNat_natCast]
    have e2 : ovrE (k : Int) = 0 := by rw [ovrE, if_neg h]
    rw [e1, e2]
    exact acOver_in w g S k hS hok hN (by omega) (by omega)

theorem AcAt.n_cell {W : World} {g : Nat} {S : Ac} (h : AcAt W g S) : W.cell? ⟨g, 14, none⟩ = some (.int .i64 ((S.n : Nat) : Int)) := by
  obtain ⟨f, hbl, _⟩ := h
  exact (ucell hbl _).trans (accC_get2 _ _ 0 (by decide))

set_option maxHeartbeats 1600000 in
set_option maxRecDepth 100000 in
theorem acCount_calls (w : World) (g : Nat) (S : Ac) (hS : AcAt w g S) :
    Calls Try.prog 38 #[.pointer (some ⟨g, 0, none⟩)] w fun e w' => e = .returned (.int .i64 ((S.n : Nat) : Int)) ∧ w = w' := by
  have c := hS.n_cell
  obtain ⟨n, en⟩ : ∃ n, n = S.n := ⟨_, rfl⟩
  rw [← en] at c ⊢
  clear en hS
  go_enter Try.func38, Try.ntmps38
  go_wp2
  go_ret
  exact ⟨rfl, rfl⟩

set_option maxHeartbeats 1600000 in
set_option maxRecDepth 100000 in
theorem acMean_calls (w : World) (g : Nat) (S : Ac) (hS : AcAt w g S) (hok : AcOk S) (hN : S.n ≤ 1000000000000) :
    Calls Try.prog 46 #[.pointer (some ⟨g, 0, none⟩)] w fun e w' => Gives w (.tuple #[.int .u32 ((ovrV S (S.n : Int) : Nat) : Int), .int .i64 (ovrE (S.n : Int))]) e w' := by
  have c := hS.n_cell
  have HO := Lib.hid (acOver_calls w g S (S.n : Int) hS hok hN)
  obtain ⟨v, ev⟩ : ∃ n, n = ovrV S (S.n : Int) := ⟨_, rfl⟩
  obtain ⟨x, ex⟩ : ∃ n, n = ovrE (S.n : Int) := ⟨_, rfl⟩
  rw [← ev, ← ex] at HO ⊢
  obtain ⟨n, en⟩ : ∃ n, n = S.n := ⟨_, rfl⟩
  rw [← en] at c HO
  clear en hS ev ex hok hN
  go_enter Try.func46, Try.ntmps46
  go_wp2_with (go_at_call 70; refine HO.out.mono ?_; rintro e1 w1 ⟨rfl, hbel⟩)
  go_ret2
  exact ⟨rfl, hbel⟩

set_option maxHeartbeats 1600000 in
set_option maxRecDepth 100000 in
theorem acSum_calls (w : World) (g : Nat) (S : Ac) (hS : AcAt w g S) (hok : AcOk S) (hN : S.n ≤ 1000000000000) :
    Calls Try.prog 37 #[.pointer (some ⟨g, 0, none⟩)] w fun e w' => Gives w (.int .u32 ((ovr S 1 : Nat) : Int)) e w' := by
  have HO := Lib.hid (acOver_in w g S 1 hS hok hN (by decide) (by decide))
  obtain ⟨v, ev⟩ : ∃ n, n = ovr S 1 := ⟨_, rfl⟩
  rw [← ev] at HO ⊢
  clear hS ev hok hN
  go_enter Try.func37, Try.ntmps37
  go_wp2_with (go_at_call 70; refine HO.out.mono ?_; rintro e1 w1 ⟨rfl, hbel⟩)
  go_ret
  exact ⟨rfl, hbel⟩

/-- The exact sum of samples. -/
def exactOf (x : Nat → Nat) (n : Nat) : Nat := ovr (acAll acNone x n) 1

set_option maxHeartbeats 1600000 in
set_option maxRecDepth 100000 in
theorem pExact_calls (w : World) (A : Option Addr) (n c : Nat) (x : Nat → Nat) (hr : RowU w A n x) (hc : n ≤ c) (hn : n ≤ 1000000000) (hx : ∀ k, k < n → x k < 4294967296) :
    Calls Try.prog 23 #[.slice A n c] w fun e w' => Gives w (.int .u32 ((exactOf x n : Nat) : Int)) e w' := by
  have HADD : Hid (∀ W g, Below w.heap.size w W → w.heap.size ≤ g → AcAt W g acNone → Calls Try.prog 32 #[.pointer (some ⟨g, 0, none⟩), .slice A n c] W fun e w' => e = .returned (.tuple #[]) ∧ AcAt w' g (acAll acNone x n) ∧ Below w.heap.size w w') := (show ∀ W g, _ → _ → _ → _ from fun W g hb hg hA => by
    refine (acAdd_calls W g acNone _ n c x hA acOk_none (show 0 + n ≤ _ by omega) (hr.below hb) (fun h0 ad e => ?_) hc hx).mono fun e w' ⟨h1, h2⟩ => ⟨h1, h2.at, hb.grown h2.gr hb.size (fun k e => by injection e with e; omega)⟩
    obtain ⟨ad', e', hca⟩ := hr h0
    have hlt := World.block_lt_of_cell? _ _ (hca 0 h0)
    rw [u_add0] at hlt
    rw [e] at e'
    injection e' with e'
    subst e'
    omega)
  have HSUM : Hid (∀ W g, AcAt W g (acAll acNone x n) → Calls Try.prog 37 #[.pointer (some ⟨g, 0, none⟩)] W fun e w' => Gives W (.int .u32 ((exactOf x n : Nat) : Int)) e w') := (show ∀ W g, _ → _ from fun W g hA =>
    acSum_calls W g _ hA (acOk_none.all x n) (by rw [acAll_n]; show 0 + n ≤ _; omega))
  obtain ⟨v, ev⟩ : ∃ n', n' = exactOf x n := ⟨_, rfl⟩
  rw [← ev] at HSUM ⊢
  clear ev hr hc hn hx
  go_enter Try.func23, Try.ntmps23
  go_wp2_with (first
    | (go_at_call 30; refine (new_calls _).mono ?_; rintro e1 w1 ⟨g, rfl, hg, hA, hbel⟩; have HG := Lib.hid hg; have HA1 := Lib.hid hA; have HB1 := Lib.hid hbel; clear hg hA hbel)
    | (go_at_call 32; refine (HADD.out _ _ HB1.out HG.out HA1.out).mono ?_; rintro e1 w2 ⟨rfl, hA, hbel⟩; have HA2 := Lib.hid hA; have HB2 := Lib.hid hbel; clear hA hbel)
    | (go_at_call 37; refine (HSUM.out _ _ HA2.out).mono ?_; rintro e1 w3 ⟨rfl, hbel⟩; have HB3 := Lib.hid (ujoin HB2.out hbel); clear hbel))
  go_ret
  exact ⟨rfl, HB3.out⟩
end Go.Proofs.Ytmeifciagepmpaa
