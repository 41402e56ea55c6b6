/- SumsNames, SumsLeft, SumsPairs: the walks. -/
import Derived.Test.YtmeifciagepmpaaKnA
namespace Go.Proofs.Ytmeifciagepmpaa
open Go.RowKit Go.Proofs.YtmeifciagepmpaaW.PrintWords
set_option linter.unusedSimpArgs false
set_option linter.unusedVariables false

/-- A slice of samples that came in. -/
theorem rowU_of {w : World} {a : Option Addr} {len cap : Nat} {zs : List Int}
    (h : (a = none ∧ len = 0 ∧ cap = 0 ∧ zs = []) ∨ ∃ x, a = some x ∧ len ≤ cap ∧ cap ≤ maxLen ∧ zs.length = cap ∧ (∀ i, i < zs.length → w.cell? (x.add i) = some (.int .u32 (zs.getD i 0))) ∧ ∀ n ∈ zs, (Lit.int .u32 n).wf = true) :
    RowU w a len (fun k => (zs.getD k 0).toNat) ∧ len ≤ cap ∧ (∀ k, k < len → (zs.getD k 0).toNat < 4294967296) := by
  rcases h with ⟨rfl, rfl, rfl, rfl⟩ | ⟨x, rfl, hl, hm, hz, hcell, hwz⟩
  · exact ⟨RowU.nil _ _ _, Nat.le_refl _, fun k h => by omega⟩
  · have hw : ∀ k, k < zs.length → 0 ≤ zs.getD k 0 ∧ zs.getD k 0 < 4294967296 := fun k hk => by
      have h1 := hwz (zs.getD k 0) (by simp [hk])
      have h2 : 0 ≤ zs.getD k 0 ∧ zs.getD k 0 ≤ 4294967295 := by simpa [Lit.wf, IntKind.min, IntKind.max, IntKind.signed, IntKind.bits] using h1
      omega
    refine ⟨fun _ => ⟨x, rfl, fun i hi => ?_⟩, hl, fun k hk => ?_⟩
    · rw [hcell i (by omega)]
      have := (hw i (by omega)).1
      rw [Int.toNat_of_nonneg this]
    · have := hw k (by omega)
      omega
def LawTrue (w : World) (e : Ending) (w' : World) : Prop := e = .returned (.bool true) ∧ Below w.heap.size w w'

set_option maxHeartbeats 1600000 in
set_option maxRecDepth 100000 in
theorem lawNames_calls (w : World) : Calls Try.prog 3 #[] w fun e w' => LawTrue w e w' := by
  unfold LawTrue
  go_enter Try.func3, Try.ntmps3
  go_wp2_with (go_at_call 12; refine (known_calls _).mono ?_; rintro e1 w1 ⟨rfl, hbel⟩)
  go_ret
  exact ⟨rfl, hbel⟩

theorem lent_rowOf {W : World} {g n : Nat} {x : Nat → Nat} (h : W.heap[g]? = some (.cells (arrU (n + 2) (lentF x n)) 25 (0, 0))) : RowU W (some ⟨g, 0, none⟩) n x :=
  ((RowU.arr h).shorter (by omega)).congr fun k hk => if_pos hk

set_option maxHeartbeats 3200000 in
set_option maxRecDepth 100000 in
theorem lawLeft_calls (w : World) (A : Option Addr) (n c : Nat) (x : Nat → Nat) (hr : RowU w A n x) (hc : n ≤ c) (hx : ∀ k, k < n → x k < 4294967296) :
    Calls Try.prog 4 #[.slice A n c] w fun e w' => LawTrue w e w' := by
  have HX := Lib.hid hx
  have HR := Lib.hid hr
  clear hx hr
  unfold LawTrue
  by_cases hlt : 2000 < n
  · have hb : (2000 : Int) < (n : Int) := by omega
    go_enter Try.func4, Try.ntmps4
    go_wp2_with (go_at_call 12; refine (known_calls _).mono ?_; rintro e1 w1 ⟨rfl, hbel⟩)
    go_ret
    exact ⟨rfl, hbel⟩
  · have hb : ¬ (2000 : Int) < (n : Int) := by omega
    have HLE := Lib.hid fun W h => lent_calls W A n c x h hc (by omega)
    have HP := Lib.hid fun W B c h (hc : n ≤ c) => pLeft_calls W B n c x h hc (by omega) HX.out
    have HF := Lib.hid fun W B c h (hc : n ≤ c) => rLeft_calls W B n c x h hc (by omega) HX.out
    have HP6 := Lib.hid fun W B c h (hc : n ≤ c) => pLeft64_calls W B n c x h hc (by omega) HX.out
    have HF6 := Lib.hid fun W B c h (hc : n ≤ c) => rLeft64_calls W B n c x h hc (by omega) HX.out
    have HS := Lib.hid fun W g hg h => stays_calls W g A n c x hg h (by omega)
    obtain ⟨u, eu⟩ : ∃ u, u = leftOf x n := ⟨_, rfl⟩
    obtain ⟨v, ev⟩ : ∃ u, u = leftOf64 x n := ⟨_, rfl⟩
    rw [← eu] at HP HF
    rw [← ev] at HP6 HF6
    have t1 : ((u : Int) == (u : Int)) = true := beq_self_eq_true _
    have t2 : ((v : Int) == (v : Int)) = true := beq_self_eq_true _
    clear eu ev hlt
    go_enter Try.func4, Try.ntmps4
    go_wp2_with (first
      | (go_at_call 12; refine (known_calls _).mono ?_; rintro e1 w1 ⟨rfl, hbel⟩; have HR1 := Lib.hid (HR.out.below hbel); have HB1 := Lib.hid hbel; clear hbel)
      | (go_at_call 13; refine (HLE.out _ HR1.out).mono ?_; rintro e1 w2 ⟨g, rfl, hg, hbl, hbel⟩; have HG2 := Lib.hid hbl; have HR2 := Lib.hid (HR1.out.below hbel); have HB2 := Lib.hid (ujoin HB1.out hbel); clear hbel hbl hg)
      | (go_at_call 14; refine (HP.out _ _ _ (lent_rowOf HG2.out) (by omega)).mono ?_; rintro e1 w3 ⟨rfl, hbel⟩; have HG3 := Lib.hid ((hbel.block _ (Array.getElem?_eq_some_iff.1 HG2.out).1).trans HG2.out); have HR3 := Lib.hid (HR2.out.below hbel); have HB3 := Lib.hid (ujoin HB2.out hbel); clear hbel)
      | (go_at_call 15; refine (HF.out _ _ _ HR3.out hc).mono ?_; rintro e1 w4 ⟨rfl, hbel⟩; have HG4 := Lib.hid ((hbel.block _ (Array.getElem?_eq_some_iff.1 HG3.out).1).trans HG3.out); have HR4 := Lib.hid (HR3.out.below hbel); have HB4 := Lib.hid (ujoin HB3.out hbel); clear hbel)
      | (go_at_call 16; refine (HP6.out _ _ _ (lent_rowOf HG4.out) (by omega)).mono ?_; rintro e1 w5 ⟨rfl, hbel⟩; have HG5 := Lib.hid ((hbel.block _ (Array.getElem?_eq_some_iff.1 HG4.out).1).trans HG4.out); have HR5 := Lib.hid (HR4.out.below hbel); have HB5 := Lib.hid (ujoin HB4.out hbel); clear hbel)
      | (go_at_call 17; refine (HF6.out _ _ _ HR5.out hc).mono ?_; rintro e1 w6 ⟨rfl, hbel⟩; have HG6 := Lib.hid ((hbel.block _ (Array.getElem?_eq_some_iff.1 HG5.out).1).trans HG5.out); have HR6 := Lib.hid (HR5.out.below hbel); have HB6 := Lib.hid (ujoin HB5.out hbel); clear hbel)
      | (go_at_call 18; refine (HS.out _ _ HG6.out HR6.out).mono ?_; rintro e1 w7 ⟨rfl, hd⟩; have HB7 := Lib.hid (ujoin HB6.out hd.below); clear hd))
    go_ret
    exact ⟨rfl, HB7.out⟩

set_option maxHeartbeats 3200000 in
set_option maxRecDepth 100000 in
theorem lawPairs_calls (w : World) (A : Option Addr) (n c : Nat) (x : Nat → Nat) (hr : RowU w A n x) (hc : n ≤ c) (hx : ∀ k, k < n → x k < 4294967296) :
    Calls Try.prog 5 #[.slice A n c] w fun e w' => LawTrue w e w' := by
  have HX := Lib.hid hx
  have HR := Lib.hid hr
  clear hx hr
  unfold LawTrue
  by_cases hlt : 2000 < n
  · have hb : (2000 : Int) < (n : Int) := by omega
    go_enter Try.func5, Try.ntmps5
    go_wp2_with (go_at_call 12; refine (known_calls _).mono ?_; rintro e1 w1 ⟨rfl, hbel⟩)
    go_ret
    exact ⟨rfl, hbel⟩
  · have hb : ¬ (2000 : Int) < (n : Int) := by omega
    have HLE := Lib.hid fun W h => lent_calls W A n c x h hc (by omega)
    have HP := Lib.hid fun W B c h (hc : n ≤ c) => pPairs_calls n W B c x h hc (by omega) HX.out
    have HF := Lib.hid fun W B c h (hc : n ≤ c) => rPairs_calls n W B c x h hc (by omega) HX.out
    have HP6 := Lib.hid fun W B c h (hc : n ≤ c) => pKahan_calls W B n c x h hc (by omega) HX.out
    have HF6 := Lib.hid fun W B c h (hc : n ≤ c) => rKahan_calls W B n c x h hc (by omega) HX.out
    have HS := Lib.hid fun W g hg h => stays_calls W g A n c x hg h (by omega)
    obtain ⟨u, eu⟩ : ∃ u, u = pairsOf x n := ⟨_, rfl⟩
    obtain ⟨v, ev⟩ : ∃ u, u = kahanOf x n := ⟨_, rfl⟩
    rw [← eu] at HP HF
    rw [← ev] at HP6 HF6
    have t1 : ((u : Int) == (u : Int)) = true := beq_self_eq_true _
    have t2 : ((v : Int) == (v : Int)) = true := beq_self_eq_true _
    clear eu ev hlt
    go_enter Try.func5, Try.ntmps5
    go_wp2_with (first
      | (go_at_call 12; refine (known_calls _).mono ?_; rintro e1 w1 ⟨rfl, hbel⟩; have HR1 := Lib.hid (HR.out.below hbel); have HB1 := Lib.hid hbel; clear hbel)
      | (go_at_call 13; refine (HLE.out _ HR1.out).mono ?_; rintro e1 w2 ⟨g, rfl, hg, hbl, hbel⟩; have HG2 := Lib.hid hbl; have HR2 := Lib.hid (HR1.out.below hbel); have HB2 := Lib.hid (ujoin HB1.out hbel); clear hbel hbl hg)
      | (go_at_call 19; refine (HP.out _ _ _ (lent_rowOf HG2.out) (by omega)).mono ?_; rintro e1 w3 ⟨rfl, hbel⟩; have HG3 := Lib.hid ((hbel.block _ (Array.getElem?_eq_some_iff.1 HG2.out).1).trans HG2.out); have HR3 := Lib.hid (HR2.out.below hbel); have HB3 := Lib.hid (ujoin HB2.out hbel); clear hbel)
      | (go_at_call 20; refine (HF.out _ _ _ HR3.out hc).mono ?_; rintro e1 w4 ⟨rfl, hbel⟩; have HG4 := Lib.hid ((hbel.block _ (Array.getElem?_eq_some_iff.1 HG3.out).1).trans HG3.out); have HR4 := Lib.hid (HR3.out.below hbel); have HB4 := Lib.hid (ujoin HB3.out hbel); clear hbel)
      | (go_at_call 21; refine (HP6.out _ _ _ (lent_rowOf HG4.out) (by omega)).mono ?_; rintro e1 w5 ⟨rfl, hbel⟩; have HG5 := Lib.hid ((hbel.block _ (Array.getElem?_eq_some_iff.1 HG4.out).1).trans HG4.out); have HR5 := Lib.hid (HR4.out.below hbel); have HB5 := Lib.hid (ujoin HB4.out hbel); clear hbel)
      | (go_at_call 22; refine (HF6.out _ _ _ HR5.out hc).mono ?_; rintro e1 w6 ⟨rfl, hbel⟩; have HG6 := Lib.hid ((hbel.block _ (Array.getElem?_eq_some_iff.1 HG5.out).1).trans HG5.out); have HR6 := Lib.hid (HR5.out.below hbel); have HB6 := Lib.hid (ujoin HB5.out hbel); clear hbel)
      | (go_at_call 18; refine (HS.out _ _ HG6.out HR6.out).mono ?_; rintro e1 w7 ⟨rfl, hd⟩; have HB7 := Lib.hid (ujoin HB6.out hd.below); clear hd))
    go_ret
    exact ⟨rfl, HB7.out⟩
end Go.Proofs.Ytmeifciagepmpaa
