/- halidelaw3.SumsOrder, the walk. -/
import Derived.Test.YtmeifciagepmpaaOrA
namespace Go.Proofs.Ytmeifciagepmpaa
open Go.RowKit Go.Proofs.YtmeifciagepmpaaW.PrintWords
set_option linter.unusedSimpArgs false
set_option linter.unusedVariables false

/-- The list of the call's own, and two Accs. -/
structure OrdS (w1 W : World) (A : Option Addr) (n c : Nat) (y : Nat → Nat) (g1 g2 : Nat) (S T : Ac) : Prop where
  own : OwnV W w1.heap.size (.slice A n c) n y
  bel : Below w1.heap.size w1 W
  a1 : AcAt W g1 S
  a2 : AcAt W g2 T
  n1 : w1.heap.size ≤ g1
  n2 : w1.heap.size ≤ g2
  ne : g1 ≠ g2
  m1 : ∀ ad, A = some ad → ad.block ≠ g1
  m2 : ∀ ad, A = some ad → ad.block ≠ g2
theorem OwnV.rowA {W : World} {base n c : Nat} {A : Option Addr} {x : Nat → Nat} (h : OwnV W base (.slice A n c) n x) : RowU W A n x ∧ n ≤ c ∧ (∀ ad, A = some ad → base ≤ ad.block ∧ ad.block < W.heap.size ∧ (Value.slice A n c).ownBlock = some ad.block) ∧ (A = none → n = 0) := by
  obtain ⟨A1, c1, e, h1, h2, h3, h4⟩ := h.row
  injection e with e1 _ e2
  subst e1 e2
  exact ⟨h2, h1, h3, h4⟩
theorem own_ne {A : Option Addr} {W : World} {base n c g : Nat} {x : Nat → Nat} (h : OwnV W base (.slice A n c) n x) (hm : ∀ ad, A = some ad → ad.block ≠ g) : (Value.slice A n c).ownBlock = none ∨ (Value.slice A n c).ownBlock ≠ some g := by
  have h3 := h.rowA.2.2.1
  cases A with
  | none => left; rfl
  | some ad =>
    right
    rw [(h3 ad rfl).2.2]
    intro e
    injection e with e
    exact hm ad rfl e
section
variable {w1 W W' : World} {A : Option Addr} {n c : Nat} {y : Nat → Nat} {g1 g2 : Nat} {S T S' : Ac}
theorem OrdS.below (h : OrdS w1 W A n c y g1 g2 S T) (hb : Below W.heap.size W W') : OrdS w1 W' A n c y g1 g2 S T :=
  ⟨h.own.below hb, ujoin h.bel hb, h.a1.below hb, h.a2.below hb, h.n1, h.n2, h.ne, h.m1, h.m2⟩
theorem OrdS.set1 (h : OrdS w1 W A n c y g1 g2 S T) (hA : AccOf W g1 S' W') : OrdS w1 W' A n c y g1 g2 S' T :=
  ⟨h.own.kept hA.gr (own_ne h.own h.m1), h.bel.grown hA.gr h.bel.size (fun k e => by injection e with e; rw [← e]; exact h.n1), hA.at, h.a2.grown hA.gr (Ne.symm h.ne), h.n1, h.n2, h.ne, h.m1, h.m2⟩
theorem OrdS.set2 (h : OrdS w1 W A n c y g1 g2 S T) (hA : AccOf W g2 S' W') : OrdS w1 W' A n c y g1 g2 S S' :=
  ⟨h.own.kept hA.gr (own_ne h.own h.m2), h.bel.grown hA.gr h.bel.size (fun k e => by injection e with e; rw [← e]; exact h.n2), h.a1.grown hA.gr h.ne, hA.at, h.n1, h.n2, h.ne, h.m1, h.m2⟩
theorem OrdS.row (h : OrdS w1 W A n c y g1 g2 S T) : RowU W A n y := h.own.rowA.1
theorem OrdS.size (h : OrdS w1 W A n c y g1 g2 S T) : w1.heap.size ≤ W.heap.size := h.bel.size
end
theorem ordS_new {w1 W W1 W2 : World} {A : Option Addr} {n c : Nat} {y : Nat → Nat} {g1 g2 : Nat} (ho : OwnV W w1.heap.size (.slice A n c) n y) (hb : Below w1.heap.size w1 W) (h1 : W.heap.size ≤ g1) (a1 : AcAt W1 g1 acNone) (b1 : Below W.heap.size W W1) (h2 : W1.heap.size ≤ g2) (a2 : AcAt W2 g2 acNone) (b2 : Below W1.heap.size W1 W2) : OrdS w1 W2 A n c y g1 g2 acNone acNone := by
  have hl := a1.lt
  have hs1 := b1.size
  have hs := hb.size
  have hr := ho.rowA.2.2.1
  exact ⟨(ho.below b1).below b2, ujoin (ujoin hb b1) b2, a1.below b2, a2, by omega, by omega, by omega, fun ad e => by have := (hr ad e).2.1; omega, fun ad e => by have := (hr ad e).2.1; omega⟩
theorem RowU.partA {w : World} {A : Option Addr} {n c : Nat} {x : Nat → Nat} (h : RowU w A n x) (hc' : n ≤ c) (m : Nat) (hm : m ≤ n) : RowU w (partA A m c) (n - m) (fun k => x (k + m)) := by
  by_cases h0 : n - m = 0
  · rw [h0]; exact RowU.nil _ _ _
  · obtain ⟨ad, e, hc⟩ := h (by omega)
    subst e
    unfold Go.Proofs.Ytmeifciagepmpaa.partA
    by_cases hcm : c = m
    · omega
    · rw [if_neg hcm]
      by_cases hm0 : m = 0
      · subst hm0
        show RowU w (some (ad.add 0)) _ _
        rw [u_add0]
        exact h
      · exact h.part m (by omega) (n - m) (by omega)
theorem partA_block {A : Option Addr} {m c g : Nat} (h : ∀ ad, A = some ad → ad.block ≠ g) : ∀ ad, partA A m c = some ad → ad.block ≠ g := by
  intro ad e
  unfold partA at e
  split at e
  · exact h ad e
  · obtain ⟨a0, e1, e2⟩ := Option.map_eq_some_iff.1 e
    rw [← e2, show (a0.add m).block = a0.block by unfold Addr.add; split <;> rfl]
    exact h a0 e1
theorem ord_app1 {w1 W : World} {A : Option Addr} {n c : Nat} {y : Nat → Nat} {g1 g2 : Nat} {S T : Ac} (h : OrdS w1 W A n c y g1 g2 S T) (hn : n ≤ 100000) :
    ∃ A' c' W', (Builtin.append_ #[23, 23] 23 #[.slice none 0 0, .slice A n c]).run Try.prog W = .ok (.slice A' n c') W' ∧ n ≤ c' ∧ RowU W' A' n y ∧ OwnV W' w1.heap.size (.slice A n c) n y ∧ Below w1.heap.size w1 W' := by
  obtain ⟨v, W', h1, h2, h3, h4⟩ := run_appendU W w1.heap.size 23 (.slice none 0 0) 0 y A n c y (OwnV.nil _ _ _) h.size h.row (by omega)
  rw [Nat.zero_add] at h2
  obtain ⟨A', c', rfl, h5, h6, _⟩ := h2.row
  refine ⟨A', c', W', h1, h5, h6.congr fun k hk => ?_, h.own.kept h3 ?_, h.bel.grown h3 h.bel.size (fun k e => by cases e)⟩
  · show catN y 0 y k = y k
    unfold catN
    rw [if_neg (by omega), Nat.sub_zero]
  · cases A with
    | none => left; rfl
    | some ad => right; rw [(h.own.rowA.2.2.1 ad rfl).2.2]; intro e; cases e
theorem ord_app2 {w1 W : World} {A : Option Addr} {n c : Nat} {y : Nat → Nat} (h : OwnV W w1.heap.size (.slice A n c) n y) (hb : Below w1.heap.size w1 W) (hn : n ≤ 100000) (a : Nat) :
    ∃ v' W', (Builtin.append_ #[23, 23] 23 #[.slice (some ⟨W.heap.size, 0, none⟩) 1 1, .slice A n c]).run Try.prog (W.alloc (.cells #[.int .u32 (a : Int)] 25)) = .ok v' W' ∧ OwnV W' w1.heap.size v' (1 + n) (catN (ux [a]) 1 y) ∧ Below w1.heap.size w1 W' := by
  have hbl : Below W.heap.size W (W.alloc (.cells #[.int .u32 (a : Int)] 25)) := (Below.refl _ _).alloc (Nat.le_refl _) _
  have hs := hb.size
  obtain ⟨v, W', h1, h2, h3, h4⟩ := run_appendU (W.alloc (.cells #[.int .u32 (a : Int)] 25)) w1.heap.size 23 (.slice (some ⟨W.heap.size, 0, none⟩) 1 1) 1 (ux [a]) A n c y (OwnV.lit W w1.heap.size [a] hs (by simp)) (Nat.le_trans hs hbl.size) (h.below hbl).rowA.1 (by omega)
  exact ⟨v, W', h1, h2, (ujoin hb hbl).grown h3 (Nat.le_trans hs hbl.size) (fun k e => by injection e with e; rw [← e]; exact hs)⟩
theorem ord_app3 {w1 W : World} {v : Value} {n : Nat} {y : Nat → Nat} (h : OwnV W w1.heap.size v n y) (hb : Below w1.heap.size w1 W) (hn : n ≤ 200000) (a : Nat) :
    ∃ A' c' W', (Builtin.append_ #[23, 23] 23 #[v, .slice (some ⟨W.heap.size, 0, none⟩) 1 1]).run Try.prog (W.alloc (.cells #[.int .u32 (a : Int)] 25)) = .ok (.slice A' (n + 1) c') W' ∧ n + 1 ≤ c' ∧ RowU W' A' (n + 1) (catN y n (ux [a])) ∧ Below w1.heap.size w1 W' := by
  have hbl : Below W.heap.size W (W.alloc (.cells #[.int .u32 (a : Int)] 25)) := (Below.refl _ _).alloc (Nat.le_refl _) _
  have hs := hb.size
  obtain ⟨v', W', h1, h2, h3, h4⟩ := run_appendU (W.alloc (.cells #[.int .u32 (a : Int)] 25)) w1.heap.size 23 v n y (some ⟨W.heap.size, 0, none⟩) 1 1 (ux [a]) (h.below hbl) (Nat.le_trans hs hbl.size) (OwnV.lit W w1.heap.size [a] hs (by simp)).rowA.1 (by omega)
  obtain ⟨A', c', rfl, h5, h6, _⟩ := h2.row
  refine ⟨A', c', W', h1, h5, h6, (ujoin hb hbl).grown h3 (Nat.le_trans hs hbl.size) (fun k e => ?_)⟩
  obtain ⟨A0, c0, ev, _, _, h7, _⟩ := h.row
  subst ev
  cases A0 with
  | none => cases e
  | some ad =>
    have h8 := h7 ad rfl
    rw [h8.2.2] at e
    injection e with e
    rw [← e]
    exact h8.1
end Go.Proofs.Ytmeifciagepmpaa
