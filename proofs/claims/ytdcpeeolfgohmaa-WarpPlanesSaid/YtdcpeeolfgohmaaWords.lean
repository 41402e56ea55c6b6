/- halidehelp.Words: rows of samples held against one another. -/
import Derived.Test.YtdcpeeolfgohmaaU
namespace Go.Proofs.Ytdcpeeolfgohmaa
open Go.RowKit Go.Proofs.YtdcpeeolfgohmaaW.PrintWords
set_option linter.unusedSimpArgs false
set_option linter.unusedVariables false

def SameW (n m : Nat) (x y : Nat → Nat) : Prop := n = m ∧ ∀ k, k < n → x k = y k
def SaysW (w : World) (P : Prop) (e : Ending) (w' : World) : Prop := ∃ r : Bool, e = .returned (.bool r) ∧ (r = true ↔ P) ∧ Drawn0 w w'
theorem saysW_no {w w' : World} {P : Prop} (h : ¬ P) (hd : Drawn0 w w') : SaysW w P (.returned (.bool false)) w' := ⟨false, rfl, by simp [h], hd⟩
theorem saysW_yes {w w' : World} {P : Prop} (h : P) (hd : Drawn0 w w') : SaysW w P (.returned (.bool true)) w' := ⟨true, rfl, by simp [h], hd⟩

set_option maxHeartbeats 1600000 in
set_option maxRecDepth 100000 in
theorem words_calls (w : World) (A B : Option Addr) (n m c d : Nat) (x y : Nat → Nat) (hx : RowU w A n x) (hy : RowU w B m y) (hn : n ≤ 4611686018427387904) :
    Calls Try.prog 57 #[.slice A n c, .slice B m d] w fun e w' => SaysW w (SameW n m x y) e w' := by
  by_cases hnm : n = m
  · subst hnm
    by_cases h0 : n = 0
    · subst h0
      have hs : Hid (SameW 0 0 x y) := ⟨rfl, fun k hk => by omega⟩
      clear hx hy
      go_enter Try.func57, Try.ntmps57
      go_wp2_with fail
      go_loop [5] (fun v5 => v5 = .int .i64 0) (fun _ => 0)
      case atStart => rfl
      case round =>
        subst hrel
        go_wp2
        go_ret
        exact saysW_yes hs.out (Drawn0.refl _)
    · obtain ⟨ax, rfl, cx⟩ := hx (by omega)
      obtain ⟨ay, rfl, cy⟩ := hy (by omega)
      have CX := Lib.hid cx
      have CY := Lib.hid cy
      have heq : ((n : Int) == (n : Int)) = true := beq_iff_eq.2 rfl
      clear hx hy cx cy
      go_enter Try.func57, Try.ntmps57
      go_wp2_with fail
      go_loopg [5] n (fun kq v5 wr => ∃ i : Nat, v5 = .int .i64 i ∧ i ≤ n ∧ n ≤ i + kq ∧ Aside (Drawn0 w wr) ∧ Hid (∀ k, k < i → x k = y k))
      case atStart => exact ⟨0, rfl, by omega, by omega, Drawn0.refl _, fun k hk => by omega⟩
      case round =>
        obtain ⟨i, rfl, hi, hk, HD0, HE⟩ := hrel
        obtain ⟨qn, rfl⟩ := HD0.out.out
        by_cases hlt : i < n
        · have hltz : (i : Int) < (n : Int) := by omega
          obtain ⟨p, ep⟩ : ∃ p, p = x i := ⟨_, rfl⟩
          obtain ⟨q, eq⟩ : ∃ q, q = y i := ⟨_, rfl⟩
          have c1 := CX.out i hlt
          have c2 := CY.out i hlt
          rw [← ep] at c1
          rw [← eq] at c2
          have EP := Lib.hid ep
          have EQ := Lib.hid eq
          clear ep eq
          by_cases hd : p = q
          · have hb : ((p : Int) != (q : Int)) = false := by rw [hd]; exact bne_self_eq_false _
            have HD := Lib.hid hd
            clear hd
            go_wp2
            repeat (go_quiet (fail); try go_wp2)
            go_roundg (n - (i + 1))
            case measure => omega
            case rel =>
              refine ⟨i + 1, by go_num, by omega, by omega, Drawn0.mk ⟨_, rfl⟩, fun k hk => ?_⟩
              by_cases e : k = i
              · rw [e, ← EP.out, ← EQ.out, HD.out]
              · exact HE.out k (by omega)
          · have hb : ((p : Int) != (q : Int)) = true := bne_iff_ne.2 (by omega)
            have hno : Hid (¬ SameW n n x y) := fun h => hd (by rw [EP.out, EQ.out]; exact h.2 i hlt)
            clear hd
            go_wp2
            repeat (go_quiet (fail); try go_wp2)
            go_ret
            exact saysW_no hno.out (HD0.out.step _)
        · have hltz : ¬ (i : Int) < (n : Int) := by omega
          have e : i = n := by omega
          subst e
          go_wp2
          go_ret
          exact saysW_yes ⟨rfl, HE.out⟩ HD0.out
  · have hno : Hid (¬ SameW n m x y) := fun h => hnm h.1
    have heq : ((n : Int) == (m : Int)) = false := by rw [beq_eq_false_iff_ne]; omega
    have heq2 : ((n : Int) != (m : Int)) = true := by rw [bne_iff_ne]; omega
    clear hx hy
    go_enter Try.func57, Try.ntmps57
    go_wp2
    go_ret
    exact saysW_no hno.out (Drawn0.refl _)
theorem words_yes (w : World) (A B : Option Addr) (n c d : Nat) (x y : Nat → Nat) (hx : RowU w A n x) (hy : RowU w B n y) (hn : n ≤ 4611686018427387904) (he : ∀ k, k < n → x k = y k) :
    Calls Try.prog 57 #[.slice A n c, .slice B n d] w fun e w' => e = .returned (.bool true) ∧ Drawn0 w w' :=
  (words_calls w A B n n c d x y hx hy hn).mono fun e w' ⟨r, h1, h2, h3⟩ => ⟨by rw [h1, h2.2 ⟨rfl, he⟩], h3⟩
end Go.Proofs.Ytdcpeeolfgohmaa
