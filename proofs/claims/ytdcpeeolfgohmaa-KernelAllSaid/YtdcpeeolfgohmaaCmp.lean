/- halidehelp.Ints, halidelaw9.sameTaps. -/
import Derived.Test.YtdcpeeolfgohmaaTapsJ
import Derived.Test.YtdcpeeolfgohmaaWEqStruct
namespace Go.Proofs.Ytdcpeeolfgohmaa
open Go.RowKit Go.Proofs.YtdcpeeolfgohmaaW.PrintWords
set_option linter.unusedSimpArgs false
set_option linter.unusedVariables false

/-- A row of whole numbers, read. -/
def RowI (w : World) (A : Option Addr) (n : Nat) (x : Nat → Int) : Prop := 1 ≤ n → ∃ ad, A = some ad ∧ ∀ i, i < n → w.cell? (ad.add i) = some (.int .i64 (x i))
def SameI (n m : Nat) (x y : Nat → Int) : Prop := n = m ∧ ∀ k, k < n → x k = y k
/-- What a call that compares comes to. -/
def SaysIff (w : World) (P : Prop) (e : Ending) (w' : World) : Prop := ∃ r : Bool, e = .returned (.bool r) ∧ (r = true ↔ P) ∧ Drawn0 w w'
theorem says_no {w w' : World} {P : Prop} (h : ¬ P) (hd : Drawn0 w w') : SaysIff w P (.returned (.bool false)) w' := ⟨false, rfl, by simp [h], hd⟩
theorem says_yes {w w' : World} {P : Prop} (h : P) (hd : Drawn0 w w') : SaysIff w P (.returned (.bool true)) w' := ⟨true, rfl, by simp [h], hd⟩

set_option maxHeartbeats 1600000 in
set_option maxRecDepth 100000 in
theorem ints_calls (w : World) (A B : Option Addr) (n m c d : Nat) (x y : Nat → Int) (hx : RowI w A n x) (hy : RowI w B m y) (hn : n ≤ 4611686018427387904) :
    Calls Try.prog 50 #[.slice A n c, .slice B m d] w fun e w' => SaysIff w (SameI n m x y) e w' := by
  by_cases hnm : n = m
  · subst hnm
    by_cases h0 : n = 0
    · subst h0
      have hs : Hid (SameI 0 0 x y) := ⟨rfl, fun k hk => by omega⟩
      clear hx hy
      go_enter Try.func50, Try.ntmps50
      go_wp2_with fail
      go_loop [5] (fun v5 => v5 = .int .i64 0) (fun _ => 0)
      case atStart => rfl
      case round =>
        subst hrel
        go_wp2
        go_ret
        exact says_yes hs.out (Drawn0.refl _)
    · obtain ⟨ax, rfl, cx⟩ := hx (by omega)
      obtain ⟨ay, rfl, cy⟩ := hy (by omega)
      have CX := Lib.hid cx
      have CY := Lib.hid cy
      have heq : ((n : Int) == (n : Int)) = true := beq_iff_eq.2 rfl
      clear hx hy cx cy
      go_enter Try.func50, Try.ntmps50
      go_wp2_with fail
      go_loopg [5] n (fun kq v5 wr => ∃ i : Nat, v5 = .int .i64 i ∧ i ≤ n ∧ n ≤ i + kq ∧ Aside (Drawn0 w wr) ∧ Hid (∀ k, k < i → x k = y k))
      case atStart => exact ⟨0, rfl, by omega, by omega, Drawn0.refl _, fun k hk => by omega⟩
      case round =>
        obtain ⟨i, rfl, hi, hk, HD0, HE⟩ := hrel
        obtain ⟨qn, rfl⟩ := HD0.out.out
        by_cases hlt : i < n
        · have hltz : (i : Int) < (n : Int) := by omega
          obtain ⟨p, ep⟩ : ∃ p, p = x i := ⟨_, rfl⟩
          obtain ⟨q, eq⟩ : ∃ q, q = y i := ⟨_, rfl⟩
          have c1 := CX.out i hlt
          have c2 := CY.out i hlt
          rw [← ep] at c1
          rw [← eq] at c2
          have EP := Lib.hid ep
          have EQ := Lib.hid eq
          clear ep eq
          by_cases hd : p = q
          · have hb : (p != q) = false := by rw [hd]; exact bne_self_eq_false q
            have HD := Lib.hid hd
            clear hd
            go_wp2
            repeat (go_quiet (fail); try go_wp2)
            go_roundg (n - (i + 1))
            case measure => omega
            case rel =>
              refine ⟨i + 1, by go_num, by omega, by omega, Drawn0.mk ⟨_, rfl⟩, fun k hk => ?_⟩
              by_cases e : k = i
              · rw [e, ← EP.out, ← EQ.out, HD.out]
              · exact HE.out k (by omega)
          · have hb : (p != q) = true := bne_iff_ne.2 hd
            have hno : Hid (¬ SameI n n x y) := fun h => hd (by rw [EP.out, EQ.out]; exact h.2 i hlt)
            clear hd
            go_wp2
            repeat (go_quiet (fail); try go_wp2)
            go_ret
            exact says_no hno.out (HD0.out.step _)
        · have hltz : ¬ (i : Int) < (n : Int) := by omega
          have e : i = n := by omega
          subst e
          go_wp2
          go_ret
          exact says_yes ⟨rfl, HE.out⟩ HD0.out
  · have hno : Hid (¬ SameI n m x y) := fun h => hnm h.1
    have heq : ((n : Int) == (m : Int)) = false := by rw [beq_eq_false_iff_ne]; omega
    have heq2 : ((n : Int) != (m : Int)) = true := by rw [bne_iff_ne]; omega
    clear hx hy
    go_enter Try.func50, Try.ntmps50
    go_wp2
    go_ret
    exact says_no hno.out (Drawn0.refl _)

theorem eqA_Tap (d : Nat) (w : World) (x0 y0 : Int) (x1 y1 : Int) :
    (Op.equalIn (d + 2) 98 (.agg #[.int .i64 x0, .int .i64 x1]) (.agg #[.int .i64 y0, .int .i64 y1])).run Try.prog w = .ok (x0 == y0 && (x1 == y1)) w := by
  refine eqA_of Try.underlying98 (by kernel_rfl) ?_
  refine eqf_cons (by rfl) (by go_simp; rfl) (by go_simp; rfl) (by go_simp) ?_
  exact eqf_last (by rfl) (by go_simp; rfl) (by go_simp; rfl) (by go_simp)
attribute [local go_sem high] eqA_Tap

/-- A row of taps, read. -/
def RowT (w : World) (A : Option Addr) (n : Nat) (p q : Nat → Int) : Prop := 1 ≤ n → ∃ ad : Addr, A = some ad ∧ ∀ i, i < n → w.cell? (ad.add (i * 2)) = some (.int .i64 (p i)) ∧ w.cell? ⟨(ad.add (i * 2)).block, (ad.add (i * 2)).off + 1, none⟩ = some (.int .i64 (q i))
def SameT (n m : Nat) (p q p' q' : Nat → Int) : Prop := n = m ∧ ∀ k, k < n → p k = p' k ∧ q k = q' k

set_option maxHeartbeats 1600000 in
set_option maxRecDepth 100000 in
theorem sameTaps_calls (w : World) (A B : Option Addr) (n m c d : Nat) (p q p' q' : Nat → Int) (hx : RowT w A n p q) (hy : RowT w B m p' q') (hn : n ≤ 4611686018427387904) :
    Calls Try.prog 15 #[.slice A n c, .slice B m d] w fun e w' => SaysIff w (SameT n m p q p' q') e w' := by
  by_cases hnm : n = m
  · subst hnm
    by_cases h0 : n = 0
    · subst h0
      have hs : Hid (SameT 0 0 p q p' q') := ⟨rfl, fun k hk => by omega⟩
      clear hx hy
      go_enter Try.func15, Try.ntmps15
      go_wp2_with fail
      go_loop [5] (fun v5 => v5 = .int .i64 0) (fun _ => 0)
      case atStart => rfl
      case round =>
        subst hrel
        go_wp2
        go_ret
        exact says_yes hs.out (Drawn0.refl _)
    · obtain ⟨ax, rfl, cx⟩ := hx (by omega)
      obtain ⟨ay, rfl, cy⟩ := hy (by omega)
      have CX := Lib.hid cx
      have CY := Lib.hid cy
      have heq : ((n : Int) == (n : Int)) = true := beq_iff_eq.2 rfl
      clear hx hy cx cy
      go_enter Try.func15, Try.ntmps15
      go_wp2_with fail
      go_loopg [5] n (fun kq v5 wr => ∃ i : Nat, v5 = .int .i64 i ∧ i ≤ n ∧ n ≤ i + kq ∧ Aside (Drawn0 w wr) ∧ Hid (∀ k, k < i → p k = p' k ∧ q k = q' k))
      case atStart => exact ⟨0, rfl, by omega, by omega, Drawn0.refl _, fun k hk => by omega⟩
      case round =>
        obtain ⟨i, rfl, hi, hk, HD0, HE⟩ := hrel
        obtain ⟨qn, rfl⟩ := HD0.out.out
        by_cases hlt : i < n
        · have hltz : (i : Int) < (n : Int) := by omega
          obtain ⟨a, ea⟩ : ∃ a, a = p i := ⟨_, rfl⟩
          obtain ⟨b, eb⟩ : ∃ b, b = q i := ⟨_, rfl⟩
          obtain ⟨a', ea'⟩ : ∃ a, a = p' i := ⟨_, rfl⟩
          obtain ⟨b', eb'⟩ : ∃ b, b = q' i := ⟨_, rfl⟩
          obtain ⟨c1, c2⟩ := CX.out i hlt
          obtain ⟨c3, c4⟩ := CY.out i hlt
          rw [← ea] at c1
          rw [← eb] at c2
          rw [← ea'] at c3
          rw [← eb'] at c4
          have EA := Lib.hid ea
          have EB := Lib.hid eb
          have EA' := Lib.hid ea'
          have EB' := Lib.hid eb'
          clear ea eb ea' eb'
          by_cases hd : a = a' ∧ b = b'
          · have hb : (!(a == a') || (!(b == b'))) = false := by rw [hd.1, hd.2]; simp
            have HD := Lib.hid hd
            clear hd
            go_wp2
            repeat (go_quiet (fail); try go_wp2)
            go_roundg (n - (i + 1))
            case measure => omega
            case rel =>
              refine ⟨i + 1, by go_num, by omega, by omega, Drawn0.mk ⟨_, rfl⟩, fun k hk => ?_⟩
              by_cases e : k = i
              · rw [e, ← EA.out, ← EA'.out, ← EB.out, ← EB'.out]; exact HD.out
              · exact HE.out k (by omega)
          · have hb : (!(a == a') || (!(b == b'))) = true := by
              rw [Bool.or_eq_true, Bool.not_eq_true', Bool.not_eq_true', beq_eq_false_iff_ne, beq_eq_false_iff_ne]
              by_cases h1 : a = a'
              · exact .inr fun h2 => hd ⟨h1, h2⟩
              · exact .inl h1
            have hno : Hid (¬ SameT n n p q p' q') := fun h => hd (by rw [EA.out, EB.out, EA'.out, EB'.out]; exact h.2 i hlt)
            clear hd
            go_wp2
            repeat (go_quiet (fail); try go_wp2)
            go_ret
            exact says_no hno.out (HD0.out.step _)
        · have hltz : ¬ (i : Int) < (n : Int) := by omega
          have e : i = n := by omega
          subst e
          go_wp2
          go_ret
          exact says_yes ⟨rfl, HE.out⟩ HD0.out
  · have hno : Hid (¬ SameT n m p q p' q') := fun h => hnm h.1
    have heq : ((n : Int) == (m : Int)) = false := by rw [beq_eq_false_iff_ne]; omega
    have heq2 : ((n : Int) != (m : Int)) = true := by rw [bne_iff_ne]; omega
    clear hx hy
    go_enter Try.func15, Try.ntmps15
    go_wp2
    go_ret
    exact says_no hno.out (Drawn0.refl _)
end Go.Proofs.Ytdcpeeolfgohmaa
