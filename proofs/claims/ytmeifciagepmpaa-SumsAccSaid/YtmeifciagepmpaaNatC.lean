/- halideref2's whole numbers: Compare, Plus, Minus. -/
import Derived.Test.YtmeifciagepmpaaNatB
namespace Go.Proofs.Ytmeifciagepmpaa
open Go.RowKit Go.Proofs.YtmeifciagepmpaaW.PrintWords
set_option linter.unusedSimpArgs false
set_option linter.unusedVariables false

theorem ret_int {k : IntKind} {a b : Int} (h : a = b) : Ending.returned (.int k a) = .returned (.int k b) := by rw [h]
theorem cmpN_lt {a b : Nat} (h : a < b) : cmpN a b = -1 := if_pos h
theorem cmpN_gt {a b : Nat} (h : b < a) : cmpN a b = 1 := by unfold cmpN; rw [if_neg (by omega), if_neg (by omega)]
theorem cmpN_eq {a b : Nat} (h : a = b) : cmpN a b = 0 := by unfold cmpN; rw [if_neg (by omega), if_pos h]

set_option maxHeartbeats 1600000 in
set_option maxRecDepth 100000 in
theorem compare_calls (w : World) (v u : Value) (a b : Nat) (hv : NatAt w v a) (hu : NatAt w u b) (hla : len32 a ≤ 1000000) (hlb : len32 b ≤ 1000000) :
    Calls Try.prog 101 #[v, u] w fun e w' => e = .returned (.int .i64 (cmpN a b)) ∧ Drawn0 w w' := by
  obtain ⟨A, c, rfl, hc, hr⟩ := hv
  obtain ⟨B, d, rfl, hd, hs⟩ := hu
  obtain ⟨m, em⟩ : ∃ m, m = len32 a := ⟨_, rfl⟩
  obtain ⟨n, en⟩ : ∃ n, n = len32 b := ⟨_, rfl⟩
  have EM := Lib.hid em
  have EN := Lib.hid en
  rw [← em] at hr hla hc ⊢
  rw [← en] at hs hlb hd ⊢
  have HR := Lib.hid hr
  have HS := Lib.hid hs
  clear hr hs em en
  rcases Nat.lt_trichotomy m n with h | h | h
  · have E := Lib.hid (cmpN_lt (a := a) (b := b) (cmp_len (by rw [← EM.out, ← EN.out]; exact h)))
    have h1 : ((m : Int) != (n : Int)) = true := by rw [bne_iff_ne]; omega
    have h2 : ((m : Int) == (n : Int)) = false := by rw [beq_eq_false_iff_ne]; omega
    have h3 : (m : Int) < (n : Int) := by omega
    go_enter Try.func101, Try.ntmps101
    go_wp2_with fail
    go_ret
    exact ⟨ret_int E.out.symm, Drawn0.refl _⟩
  · subst h
    have heq : ((m : Int) == (m : Int)) = true := beq_iff_eq.2 rfl
    have hne : ((m : Int) != (m : Int)) = false := bne_self_eq_false _
    have W0 : IntKind.i64.wrap ((m : Int) - 1) = (m : Int) - 1 := IntWalk.i64_in _ (by omega)
    go_enter Try.func101, Try.ntmps101
    go_wp2_with fail
    clear W0
    go_loopg [5] m (fun kq v5 wr => ∃ k : Nat, v5 = .int .i64 ((k : Int) - 1) ∧ k ≤ m ∧ k ≤ kq ∧ Hid (a / 2 ^ (32 * k) = b / 2 ^ (32 * k)) ∧ Aside (Drawn0 w wr))
    case atStart =>
      refine ⟨m, by first | rfl | simp, by omega, by omega, (show _ = _ from ?_), Drawn0.refl _⟩
      rw [Nat.div_eq_of_lt ((lt_len32 a m).1 (by have := EM.out; omega)), Nat.div_eq_of_lt ((lt_len32 b m).1 (by have := EN.out; omega))]
    case round =>
      obtain ⟨k, rfl, hk, hkq, HE, HD0⟩ := hrel
      obtain ⟨qn, rfl⟩ := HD0.out.out
      rcases Nat.eq_zero_or_pos k with h0 | h0
      · subst h0
        have E : Hid (cmpN a b = 0) := cmpN_eq (by have := HE.out; simpa using this)
        have hneg : ¬ (0 : Int) ≤ ((0 : Nat) : Int) - 1 := by omega
        go_wp2
        go_ret
        exact ⟨ret_int E.out.symm, HD0.out⟩
      · obtain ⟨q, rfl⟩ : ∃ q, k = q + 1 := ⟨k - 1, by omega⟩
        have hq2 : ((q + 1 : Nat) : Int) - 1 = (q : Int) := by omega
        rw [hq2]
        obtain ⟨ad, rfl, hca⟩ := HR.out (by omega)
        obtain ⟨be, rfl, hcb⟩ := HS.out (by omega)
        obtain ⟨x, ex⟩ : ∃ x, x = dig a q := ⟨_, rfl⟩
        obtain ⟨y, ey⟩ : ∃ y, y = dig b q := ⟨_, rfl⟩
        have c1 := hca q (by omega)
        have c2 := hcb q (by omega)
        rw [← ex] at c1
        rw [← ey] at c2
        have EX := Lib.hid ex
        have EY := Lib.hid ey
        have hqm : (q : Int) < (m : Int) := by omega
        have hq0 : (0 : Int) ≤ (q : Int) := by omega
        clear hca hcb ex ey hq2
        by_cases hxy : x = y
        · have hb : ((x : Int) != (y : Int)) = false := by rw [hxy]; exact bne_self_eq_false _
          have HXY := Lib.hid hxy
          clear hxy
          go_wp2
          repeat (go_quiet (fail); try go_wp2)
          go_roundg q
          case measure => omega
          case rel => exact ⟨q, by first | rfl | go_num | simp, by omega, by omega, cmp_same HE.out (by rw [← EX.out, ← EY.out]; exact HXY.out), Drawn0.mk ⟨_, rfl⟩⟩
        · have hb : ((x : Int) != (y : Int)) = true := by rw [bne_iff_ne]; omega
          by_cases hlt : x < y
          · have hlti : (x : Int) < (y : Int) := by omega
            have E := Lib.hid (cmpN_lt (cmp_dig HE.out (by rw [← EX.out, ← EY.out]; exact hlt)))
            clear hxy
            go_wp2
            repeat (go_quiet (fail); try go_wp2)
            go_ret
            exact ⟨ret_int E.out.symm, ((HD0.out.step _).step _)⟩
          · have hlti : ¬ (x : Int) < (y : Int) := by omega
            have E := Lib.hid (cmpN_gt (cmp_dig HE.out.symm (by rw [← EX.out, ← EY.out]; omega)))
            clear hxy
            go_wp2
            repeat (go_quiet (fail); try go_wp2)
            go_ret
            exact ⟨ret_int E.out.symm, ((HD0.out.step _).step _)⟩
  · have E := Lib.hid (cmpN_gt (a := a) (b := b) (cmp_len (by rw [← EM.out, ← EN.out]; exact h)))
    have h1 : ((m : Int) != (n : Int)) = true := by rw [bne_iff_ne]; omega
    have h2 : ((m : Int) == (n : Int)) = false := by rw [beq_eq_false_iff_ne]; omega
    have h3 : ¬ (m : Int) < (n : Int) := by omega
    go_enter Try.func101, Try.ntmps101
    go_wp2_with fail
    go_ret
    exact ⟨ret_int E.out.symm, Drawn0.refl _⟩

theorem u_make (n : Nat) (hn : n ≤ 1000000000) (W : World) :
    (Instr.makeSlice 60 (.int .i64 (n : Int)) (.int .i64 (n : Int))).run Try.prog W = .ok (.slice (some ⟨W.heap.size, 0, none⟩) n n) (W.alloc (.cells (madeCells #[.int .u32 0] n) 25)) := by
  obtain ⟨i, hi, hz⟩ := Option.map_eq_some_iff.1 u_info
  simp only [Prod.mk.injEq] at hz
  have h := run_make (P := Try.prog) W 60 25 i (.int .u32 0) Try.underlying60 hi hz.1 .i64 .i64 n n (by omega) (by omega) (by rw [hz.2.2]; omega) (by omega)
  rw [hz.2.1] at h
  simpa [Value.cells] using h

/-- A block of the call's own beside what is read. -/
structure OutW (w : World) (g n : Nat) (f : Nat → Nat) (W : World) : Prop where
  lo : w.heap.size ≤ g
  bl : W.heap[g]? = some (.cells (arrU n f) 25 (0, 0))
  be : Below w.heap.size w W
  di : ∀ k, k < n → f k < 4294967296
theorem OutW.set {w W : World} {g n : Nat} {f : Nat → Nat} (h : OutW w g n f W) (i v : Nat) (hv : v < 4294967296) : OutW w g n (updN f i v) (W.setCell ⟨g, i, none⟩ (.int .u32 (v : Int))) :=
  ⟨h.lo, uset h.bl i v, h.be.setCell h.lo _, fun k hk => by unfold updN; split; exact hv; exact h.di k hk⟩
theorem OutW.start (w : World) (n : Nat) : OutW w w.heap.size n (fun _ => 0) (w.alloc (.cells (arrU n fun _ => 0) 25)) :=
  ⟨Nat.le_refl _, heap_alloc_new w _, (Below.refl _ _).alloc (Nat.le_refl _) _, fun _ _ => by omega⟩
theorem OutW.cell {w W : World} {g n : Nat} {f : Nat → Nat} (h : OutW w g n f W) (i : Nat) (hi : i < n) : W.cell? ⟨g, i, none⟩ = some (.int .u32 ((f i : Nat) : Int)) ∧ W.frozen? ⟨g, i, none⟩ = false :=
  ⟨(ucell h.bl i).trans (arrU_get n f i hi), ufree h.bl i⟩
theorem OutW.trim {w W : World} {g n s : Nat} {f : Nat → Nat} (h : OutW w g n f W) (hn : n ≤ 4611686018427387904) (hv : vt f n = s) :
    Calls Try.prog 75 #[.slice (some ⟨g, 0, none⟩) n n] W fun e w' => NatEnd w s e w' :=
  (trimmed_calls W (some ⟨g, 0, none⟩) n n s f (RowU.arr h.bl) (Nat.le_refl _) hn h.di hv).mono fun e w' ⟨⟨v, he, hn⟩, hw⟩ => by
    subst hw; exact ⟨v, he, hn, h.be⟩
end Go.Proofs.Ytmeifciagepmpaa
