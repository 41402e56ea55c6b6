/- The law KernelOnes: the walk. -/
import Derived.Test.YtbogemlkdncafaaLawSh
import Derived.Test.YtbogemlkdncafaaOnP
namespace Go.Proofs.Ytbogemlkdncafaa
open Go.RowKit Go.Proofs.YtbogemlkdncafaaW.PrintWords
set_option linter.unusedSimpArgs false
set_option linter.unusedVariables false

theorem own_rowG {W : World} {base c : Nat} {e : TypeId} {A : Option Addr} {l : List (Int × Int)} (h : W.ownsRow base e 2 (.slice A l.length c) l.length (tapCells l)) (hn : 0 < l.length) : ∃ g, A = some ⟨g, 0, none⟩ ∧ ∀ k, k < l.length → W.cell? ⟨g, k * 2, none⟩ = some (.int .i64 (tapP l k)) ∧ W.cell? ⟨g, k * 2 + 1, none⟩ = some (.int .i64 (tapW l k)) := by
  obtain ⟨g, cap, hv, _, _⟩ := h.form hn
  injection hv with hv1 _ _
  subst hv1
  refine ⟨g, rfl, fun i hi => ?_⟩
  have hc := tapCells_get l i hi
  have h1 := h.cells (g := g) rfl _ _ hc.1
  have h2 := h.cells (g := g) rfl _ _ hc.2
  rw [add_plain] at h1 h2
  exact ⟨h1, h2⟩

set_option maxHeartbeats 24000000 in
set_option maxRecDepth 100000 in
theorem lawOnes_calls (kind from' tt i : Int) (w : World) :
    Calls Try.prog 8 #[.int .i64 kind, .int .i64 from', .int .i64 tt, .int .i64 i] w fun e w' => e = .returned (.bool true) ∧ Below w.heap.size w w' := by
  go_enter Try.func8, Try.ntmps8
  go_upto_region 3 with (go_at_call 12; refine (known_calls _).mono ?_; rintro e1 w1 ⟨rfl, hb⟩; have HB1 := Lib.hid hb; clear hb)
  go_upto_region 4 with (go_at_call 14; refine (kTaps_told kind from' tt i _).mono ?_; rintro e2 w2 ⟨A, l, c, rfl, ht, ho, hb⟩; have HT := Lib.hid ht; have HO := Lib.hid ho; have HB2 := Lib.hid (below_join HB1.out hb); clear ht ho hb HB1)
  obtain ⟨er, eer⟩ : ∃ er, er = tapsErr kind from' tt i := ⟨_, rfl⟩
  rw [← eer]
  have EER := Lib.hid eer
  clear eer
  go_cut [11] (fun v11 wc => ∃ g : Bool, v11 = .bool g ∧ Hid (g = true ↔ er = 0) ∧ wc = w2)
  case first =>
    by_cases c1 : 1 ≤ kind
    · have d1 : decide (1 ≤ kind) = true := decide_eq_true c1
      by_cases c2 : kind ≤ 3
      · have d2 : decide (kind ≤ 3) = true := decide_eq_true c2
        by_cases c3 : 1 ≤ from'
        · have d3 : decide (1 ≤ from') = true := decide_eq_true c3
          by_cases c4 : from' ≤ 1024
          · have d4 : decide (from' ≤ 1024) = true := decide_eq_true c4
            by_cases c5 : 1 ≤ tt
            · have d5 : decide (1 ≤ tt) = true := decide_eq_true c5
              by_cases c6 : tt ≤ 1024
              · have d6 : decide (tt ≤ 1024) = true := decide_eq_true c6
                by_cases c7 : 0 ≤ i
                · have d7 : decide (0 ≤ i) = true := decide_eq_true c7
                  by_cases c8 : i < tt
                  · have d8 : decide (i < tt) = true := decide_eq_true c8
                    have W15 : IntKind.i64.wrap (15 * tt) = 15 * tt := IntWalk.i64_in _ (by omega)
                    by_cases c9 : from' ≤ 15 * tt
                    · have d9 : decide (from' ≤ 15 * tt) = true := decide_eq_true c9
                      go_wp2
                      go_meet
                      case rel => exact ⟨true, rfl, ⟨fun _ => by rw [EER.out]; exact may_tapsErr ⟨c1, c2, c3, c4, c5, c6, c7, c8, c9⟩, fun _ => rfl⟩, rfl⟩
                    · have d9 : decide (from' ≤ 15 * tt) = false := decide_eq_false c9
                      go_wp2
                      go_meet
                      case rel => exact ⟨false, rfl, ⟨(fun h => by cases h), fun h => by have := (tapsErr_may (EER.out.symm.trans h)).far; omega⟩, rfl⟩
                  · have d8 : decide (i < tt) = false := decide_eq_false c8
                    go_wp2
                    go_meet
                    case rel => exact ⟨false, rfl, ⟨(fun h => by cases h), fun h => by have := (tapsErr_may (EER.out.symm.trans h)).i1; omega⟩, rfl⟩
                · have d7 : decide (0 ≤ i) = false := decide_eq_false c7
                  go_wp2
                  go_meet
                  case rel => exact ⟨false, rfl, ⟨(fun h => by cases h), fun h => by have := (tapsErr_may (EER.out.symm.trans h)).i0; omega⟩, rfl⟩
              · have d6 : decide (tt ≤ 1024) = false := decide_eq_false c6
                go_wp2
                go_meet
                case rel => exact ⟨false, rfl, ⟨(fun h => by cases h), fun h => by have := (tapsErr_may (EER.out.symm.trans h)).t2; omega⟩, rfl⟩
            · have d5 : decide (1 ≤ tt) = false := decide_eq_false c5
              go_wp2
              go_meet
              case rel => exact ⟨false, rfl, ⟨(fun h => by cases h), fun h => by have := (tapsErr_may (EER.out.symm.trans h)).t1; omega⟩, rfl⟩
          · have d4 : decide (from' ≤ 1024) = false := decide_eq_false c4
            go_wp2
            go_meet
            case rel => exact ⟨false, rfl, ⟨(fun h => by cases h), fun h => by have := (tapsErr_may (EER.out.symm.trans h)).f2; omega⟩, rfl⟩
        · have d3 : decide (1 ≤ from') = false := decide_eq_false c3
          go_wp2
          go_meet
          case rel => exact ⟨false, rfl, ⟨(fun h => by cases h), fun h => by have := (tapsErr_may (EER.out.symm.trans h)).f1; omega⟩, rfl⟩
      · have d2 : decide (kind ≤ 3) = false := decide_eq_false c2
        go_wp2
        go_meet
        case rel => exact ⟨false, rfl, ⟨(fun h => by cases h), fun h => by have := (tapsErr_may (EER.out.symm.trans h)).k3; omega⟩, rfl⟩
    · have d1 : decide (1 ≤ kind) = false := decide_eq_false c1
      go_wp2
      go_meet
      case rel => exact ⟨false, rfl, ⟨(fun h => by cases h), fun h => by have := (tapsErr_may (EER.out.symm.trans h)).k1; omega⟩, rfl⟩
  case rest =>
    obtain ⟨g, rfl, HG, rfl⟩ := hcut
    cases g with
    | false =>
      have hne : er ≠ 0 := fun h => by have := HG.out.2 h; cases this
      have b1 : (er == 0) = false := beq_eq_false_iff_ne.2 hne
      have b2 : (er != 0) = true := bne_iff_ne.2 hne
      have hl : l = [] := by
        rcases HT.out with ⟨_, h⟩ | ⟨h, _⟩
        · exact h
        · exact absurd (EER.out.trans h) hne
      subst hl
      clear hne HG HT EER
      go_wp2
      go_ret
      exact ⟨rfl, HB2.out⟩
    | true =>
      have he : er = 0 := HG.out.1 rfl
      subst he
      have TP := Lib.hid (taps_plain HT.out EER.out.symm)
      have MAY := Lib.hid (tapsErr_may EER.out.symm)
      obtain ⟨n, en⟩ : ∃ n, n = l.length := ⟨_, rfl⟩
      obtain ⟨gb, rfl, hcell⟩ := own_rowG HO.out TP.out.len1
      have HC : Hid (∀ k, k < n → wc.cell? ⟨gb, k * 2, none⟩ = some (.int .i64 (tapP l k)) ∧ wc.cell? ⟨gb, k * 2 + 1, none⟩ = some (.int .i64 (tapW l k))) := by rw [en]; exact hcell
      rw [← en]
      have hn1 : 1 ≤ n := by rw [en]; exact TP.out.len1
      have hn2 : n ≤ 62 := by rw [en]; exact TP.out.len2
      have EN := Lib.hid en
      clear hcell en HO HG
      go_wp2
      go_loopg [12, 13] n (fun kq v12 v13 wr => ∃ j : Nat, v13 = .int .i64 j ∧ v12 = .int .i64 (sumTo (tapW l) j) ∧ j ≤ n ∧ n ≤ j + kq ∧ Aside (Drawn0 wc wr))
      case atStart => exact ⟨0, rfl, rfl, by omega, by omega, Drawn0.refl _⟩
      case round =>
        obtain ⟨j, rfl, rfl, hj, hjk, HD0⟩ := hrel
        obtain ⟨qn, rfl⟩ := HD0.out.out
        by_cases hlt : j < n
        · have hltz : (j : Int) < (n : Int) := by omega
          have hlt' : j < l.length := by rw [← EN.out]; exact hlt
          have hsm := sumTo_bd (B := 72057594037927937) (by omega) TP.out.bd j (by omega)
          have hsm2 : (j : Int) * 72057594037927937 ≤ 62 * 72057594037927937 := Int.mul_le_mul_of_nonneg_right (by omega) (by omega)
          obtain ⟨t, et⟩ : ∃ t, t = sumTo (tapW l) j := ⟨_, rfl⟩
          obtain ⟨p, ep⟩ : ∃ p, p = tapP l j := ⟨_, rfl⟩
          obtain ⟨b, eb⟩ : ∃ b, b = tapW l j := ⟨_, rfl⟩
          obtain ⟨c1, c2⟩ := HC.out j hlt
          have f1 := TP.out.at1 j hlt'
          have f2 := TP.out.nz j hlt'
          have f3 := TP.out.bd j hlt'
          have f4 : kind ≠ 3 → 0 ≤ b := fun h => by rw [eb]; exact TP.out.pos h j hlt'
          rw [← et] at hsm ⊢
          rw [← ep] at c1 f1
          rw [← eb] at c2 f2 f3
          have d1 : decide (p < 0) = false := decide_eq_false (by omega)
          have d2 : decide (from' ≤ p) = false := decide_eq_false (by omega)
          have d3 : (b == 0) = false := beq_eq_false_iff_ne.2 f2
          have ht1 : -4467571830351532095 ≤ t := by omega
          have ht2 : t ≤ 4467571830351532095 := by omega
          obtain ⟨f31, f32⟩ := f3
          have d6 : kind ≠ 3 → decide (b < 0) = false := fun h => decide_eq_false (by have := f4 h; omega)
          have ET := Lib.hid et
          have EB := Lib.hid eb
          have D6 := Lib.hid d6
          clear et eb hsm hsm2 f1 f2 f4 d6
          have hpr : j = 0 ∨ ∃ q : Nat, j = q + 1 ∧ wc.cell? ⟨gb, q * 2, none⟩ = some (.int .i64 (tapP l q)) ∧ tapP l q < p := by
            rcases Nat.eq_zero_or_pos j with h | h
            · exact .inl h
            · refine .inr ⟨j - 1, by omega, (HC.out (j - 1) (by omega)).1, ?_⟩
              have := TP.out.rise (j - 1) (by omega)
              rw [show j - 1 + 1 = j by omega, ← ep] at this
              exact this
          clear ep
          have hj0 : (decide ((0 : Int) < (j : Int)) = false ∧ decide (0 < j) = false) ∨ ∃ (q : Nat) (p' : Int), (decide ((0 : Int) < (j : Int)) = true ∧ decide (0 < j) = true) ∧ IntKind.i64.wrap ((j : Int) - 1) = (q : Int) ∧ q < n ∧ wc.cell? ⟨gb, q * 2, none⟩ = some (.int .i64 p') ∧ decide (p ≤ p') = false := by
            rcases hpr with h | ⟨q, rfl, h2, h3⟩
            · exact .inl ⟨decide_eq_false (by omega), decide_eq_false (by omega)⟩
            · exact .inr ⟨q, _, ⟨decide_eq_true (by omega), decide_eq_true (by omega)⟩, by rw [IntWalk.i64_in _ (by omega)]; omega, by omega, h2, decide_eq_false (by omega)⟩
          clear hpr
          have WT : IntKind.i64.wrap (t + b) = t + b := IntWalk.i64_in _ (by omega)
          clear ht1 ht2 f31 f32 hlt'
          rcases hj0 with ⟨hj1, hj0⟩ | ⟨q, p', ⟨hj1, hj0⟩, WQ, hqn, c3, d4⟩
          · by_cases hk3 : kind = 3
            · have d5 : (kind != 3) = false := by rw [hk3]; rfl
              clear D6 hk3
              go_wp2
              repeat (go_quiet (fail); try go_wp2)
              go_roundg (n - (j + 1))
              case measure => omega
              case rel => exact ⟨j + 1, by go_num, by rw [sumTo, ← ET.out, ← EB.out], by omega, by omega, Drawn0.mk ⟨_, rfl⟩⟩
            · have d5 : (kind != 3) = true := bne_iff_ne.2 hk3
              have d6 := D6.out hk3
              clear D6 hk3
              go_wp2
              repeat (go_quiet (fail); try go_wp2)
              go_roundg (n - (j + 1))
              case measure => omega
              case rel => exact ⟨j + 1, by go_num, by rw [sumTo, ← ET.out, ← EB.out], by omega, by omega, Drawn0.mk ⟨_, rfl⟩⟩
          · have hqz : (q : Int) < (n : Int) := by omega
            by_cases hk3 : kind = 3
            · have d5 : (kind != 3) = false := by rw [hk3]; rfl
              clear D6 hk3
              go_wp2
              repeat (go_quiet (fail); try go_wp2)
              go_roundg (n - (j + 1))
              case measure => omega
              case rel => exact ⟨j + 1, by go_num, by rw [sumTo, ← ET.out, ← EB.out], by omega, by omega, Drawn0.mk ⟨_, rfl⟩⟩
            · have d5 : (kind != 3) = true := bne_iff_ne.2 hk3
              have d6 := D6.out hk3
              clear D6 hk3
              go_wp2
              repeat (go_quiet (fail); try go_wp2)
              go_roundg (n - (j + 1))
              case measure => omega
              case rel => exact ⟨j + 1, by go_num, by rw [sumTo, ← ET.out, ← EB.out], by omega, by omega, Drawn0.mk ⟨_, rfl⟩⟩
        · have hltz : ¬ (j : Int) < (n : Int) := by omega
          have e : j = n := by omega
          subst e
          have hsum : sumTo (tapW l) j = 65536 := by rw [EN.out]; exact TP.out.sum
          rw [hsum]
          have d1 : decide ((j : Int) < 1) = false := decide_eq_false (by omega)
          have d2 : decide ((64 : Int) < (j : Int)) = false := decide_eq_false (by omega)
          clear hsum
          by_cases hft : from' = tt
          · have d3 : (from' != tt) = false := by rw [hft]; exact bne_self_eq_false _
            obtain ⟨s1, s2⟩ := TP.out.same hft
            obtain rfl : j = 1 := by rw [EN.out]; exact s1
            have c1 := (HC.out 0 (by omega)).1
            rw [s2] at c1
            have d4 : (i == i) = true := beq_iff_eq.2 rfl
            clear s2 s1 hft
            go_wp2
            go_ret
            exact ⟨rfl, below_join HB2.out HD0.out.below⟩
          · have d3 : (from' != tt) = true := bne_iff_ne.2 hft
            clear hft
            go_wp2
            go_ret
            exact ⟨rfl, below_join HB2.out HD0.out.below⟩
end Go.Proofs.Ytbogemlkdncafaa
