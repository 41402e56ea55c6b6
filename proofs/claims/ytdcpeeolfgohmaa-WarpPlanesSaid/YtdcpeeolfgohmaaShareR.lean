/- halideref9.Share: the document's shares. -/
import Derived.Test.YtdcpeeolfgohmaaShareBC
namespace Go.Proofs.Ytdcpeeolfgohmaa
open Go.RowKit
set_option linter.unusedSimpArgs false
set_option linter.unusedVariables false

theorem countTo_all {S : Nat → Bool} : ∀ n, (∀ k, k < n → S k = true) → countTo S n = n
  | 0, _ => rfl
  | n + 1, h => by rw [countTo, countTo_all n fun k hk => h k (by omega), h n (by omega)]; rfl
theorem TopSet.free {K : Int → Int} {n m : Nat} {S : Nat → Bool} (h : TopSet K n m S) (hm : m < n) : ∃ q, q < n ∧ S q = false := by
  by_cases hq : ∃ q, q < n ∧ S q = false
  · exact hq
  · have := countTo_all (S := S) n fun k hk => by
      cases hS : S k with
      | true => rfl
      | false => exact absurd ⟨k, hk, hS⟩ hq
    rw [h.cnt] at this; omega
theorem TopSet.step {K : Int → Int} {n m : Nat} {S : Nat → Bool} (h : TopSet K n m S) (p : Nat) (hp : p < n) (hS : S p = false) (hb : ∀ b : Nat, b < n → S b = false → b ≠ p → Ahead K p b) :
    TopSet K n (m + 1) (fun k => S k || k == p) := by
  refine ⟨by rw [countTo_add p hS n hp, h.cnt], fun a b ha hb' h1 h2 => ?_⟩
  simp only [Bool.or_eq_true, beq_iff_eq, Bool.or_eq_false_iff, beq_eq_false_iff_ne] at h1 h2
  rcases h1 with h1 | h1
  · exact h.top a b ha hb' h1 h2.1
  · rw [h1]; exact hb b hb' h2.1 h2.2
theorem TopSet.zero (K : Int → Int) (n : Nat) : TopSet K n 0 (fun _ => false) := ⟨countTo_none n fun _ _ => rfl, fun _ _ _ _ h => by cases h⟩

theorem pick_other {S : Nat → Bool} {b q : Nat} (h : q ≠ b) : (fun k => S k || k == b) q = S q := by
  have : (q == b) = false := beq_eq_false_iff_ne.2 h
  show (S q || q == b) = S q
  rw [this, Bool.or_false]

/-- The world within halideref9.Share: the rows of n and rest. -/
structure RsW (w0 : World) (n : Nat) (bn br : Nat) (f g : Nat → Int) (W : World) : Prop where
  below : Below w0.heap.size w0 W
  hn : w0.heap.size ≤ bn
  hr : w0.heap.size ≤ br
  nr : bn ≠ br
  i1 : W.heap[bn]? = some (.cells (arrI n f) 3 (0, 0))
  i2 : W.heap[br]? = some (.cells (arrI n g) 3 (0, 0))
section
variable {w0 W : World} {n bn br : Nat} {f g : Nat → Int}
theorem RsW.drew (h : RsW w0 n bn br f g W) : RsW w0 n bn br f g W.drew := ⟨h.below.drew, h.hn, h.hr, h.nr, h.i1, h.i2⟩
theorem RsW.set1 (h : RsW w0 n bn br f g W) (i : Nat) (v : Int) : RsW w0 n bn br (upd f i v) g (W.setCell ⟨bn, i, none⟩ (.int .i64 v)) :=
  ⟨h.below.setCell (show _ ≤ bn from h.hn) _, h.hn, h.hr, h.nr, bsetI h.i1 i v, bfar h.i2 (Ne.symm h.nr) _⟩
theorem RsW.set2 (h : RsW w0 n bn br f g W) (i : Nat) (v : Int) : RsW w0 n bn br f (upd g i v) (W.setCell ⟨br, i, none⟩ (.int .i64 v)) :=
  ⟨h.below.setCell (show _ ≤ br from h.hr) _, h.hn, h.hr, h.nr, bfar h.i1 h.nr _, bsetI h.i2 i v⟩
end

/-- The rest of one. -/
theorem key_bd {x : Nat → Int} {s : Int} {k : Nat} (hs : 1 ≤ s) : 0 ≤ keyOf x s k ∧ keyOf x s k < s := by
  have h1 := Int.mul_ediv_add_emod (65536 * x k) s
  have h2 := Int.emod_nonneg (65536 * x k) (by omega : s ≠ 0)
  have h3 := Int.emod_lt_of_pos (65536 * x k) (by omega : 0 < s)
  have e : shOf x s k * s = s * (65536 * x k / s) := by rw [Int.mul_comm]; rfl
  unfold keyOf restOf
  rw [Int.toNat_natCast, e]
  omega

set_option maxHeartbeats 3200000 in
set_option maxRecDepth 100000 in
theorem rShare_calls (w : World) (n c : Nat) (x : Nat → Int) (A : Option Addr) (hr : 1 ≤ n → ∃ ad, A = some ad ∧ ∀ i, i < n → w.cell? (ad.add i) = some (.int .i64 (x i))) (hn64 : n ≤ 9223372036854775807) :
    Calls Try.prog 55 #[.slice A n c] w fun e w' => ShareEnd w n x e w' := by
  by_cases h0 : n = 0
  · subst h0
    have hno : Hid (¬ ShareOk x 0) := fun h => by have := h.1; omega
    go_enter Try.func55, Try.ntmps55
    go_wp2
    go_ret2
    exact .inr ⟨hno.out, rfl, Below.refl _ _⟩
  · by_cases h64 : 64 < n
    · have hno : Hid (¬ ShareOk x n) := fun h => by have := h.2.1; omega
      have hb0 : ((n : Int) == 0) = false := by rw [beq_eq_false_iff_ne]; omega
      have hb1 : decide ((64 : Int) < (n : Int)) = true := decide_eq_true (by omega)
      clear hr
      go_enter Try.func55, Try.ntmps55
      go_wp2
      go_ret2
      exact .inr ⟨hno.out, rfl, Below.refl _ _⟩
    · obtain ⟨ad, rfl, hcell⟩ := hr (by omega)
      have HR := Lib.hid hcell
      have hb0 : ((n : Int) == 0) = false := by rw [beq_eq_false_iff_ne]; omega
      have hb1 : decide ((64 : Int) < (n : Int)) = false := decide_eq_false (by omega)
      have hn : n ≤ 64 := by omega
      have hn1 : 1 ≤ n := by omega
      clear hr hcell h0 h64
      go_enter Try.func55, Try.ntmps55
      go_wp2_with fail
      clear hb0 hb1
      go_loop [4, 5] (fun v4 v5 => ∃ i : Nat, v5 = .int .i64 i ∧ i ≤ n ∧ v4 = .int .i64 (sumTo x i) ∧ Hid (∀ k, k < i → -1099511627776 ≤ x k ∧ x k ≤ 1099511627776)) (fun _ v5 => n - (intOf v5).toNat)
      case atStart => exact ⟨0, rfl, by omega, rfl, fun k hk => by omega⟩
      case round =>
        obtain ⟨i, rfl, hi, rfl, HB⟩ := hrel
        have hs := sumTo_bd' HB.out (by omega)
        obtain ⟨z, ez⟩ : ∃ z, z = sumTo x i := ⟨_, rfl⟩
        rw [← ez] at hs ⊢
        have EZ := Lib.hid ez
        obtain ⟨hs1, hs2⟩ := hs
        clear ez
        by_cases hlt : i < n
        · have hltz : (i : Int) < (n : Int) := by omega
          obtain ⟨y, ey⟩ : ∃ y, y = x i := ⟨_, rfl⟩
          have cx := HR.out i hlt
          rw [← ey] at cx
          have EY := Lib.hid ey
          clear ey
          by_cases hg : 1099511627776 < y
          · have hno : Hid (¬ ShareOk x n) := fun h => by have := h.2.2.1 i hlt; rw [← EY.out] at this; omega
            have hd : decide ((1099511627776 : Int) < y) = true := decide_eq_true hg
            go_wp2
            go_ret2
            exact .inr ⟨hno.out, rfl, Below.refl _ _⟩
          · have hd : decide ((1099511627776 : Int) < y) = false := decide_eq_false hg
            by_cases hl : y < -1099511627776
            · have hno : Hid (¬ ShareOk x n) := fun h => by have := h.2.2.1 i hlt; rw [← EY.out] at this; omega
              have hd2 : decide (y < (-1099511627776 : Int)) = true := decide_eq_true hl
              go_wp2
              go_ret2
              exact .inr ⟨hno.out, rfl, Below.refl _ _⟩
            · have hd2 : decide (y < (-1099511627776 : Int)) = false := decide_eq_false hl
              go_wp2
              go_round
              case rel =>
                refine ⟨i + 1, by go_num, by omega, ?_, fun k hk => ?_⟩
                · rw [sumTo, ← EZ.out, ← EY.out]
                · by_cases e : k = i
                  · rw [e, ← EY.out]; omega
                  · exact HB.out k (by omega)
              case measure => simp [intOf]; omega
        · have e : i = n := by omega
          subst e
          by_cases hp : z ≤ 0
          · have hno : Hid (¬ ShareOk x i) := fun h => by have := h.2.2.2; rw [← EZ.out] at this; omega
            have hd : decide (z ≤ 0) = true := decide_eq_true hp
            go_wp2
            go_ret2
            exact .inr ⟨hno.out, rfl, Below.refl _ _⟩
          · have hd : decide (z ≤ 0) = false := decide_eq_false hp
            have hz1 : 1 ≤ z := by omega
            have HM := Lib.hid (make_ints i (by omega))
            go_upto_region 12 with (fail)
            clear hd hp
            go_cut [6, 7] (fun v6 v7 wc => ∃ bn br : Nat, v6 = .slice (some ⟨bn, 0, none⟩) i i ∧ v7 = .slice (some ⟨br, 0, none⟩) i i ∧ Aside (RsW w i bn br (fun _ => 0) (fun _ => 0) wc))
            case first =>
              have hm := HM.out
              clear HM
              rw [arrI_made] at hm
              go_region
              all_goals go_wp2_with fail
              all_goals go_meet
              all_goals
                case rel =>
                  refine ⟨_, _, rfl, rfl, ?_⟩
                  refine (show RsW _ _ _ _ _ _ _ from ?_)
                  constructor <;> first | omega | (simp (disch := omega) only [heap_drew, heap_alloc_if, World.size_alloc, if_neg, ↓reduceIte]; done) | ((repeat (first | exact Below.refl _ _ | apply Below.drew | refine Below.alloc ?_ ?_ _)) <;> (simp <;> omega))
            case rest =>
              clear HM
              obtain ⟨bn, br, rfl, rfl, HW⟩ := hcut
              have HBA := HB
              have HZ := EZ
              clear HB EZ
              go_wp2_with fail
              go_loopg [8, 9] i (fun k v8 v9 wr => ∃ (j : Nat) (f g : Nat → Int), v9 = .int .i64 j ∧ j ≤ i ∧ i ≤ j + k ∧ v8 = .int .i64 (65536 - sumTo (shOf x z) j) ∧ Aside (RsW w i bn br f g wr) ∧ Hid (∀ q, q < j → f q = shOf x z q) ∧ Hid (∀ q : Nat, q < j → g q = keyOf x z q))
              case atStart => exact ⟨0, _, _, rfl, by omega, by omega, rfl, HW, fun q h => by omega, fun q h => by omega⟩
              case round =>
                clear HW
                obtain ⟨j, f, g, rfl, hj, hk, rfl, HW, HF, HG⟩ := hrel
                by_cases hlt2 : j < i
                · have hltz : (j : Int) < (i : Int) := by omega
                  obtain ⟨y, ey⟩ : ∃ y, y = x j := ⟨_, rfl⟩
                  obtain ⟨q, eq⟩ : ∃ q, q = 65536 * y / z := ⟨_, rfl⟩
                  have ESH : Hid (shOf x z j = q) := (show _ = _ by rw [eq, ey]; rfl)
                  obtain ⟨hy1, hy2⟩ : -1099511627776 ≤ y ∧ y ≤ 1099511627776 := by rw [ey]; exact HBA.out j hlt2
                  have hf := div_bd (65536 * y) z (by omega) (by omega : -72057594037927936 ≤ 65536 * y) (by omega)
                  rw [← eq] at hf
                  obtain ⟨hf1, hf2⟩ := hf
                  have hkey := key_bd (x := x) (k := j) hz1
                  have EK : Hid (keyOf x z j = 65536 * y - q * z) := (show _ = _ by unfold keyOf restOf; rw [Int.toNat_natCast, ESH.out, ey])
                  rw [EK.out] at hkey
                  obtain ⟨hkey1, hkey2⟩ := hkey
                  have hqz : -1152921504606846976 ≤ q * z ∧ q * z ≤ 1152921504606846976 := by omega
                  obtain ⟨hqz1, hqz2⟩ := hqz
                  have hsm := sumTo_bd (f := shOf x z) (n := i) (B := 72057594037927936) (by omega) (fun k hk => sh_bd hz1 (HBA.out k hk)) j hj
                  have hjb : (j : Int) * 72057594037927936 ≤ 64 * 72057594037927936 := Int.mul_le_mul_of_nonneg_right (by omega) (by omega)
                  obtain ⟨u, eu⟩ : ∃ u, u = sumTo (shOf x z) j := ⟨_, rfl⟩
                  have EU := Lib.hid eu
                  rw [← eu] at hsm ⊢
                  have hu1 : -4611686018427387904 ≤ u := by have := hsm.1; omega
                  have hu2 : u ≤ 4611686018427387904 := by have := hsm.2; omega
                  have EQ := Lib.hid eq
                  have cx : wr.cell? (ad.add j) = some (.int .i64 y) := by
                    have h := HR.out j hlt2
                    rw [HW.out.below.cell (World.block_lt_of_cell? _ _ h), h, ey]
                  have HFL : Hid (∀ W, Calls Try.prog 53 #[.int .i64 (65536 * y), .int .i64 z] W fun e w' => e = .returned (.int .i64 q) ∧ W = w') := fun W => by
                    rw [EQ.out]; exact rfloor_calls (65536 * y) z W (by omega) (by omega) (by omega)
                  clear eu eq ey hsm hjb
                  have l4 := (bcell HW.out.i1 j).trans (arrI_get i f j hlt2)
                  have f4 := bfree HW.out.i1 j
                  go_upto_region 18 with (go_at_call 53; refine (HFL.out _).mono ?_; rintro e w' ⟨rfl, rfl⟩)
                  have HW1 : Aside (RsW w i bn br (upd f j q) g (wr.setCell ⟨bn, j, none⟩ (.int .i64 q))) := HW.out.set1 j q
                  have cx1 : (wr.setCell ⟨bn, j, none⟩ (.int .i64 q)).cell? (ad.add j) = some (.int .i64 y) := by
                    have h := HR.out j hlt2
                    rw [HW1.out.below.cell (World.block_lt_of_cell? _ _ h), h]
                    rw [HW.out.below.cell (World.block_lt_of_cell? _ _ h), h] at cx
                    exact cx
                  clear cx l4 f4
                  generalize wr.setCell ⟨bn, j, none⟩ (.int .i64 q) = w1 at HW1 cx1 ⊢
                  have l4 := (bcell HW1.out.i1 j).trans (arrI_get i _ j hlt2)
                  rw [upd_same] at l4
                  have l5 := (bcell HW1.out.i2 j).trans (arrI_get i _ j hlt2)
                  have f5 := bfree HW1.out.i2 j
                  have w1_ : IntKind.i64.wrap (65536 * y) = 65536 * y := IntWalk.i64_in _ (by omega)
                  have w2_ : IntKind.i64.wrap (q * z) = q * z := IntWalk.i64_in _ (by omega)
                  have w3_ : IntKind.i64.wrap (65536 * y - q * z) = 65536 * y - q * z := IntWalk.i64_in _ (by omega)
                  go_cut [] (fun wc => Aside (RsW w i bn br (upd f j q) (upd g j (65536 * y - q * z)) wc))
                  case first =>
                    go_region
                    all_goals go_wp2_with fail
                    all_goals go_meet
                    all_goals
                      case rel => exact (HW1.out.set2 j (65536 * y - q * z)).drew
                  case rest =>
                    clear l4 l5 f5 cx1 w1_ w2_ w3_ HW HW1 HFL
                    have HW : Aside (RsW w i bn br (upd f j q) (upd g j (65536 * y - q * z)) wc) := hcut
                    clear hcut
                    have l4 := (bcell HW.out.i1 j).trans (arrI_get i _ j hlt2)
                    rw [upd_same] at l4
                    go_wp2
                    go_roundg (i - (j + 1))
                    case measure => omega
                    case rel =>
                      refine ⟨j + 1, upd f j q, upd g j (65536 * y - q * z), by go_num, by omega, by omega, ?_, HW, fun p h => ?_, fun p h => ?_⟩
                      · rw [sumTo, ESH.out, ← EU.out]; first | rfl | (congr 1; omega)
                      · by_cases e : p = j
                        · rw [e, upd_same, ESH.out]
                        · rw [upd_other _ e]; exact HF.out p (by omega)
                      · by_cases e : p = j
                        · rw [e, upd_same, EK.out]
                        · rw [upd_other _ e]; exact HG.out p (by omega)
                · have hltz : ¬ (j : Int) < (i : Int) := by omega
                  have e : j = i := by omega
                  subst e
                  have lb := left_bd (x := x) hz1 hn1 HZ.out
                  obtain ⟨lf, hlf⟩ := Int.eq_ofNat_of_zero_le lb.1
                  have hlf1 : lf < j := by omega
                  have HLF : Hid (65536 - sumTo (shOf x z) j = (lf : Int)) := hlf
                  rw [hlf]
                  clear lb hlf
                  go_wp2_with fail
                  go_loopg [8, 10, 11] (lf + 1) (fun k v8 v10 v11 wr => ∃ (t : Nat) (S : Nat → Bool) (f g : Nat → Int), v8 = .int .i64 t ∧ t ≤ lf ∧ t + 1 ≤ k ∧ Aside (RsW w j bn br f g wr) ∧ Hid (TopSet (keyOf x z) j (lf - t) S) ∧ Hid (∀ q, q < j → f q = shOf x z q + ((S q).toNat : Int)) ∧ Hid (∀ q : Nat, q < j → g q = if S q then -1 else keyOf x z q))
                  case atStart => exact ⟨lf, fun _ => false, f, g, rfl, by omega, by omega, HW, (show TopSet _ _ _ _ by rw [Nat.sub_self]; exact TopSet.zero _ _), fun q hq => by rw [HF.out q hq]; simp, fun q hq => by rw [HG.out q hq]; simp⟩
                  case round =>
                    clear HW HF HG f g
                    obtain ⟨t, S, f, g, rfl, ht, hk2, HW, HS, HF, HG⟩ := hrel
                    by_cases hlt3 : 0 < t
                    · have hltz3 : (0 : Int) < (t : Int) := by omega
                      go_wp2_with fail
                      go_loopg [10, 11] (j + 1) (fun k v10 v11 wr => ∃ (b p : Nat), v10 = .int .i64 b ∧ v11 = .int .i64 p ∧ b < p ∧ p ≤ j ∧ j + 1 ≤ p + k ∧ Aside (RsW w j bn br f g wr) ∧ Hid (∀ q, q < p → g q ≤ g b ∧ (q < b → g q < g b)))
                      case atStart => exact ⟨0, 1, rfl, rfl, by omega, by omega, by omega, HW, fun q hq => by rw [show q = 0 by omega]; exact ⟨Int.le_refl _, fun h => by omega⟩⟩
                      case round =>
                        clear HW
                        obtain ⟨b, p, rfl, rfl, hbp, hpj, hk3, HW, HM⟩ := hrel
                        by_cases hlt4 : p < j
                        · have hltz4 : (p : Int) < (j : Int) := by omega
                          obtain ⟨u, eu⟩ : ∃ u, u = g p := ⟨_, rfl⟩
                          obtain ⟨v, ev⟩ : ∃ v, v = g b := ⟨_, rfl⟩
                          have l1 := (bcell HW.out.i2 p).trans (arrI_get j g p hlt4)
                          have l2 := (bcell HW.out.i2 b).trans (arrI_get j g b (by omega))
                          rw [← eu] at l1
                          rw [← ev] at l2
                          have EU := Lib.hid eu
                          have EV := Lib.hid ev
                          have hbz : (b : Int) < (j : Int) := by omega
                          clear eu ev
                          by_cases hc : v < u
                          · have hd : decide (v < u) = true := decide_eq_true hc
                            go_wp2_with fail
                            go_quiet (fail)
                            have S2 : Aside (RsW w j bn br f g (wr.drewN nq)) := ⟨⟨HW.out.below.os, HW.out.below.tape, HW.out.below.output, HW.out.below.size, HW.out.below.block⟩, HW.out.hn, HW.out.hr, HW.out.nr, HW.out.i1, HW.out.i2⟩
                            clear l1 l2 HW
                            go_wp2
                            go_roundg (j + 1 - (p + 1))
                            case measure => omega
                            case rel =>
                              refine ⟨p, p + 1, rfl, by go_num, by omega, by omega, by omega, S2, fun q hq => ?_⟩
                              rw [EU.out, EV.out] at hc
                              by_cases e : q = p
                              · rw [e]; exact ⟨Int.le_refl _, fun h => by omega⟩
                              · have := HM.out q (by omega); exact ⟨by omega, fun _ => by omega⟩
                          · have hd : decide (v < u) = false := decide_eq_false hc
                            go_wp2_with fail
                            go_quiet (fail)
                            have S2 : Aside (RsW w j bn br f g (wr.drewN nq)) := ⟨⟨HW.out.below.os, HW.out.below.tape, HW.out.below.output, HW.out.below.size, HW.out.below.block⟩, HW.out.hn, HW.out.hr, HW.out.nr, HW.out.i1, HW.out.i2⟩
                            clear l1 l2 HW
                            go_wp2
                            go_roundg (j + 1 - (p + 1))
                            case measure => omega
                            case rel =>
                              refine ⟨b, p + 1, rfl, by go_num, by omega, by omega, by omega, S2, fun q hq => ?_⟩
                              by_cases e : q = p
                              · rw [e, ← EU.out, ← EV.out]; exact ⟨by omega, fun h => by omega⟩
                              · exact HM.out q (by omega)
                        · have hltz4 : ¬ (p : Int) < (j : Int) := by omega
                          have e : p = j := by omega
                          subst e
                          have hfree := HS.out.free (by omega : lf - t < p)
                          have hpick : S b = false := by
                            obtain ⟨q, q1, q2⟩ := hfree
                            cases hSb : S b with
                            | false => rfl
                            | true =>
                              exfalso
                              have h1 := (HM.out q q1).1
                              rw [HG.out b (by omega), HG.out q q1, hSb, q2] at h1
                              have := (key_bd (x := x) (k := q) hz1).1
                              simp at h1; omega
                          have hgb : g b = keyOf x z b := by rw [HG.out b (by omega), hpick]; rfl
                          have STEP := Lib.hid (HS.out.step b hbp hpick fun q q1 q2 q3 => by
                            have h1 := HM.out q q1
                            have hgq : g q = keyOf x z q := by rw [HG.out q q1, q2]; rfl
                            rw [hgb, hgq] at h1
                            unfold Ahead
                            rcases Nat.lt_trichotomy q b with h | h | h
                            · have := h1.2 h; omega
                            · omega
                            · have := h1.1; omega)
                          have HPK := Lib.hid hpick
                          clear hfree hpick hgb HM HS
                          obtain ⟨v, ev⟩ : ∃ v, v = f b := ⟨_, rfl⟩
                          have bv : -1152921504606846976 ≤ v ∧ v ≤ 1152921504606846976 := by
                            rw [ev, HF.out b hbp]
                            have := sh_bd (k := b) hz1 (HBA.out b hbp)
                            cases S b <;> simp <;> omega
                          obtain ⟨bv1, bv2⟩ := bv
                          have l1 := (bcell HW.out.i1 b).trans (arrI_get p f b hbp)
                          have f1 := bfree HW.out.i1 b
                          have l2 := (bcell HW.out.i2 b).trans (arrI_get p g b hbp)
                          have f2 := bfree HW.out.i2 b
                          rw [← ev] at l1
                          have EV := Lib.hid ev
                          have hne : (bn = br) = False := eq_false HW.out.nr
                          have hne' : (br = bn) = False := eq_false (Ne.symm HW.out.nr)
                          have hbz : (b : Int) < (p : Int) := by omega
                          have HW2 : Aside (RsW w p bn br (upd f b (v + 1)) (upd g b (-1)) ((wr.setCell ⟨bn, b, none⟩ (.int .i64 (v + 1))).setCell ⟨br, b, none⟩ (.int .i64 (-1)))) := (HW.out.set1 b (v + 1)).set2 b (-1)
                          clear ev HW
                          go_wp2
                          go_roundg t
                          case measure => omega
                          case rel =>
                            refine ⟨t - 1, fun k => S k || k == b, upd f b (v + 1), upd g b (-1), by go_num, by omega, by omega, HW2, ?_, fun q hq => ?_, fun q hq => ?_⟩
                            · have := STEP.out
                              rwa [show lf - t + 1 = lf - (t - 1) by omega] at this
                            · by_cases e : q = b
                              · rw [e, upd_same, EV.out, HF.out b hbp, HPK.out]; simp
                              · rw [upd_other _ e, HF.out q hq, pick_other e]
                            · by_cases e : q = b
                              · rw [e, upd_same]; simp
                              · rw [upd_other _ e, HG.out q hq, pick_other e]
                    · have hltz3 : ¬ (0 : Int) < (t : Int) := by omega
                      have e : t = 0 := by omega
                      subst e
                      go_wp2
                      go_ret2
                      refine .inl ⟨⟨hn1, hn, HBA.out, by rw [← HZ.out]; omega⟩, bn, S, rfl, ?_⟩
                      rw [← HZ.out]
                      refine ⟨HW.out.hn, ?_, HW.out.below, ?_⟩
                      · rw [HW.out.i1, arrI_congr HF.out]
                      · rw [HLF.out]; exact HS.out
end Go.Proofs.Ytdcpeeolfgohmaa
