/- The law KernelRows: the walk. -/
import Derived.Test.YtbogemlkdncafaaRefB
import Derived.Test.YtbogemlkdncafaaLawSh
namespace Go.Proofs.Ytbogemlkdncafaa
open Go.RowKit Go.Proofs.YtbogemlkdncafaaW.PrintWords
set_option linter.unusedSimpArgs false
set_option linter.unusedVariables false

def RowGot (w : World) (L : List Int) (er : Int) (e : Ending) (w' : World) : Prop :=
  ∃ A c, e = .returned (.tuple #[.slice A L.length c, .int .i64 er]) ∧ RowI w' A L.length (fun k => rd L (k : Int)) ∧ Below w.heap.size w w'
theorem RowErr.got {w w' : World} {L : List Int} {er : Int} {e : Ending} (h : RowErr w L er e w') : RowGot w L er e w' := by
  obtain ⟨A, c, he, ho, hb⟩ := h
  exact ⟨A, c, he, own_rowI ho, hb⟩
theorem kBin_got (r : Int) (w : World) : Calls Try.prog 21 #[.int .i64 r] w fun e w' => RowGot w (binRow r) (binErr r) e w' := (kBinomial_calls r w).mono fun _ _ h => h.got
theorem rBin_got (r : Int) (w : World) : Calls Try.prog 20 #[.int .i64 r] w fun e w' => RowGot w (binRow r) (binErr r) e w' := (rBinomial_calls r w).mono fun _ _ h => h.got
theorem kFl_got (r : Int) (w : World) : Calls Try.prog 23 #[.int .i64 r] w fun e w' => RowGot w (flatRow r) (flatErr r) e w' := (kFlat_calls r w).mono fun _ _ h => h.got
theorem rFl_got (r : Int) (w : World) : Calls Try.prog 22 #[.int .i64 r] w fun e w' => RowGot w (flatRow r) (flatErr r) e w' := (rFlat_calls r w).mono fun _ _ h => h.got

def rowX (r : Int) (k : Nat) : Int := rd (binRow r) (k : Int)
theorem rows_facts : ∀ m : Nat, m ≤ 8 → (binRow (m : Int)).length = 2 * m + 1 ∧ binErr (m : Int) = 0 ∧ (∀ k, k < 2 * m + 1 → rowX m k = rowX m (2 * m - k) ∧ 0 ≤ rowX m k ∧ rowX m k ≤ 65536) ∧ sumTo (rowX m) (2 * m + 1) = 2 ^ (2 * m) := by decide +kernel
theorem bin_cases (r : Int) : (∃ m : Nat, m ≤ 8 ∧ r = (m : Int)) ∨ (binErr r = 91 ∧ binRow r = []) := by
  by_cases h : 0 ≤ r ∧ r ≤ 8
  · exact .inl ⟨r.toNat, by omega, by omega⟩
  · exact .inr ⟨if_neg h, if_neg h⟩

set_option maxHeartbeats 3200000 in
set_option maxRecDepth 100000 in
theorem lawRows_calls (r : Int) (w : World) :
    Calls Try.prog 11 #[.int .i64 r] w fun e w' => e = .returned (.bool true) ∧ Below w.heap.size w w' := by
  obtain ⟨n, en⟩ : ∃ n, n = (binRow r).length := ⟨_, rfl⟩
  obtain ⟨nf, enf⟩ : ∃ n, n = (flatRow r).length := ⟨_, rfl⟩
  obtain ⟨er, eer⟩ : ∃ n, n = binErr r := ⟨_, rfl⟩
  obtain ⟨ef, eef⟩ : ∃ n, n = flatErr r := ⟨_, rfl⟩
  obtain ⟨x, ex⟩ : ∃ x : Nat → Int, x = rowX r := ⟨_, rfl⟩
  obtain ⟨y, ey⟩ : ∃ y : Nat → Int, y = fun k : Nat => rd (flatRow r) (k : Int) := ⟨_, rfl⟩
  have HK := Lib.hid fun W => kBin_got r W
  have HR := Lib.hid fun W => rBin_got r W
  have HKF := Lib.hid fun W => kFl_got r W
  have HRF := Lib.hid fun W => rFl_got r W
  have hnn : n ≤ 17 := by
    rcases bin_cases r with ⟨m, hm, rfl⟩ | h
    · rw [en, (rows_facts m hm).1]; omega
    · rw [en, h.2]; simp
  have hnf : nf ≤ 63 := by rw [enf]; unfold flatRow; split <;> simp; omega
  have EN := Lib.hid en
  have EER := Lib.hid eer
  have EX := Lib.hid ex
  unfold RowGot at HK HR HKF HRF
  change Hid (∀ W, Calls Try.prog _ _ _ fun e w' => ∃ A c, e = .returned (.tuple #[.slice A (binRow r).length c, .int .i64 (binErr r)]) ∧ RowI w' A (binRow r).length (rowX r) ∧ Below W.heap.size W w') at HK HR
  rw [← ey] at HKF HRF
  rw [← en, ← eer, ← ex] at HK HR
  rw [← enf, ← eef] at HKF HRF
  clear en enf eer eef ex ey
  go_enter Try.func11, Try.ntmps11
  go_upto_region 3 with (go_at_call 12; refine (known_calls _).mono ?_; rintro e1 w1 ⟨rfl, hb⟩; have HB1 := Lib.hid hb; clear hb)
  go_upto_region 4 with (go_at_call 20; refine (HR.out _).mono ?_; rintro e2 w2 ⟨A2, c2, rfl, hr, hb⟩; have HR2 := Lib.hid hr; have HB2 := Lib.hid (below_join HB1.out hb); clear hr hb HB1)
  go_upto_region 5 with (go_at_call 21; refine (HK.out _).mono ?_; rintro e3 w3 ⟨A3, c3, rfl, hr, hb⟩; have HS3 := Lib.hid hr; have HR3 := Lib.hid (HR2.out.below hb); have HB3 := Lib.hid (below_join HB2.out hb); clear hr hb HB2 HR2)
  go_upto_region 6 with (go_at_call 22; refine (HRF.out _).mono ?_; rintro e4 w4 ⟨A4, c4, rfl, hr, hb⟩; have HT4 := Lib.hid hr; have HS4 := Lib.hid (HS3.out.below hb); have HR4 := Lib.hid (HR3.out.below hb); have HB4 := Lib.hid (below_join HB3.out hb); clear hr hb HB3 HR3 HS3)
  go_upto_region 7 with (go_at_call 23; refine (HKF.out _).mono ?_; rintro e5 w5 ⟨A5, c5, rfl, hr, hb⟩; have HU5 := Lib.hid hr; have HT5 := Lib.hid (HT4.out.below hb); have HS5 := Lib.hid (HS4.out.below hb); have HR5 := Lib.hid (HR4.out.below hb); have HB5 := Lib.hid (below_join HB4.out hb); clear hr hb HB4 HR4 HS4 HT4)
  have hbe : (er != er) = false := bne_self_eq_false _
  have hbf : (ef != ef) = false := bne_self_eq_false _
  go_wp2_with (first
    | (go_at_call 18; with_reducible refine (ints_yes w5 A3 A2 n c3 c2 x x HS5.out HR5.out (by omega) (fun _ _ => rfl)).mono ?_; rintro e6 w6 ⟨rfl, hd⟩; have HS6 := Lib.hid (HS5.out.below hd.below); have HU6 := Lib.hid (HU5.out.below hd.below); have HT6 := Lib.hid (HT5.out.below hd.below); have HB6 := Lib.hid (below_join HB5.out hd.below); clear hd HB5 HS5 HU5 HT5 HR5)
    | (go_at_call 18; with_reducible refine (ints_yes w6 A5 A4 nf c5 c4 y y HU6.out HT6.out (by omega) (fun _ _ => rfl)).mono ?_; rintro e7 w7 ⟨rfl, hd⟩; have HS7 := Lib.hid (HS6.out.below hd.below); have HB7 := Lib.hid (below_join HB6.out hd.below); clear hd HB6 HS6 HU6 HT6))
  clear hbe hbf HK HR HKF HRF
  rcases bin_cases r with ⟨m, hm, rfl⟩ | hno
  · obtain ⟨f1, f2, f3, f4⟩ := rows_facts m hm
    have e1 : n = 2 * m + 1 := by rw [EN.out]; exact f1
    have e2 : er = 0 := by rw [EER.out]; exact f2
    subst e2
    rw [← EX.out] at f3 f4
    rw [← e1] at f3 f4
    obtain ⟨ax, rfl, cx⟩ := HS7.out (by omega)
    have CX := Lib.hid cx
    have F3 : Hid (∀ k, k < n → x k = x (n - 1 - k) ∧ 0 ≤ x k ∧ x k ≤ 65536) := (show _ from fun k hk => by have := f3 k hk; rw [show n - 1 - k = 2 * m - k by omega]; exact this)
    have F4 := Lib.hid f4
    have E1 := Lib.hid e1
    have hn1 : 1 ≤ n := by omega
    clear cx f1 f2 f3 f4 e1 EN EER EX
    go_loopg [11, 12] n (fun kq v11 v12 wr => ∃ i : Nat, v12 = .int .i64 i ∧ v11 = .int .i64 (sumTo x i) ∧ i ≤ n ∧ n ≤ i + kq ∧ Aside (Drawn0 w7 wr))
    case atStart => exact ⟨0, rfl, rfl, by omega, by omega, Drawn0.refl _⟩
    case round =>
      obtain ⟨i, rfl, rfl, hi, hk, HD0⟩ := hrel
      obtain ⟨qn, rfl⟩ := HD0.out.out
      by_cases hlt : i < n
      · have hltz : (i : Int) < (n : Int) := by omega
        obtain ⟨q, eq⟩ : ∃ q, q = n - 1 - i := ⟨_, rfl⟩
        obtain ⟨p, ep⟩ : ∃ p, p = x i := ⟨_, rfl⟩
        obtain ⟨t, et⟩ : ∃ t, t = sumTo x i := ⟨_, rfl⟩
        have c1 := CX.out i hlt
        have c2 := CX.out q (by omega)
        have hs := F3.out i hlt
        rw [← eq] at hs
        rw [← hs.1] at c2
        rw [← ep] at c1 c2 hs
        have hp0 := hs.2.1
        have hp1 := hs.2.2
        have ht := sumTo_bd (f := x) (n := n) (B := 65536) (by omega) (fun k hk => by have := F3.out k hk; omega) i hi
        have ht2 : (i : Int) * 65536 ≤ 17 * 65536 := Int.mul_le_mul_of_nonneg_right (by omega) (by omega)
        rw [← et] at ht ⊢
        have ht3 : -1200000 ≤ t := by omega
        have ht4 : t ≤ 1200000 := by omega
        have hb : (p != p) = false := bne_self_eq_false p
        have hq0 : (q : Int) < (n : Int) := by omega
        have WT : IntKind.i64.wrap (t + p) = t + p := IntWalk.i64_in _ (by omega)
        have W1 : IntKind.i64.wrap ((n : Int) - 1) = (n : Int) - 1 := IntWalk.i64_in _ (by omega)
        have W2 : IntKind.i64.wrap ((n : Int) - 1 - (i : Int)) = (q : Int) := by rw [IntWalk.i64_in _ (by omega)]; omega
        have EP := Lib.hid ep
        have ET := Lib.hid et
        clear ep et hs ht ht2 eq
        go_wp2
        repeat (go_quiet (fail); try go_wp2)
        go_roundg (n - (i + 1))
        case measure => omega
        case rel => exact ⟨i + 1, by go_num, by rw [sumTo, ← ET.out, ← EP.out], by omega, by omega, Drawn0.mk ⟨_, rfl⟩⟩
      · have hltz : ¬ (i : Int) < (n : Int) := by omega
        have e : i = n := by omega
        subst e
        have hs : sumTo x i = 2 ^ (2 * m) := F4.out
        have hb0 : ((0 : Int) != 0) = false := rfl
        rw [hs]
        clear hs hltz
        have HB8 := Lib.hid (below_join HB7.out HD0.out.below)
        clear HD0 HB7 HS7 F3 F4 E1 CX hi hk hlt hnn hn1
        rcases (show m = 0 ∨ m = 1 ∨ m = 2 ∨ m = 3 ∨ m = 4 ∨ m = 5 ∨ m = 6 ∨ m = 7 ∨ m = 8 by omega) with rfl | rfl | rfl | rfl | rfl | rfl | rfl | rfl | rfl
        all_goals
          go_wp2
          go_ret
          exact ⟨rfl, HB8.out⟩
  · obtain ⟨h1, h2⟩ := hno
    have e1 : n = 0 := by rw [EN.out, h2]; rfl
    have e2 : er = 91 := by rw [EER.out, h1]
    subst e1 e2
    clear EN EER EX h1 h2 HS7
    go_loopg [12] 0 (fun kq v12 wr => v12 = .int .i64 0 ∧ wr = w7)
    case atStart => exact ⟨rfl, rfl⟩
    case round =>
      obtain ⟨rfl, rfl⟩ := hrel
      have hb0 : ((91 : Int) != 0) = true := rfl
      go_wp2
      go_ret
      exact ⟨rfl, HB7.out⟩
end Go.Proofs.Ytbogemlkdncafaa
