/- slices.Collect; warp.Spots and halideref28.Spots: the walks. -/
import Derived.Test.YtdcpeeolfgohmaaWsC
import Derived.Test.YtdcpeeolfgohmaaWsD
namespace Go.Proofs.Ytdcpeeolfgohmaa
open Go.RowKit Go.Proofs.YtdcpeeolfgohmaaW.PrintWords
set_option linter.unusedSimpArgs false
set_option linter.unusedVariables false
attribute [local go_sem] Oper.semAt_some

set_option maxRecDepth 100000 in
theorem collect_calls (kind border : Int) (t : Wp) (W H x y : Int) (w : World) (b : Nat) (hb3 : b + 3 ≤ w.heap.size) (hr : RightIn kind border t W H) (hb : Boxes b kind border t W H x y w) (hx : 0 ≤ x ∧ x ≤ 1024) (hy : 0 ≤ y ∧ y ≤ 1024) :
    Calls Try.prog 67 #[.func (.func 102) #[] #[.pointer (some ⟨b, 0, none⟩), .pointer (some ⟨b + 1, 0, none⟩), .pointer (some ⟨b + 2, 0, none⟩)]] w fun e w' => ∃ v, e = .returned v ∧ SpotsEnd w kind border t W H x y v w' := by
  have HA := Lib.hid ((callsIn_wide (n := 9)).1 (appendSeq_in kind border t W H x y w b hb3 hr hb hx hy))
  clear hr hb hb3
  go_enter Try.func67, Try.ntmps67
  go_wp2_with (go_at_call 101; refine HA.out.mono ?_; rintro e1 w1 ⟨v, L, rfl, hL, hO, hB⟩; have HL := Lib.hid hL; have HO := Lib.hid hO; have HB := Lib.hid hB; clear hL hO hB)
  go_ret
  exact ⟨_, rfl, _, HL.out, HO.out, HB.out⟩

/-- Why no spots are told. -/
def spotsErr (kind border : Int) (t : Wp) (W H x y : Int) : Int := if rightE kind border t W H ≠ 0 then rightE kind border t W H else if x < 0 ∨ 1024 ≤ x ∨ y < 0 ∨ 1024 ≤ y then 282 else 0
def SpotsRet (w : World) (kind border : Int) (t : Wp) (W H x y : Int) (e : Ending) (w' : World) : Prop :=
  (spotsErr kind border t W H x y ≠ 0 ∧ e = .returned (.tuple #[.slice none 0 0, .int .i64 (spotsErr kind border t W H x y)]) ∧ Below w.heap.size w w') ∨
  (spotsErr kind border t W H x y = 0 ∧ ∃ v, e = .returned (.tuple #[v, .int .i64 0]) ∧ SpotsEnd w kind border t W H x y v w')
theorem SpotsRet.err {w w' : World} {kind border : Int} {t : Wp} {W H x y er : Int} (h : spotsErr kind border t W H x y = er) (h0 : er ≠ 0) (hb : Below w.heap.size w w') : SpotsRet w kind border t W H x y (.returned (.tuple #[.slice none 0 0, .int .i64 er])) w' := by
  subst h
  exact .inl ⟨h0, rfl, hb⟩

theorem SpotsEnd.wider {w0 w w' : World} {kind border : Int} {t : Wp} {W H x y : Int} {v : Value} (h : SpotsEnd w kind border t W H x y v w') (hb : Below w0.heap.size w0 w) : SpotsEnd w0 kind border t W H x y v w' := by
  obtain ⟨L, h1, h2, h3⟩ := h
  exact ⟨L, h1, h2.base hb.size, ujoin hb h3⟩
set_option maxHeartbeats 3200000 in
set_option maxRecDepth 100000 in
theorem rSpots_calls (w : World) (kind border : Int) (t : Wp) (W H x y : Int) :
    Calls Try.prog 25 #[.int .i64 kind, .int .i64 border, wpV t, .int .i64 W, .int .i64 H, .int .i64 x, .int .i64 y] w fun e w' => SpotsRet w kind border t W H x y e w' := by
  have HWR := Lib.hid fun W' => wrong_calls W' kind border t W H
  have HB0 : Hid (Below w.heap.size w (w.alloc (.cells #[.int .i64 t.A, .int .i64 t.B, .int .i64 t.C, .int .i64 t.D, .int .i64 t.E, .int .i64 t.F, .int .i64 t.Q] 32))) := (show Below _ _ _ from (Below.refl _ _).alloc (Nat.le_refl _) _)
  have HT0 : Hid ((w.alloc (.cells #[.int .i64 t.A, .int .i64 t.B, .int .i64 t.C, .int .i64 t.D, .int .i64 t.E, .int .i64 t.F, .int .i64 t.Q] 32)).heap[w.heap.size]? = some (.cells (wpC t) 32)) := (show _ = _ from heap_alloc_new w _)
  unfold wpV wpC WGives at HWR
  unfold wpV wpC
  by_cases hr : rightE kind border t W H = 0
  · have HRI := Lib.hid (rightE_in hr)
    rw [hr] at HWR
    have h0 : ∀ er, (if x < 0 ∨ 1024 ≤ x ∨ y < 0 ∨ 1024 ≤ y then (282 : Int) else 0) = er → spotsErr kind border t W H x y = er := fun er h => by unfold spotsErr; rw [if_neg (fun hc => hc hr)]; exact h
    have H0 := Lib.hid h0
    clear hr h0
    by_cases x1 : x < 0
    · have HE : Hid (spotsErr kind border t W H x y = 282) := (show _ = _ from H0.out _ (if_pos (.inl x1)))
      clear HRI H0
      go_enter Try.func25, Try.ntmps25
      go_wp2_with (go_at_call 64; refine (HWR.out _).mono ?_; rintro e1 w1 ⟨rfl, hb⟩; have HB1 := Lib.hid (ujoin HB0.out hb); clear hb)
      go_ret2
      exact SpotsRet.err HE.out (by decide) HB1.out
    · skip
      by_cases x2 : 1024 ≤ x
      · have HE : Hid (spotsErr kind border t W H x y = 282) := (show _ = _ from H0.out _ (if_pos (.inr (.inl x2))))
        clear HRI H0
        go_enter Try.func25, Try.ntmps25
        go_wp2_with (go_at_call 64; refine (HWR.out _).mono ?_; rintro e1 w1 ⟨rfl, hb⟩; have HB1 := Lib.hid (ujoin HB0.out hb); clear hb)
        go_ret2
        exact SpotsRet.err HE.out (by decide) HB1.out
      · skip
        by_cases y1 : y < 0
        · have HE : Hid (spotsErr kind border t W H x y = 282) := (show _ = _ from H0.out _ (if_pos (.inr (.inr (.inl y1)))))
          clear HRI H0
          go_enter Try.func25, Try.ntmps25
          go_wp2_with (go_at_call 64; refine (HWR.out _).mono ?_; rintro e1 w1 ⟨rfl, hb⟩; have HB1 := Lib.hid (ujoin HB0.out hb); clear hb)
          go_ret2
          exact SpotsRet.err HE.out (by decide) HB1.out
        · skip
          by_cases y2 : 1024 ≤ y
          · have HE : Hid (spotsErr kind border t W H x y = 282) := (show _ = _ from H0.out _ (if_pos (.inr (.inr (.inr y2)))))
            clear HRI H0
            go_enter Try.func25, Try.ntmps25
            go_wp2_with (go_at_call 64; refine (HWR.out _).mono ?_; rintro e1 w1 ⟨rfl, hb⟩; have HB1 := Lib.hid (ujoin HB0.out hb); clear hb)
            go_ret2
            exact SpotsRet.err HE.out (by decide) HB1.out
          · skip
            have HE : Hid (spotsErr kind border t W H x y = 0) := (show _ = _ from H0.out _ (if_neg (by omega)))
            clear H0
            have HSP : Hid (∀ W', Calls Try.prog 65 #[.int .i64 kind, .int .i64 border, .agg #[.int .i64 t.A, .int .i64 t.B, .int .i64 t.C, .int .i64 t.D, .int .i64 t.E, .int .i64 t.F, .int .i64 t.Q], .int .i64 W, .int .i64 H, .int .i64 x, .int .i64 y] W' fun e w' => ∃ v, e = .returned v ∧ SpotsEnd W' kind border t W H x y v w') := (show ∀ W', _ from fun W' => by
              have hri := HRI.out
              rcases hri.kd with e | e
              · subst e; exact rspots_near W' border t W H x y hri (by omega) (by omega)
              · subst e; exact rspots_linear W' border t W H x y hri (by omega) (by omega))
            clear HRI
            go_enter Try.func25, Try.ntmps25
            go_wp2_with (first
              | (go_at_call 64; refine (HWR.out _).mono ?_; rintro e1 w1 ⟨rfl, hb⟩; have HB1 := Lib.hid (ujoin HB0.out hb); have HT1 := Lib.hid ((hb.block _ (heap_lt' HT0.out)).trans HT0.out); obtain ⟨c0, c1, c2, c3, c4, c5, c6⟩ := wpC_cells0 HT1.out; clear hb)
              | (go_at_call 65; refine (HSP.out _).mono ?_; rintro e1 w2 ⟨v, rfl, hv⟩; have HV := Lib.hid hv; clear hv))
            go_ret2
            exact .inr ⟨HE.out, v, rfl, HV.out.wider HB1.out⟩
  · have HE : Hid (spotsErr kind border t W H x y = rightE kind border t W H) := (show _ = _ from if_pos hr)
    obtain ⟨er, eer⟩ : ∃ er, er = rightE kind border t W H := ⟨_, rfl⟩
    rw [← eer] at HWR HE hr
    have hz : (er != 0) = true := by rw [bne_iff_ne]; exact hr
    have HNZ := Lib.hid hr
    clear hr eer
    go_enter Try.func25, Try.ntmps25
    go_wp2_with (go_at_call 64; refine (HWR.out _).mono ?_; rintro e1 w1 ⟨rfl, hb⟩; have HB1 := Lib.hid (ujoin HB0.out hb); clear hb)
    go_ret2
    exact SpotsRet.err HE.out HNZ.out HB1.out
set_option maxHeartbeats 3200000 in
set_option maxRecDepth 100000 in
theorem pSpots_calls (w : World) (kind border : Int) (t : Wp) (W H x y : Int) :
    Calls Try.prog 26 #[.int .i64 kind, .int .i64 border, wpV t, .int .i64 W, .int .i64 H, .int .i64 x, .int .i64 y] w fun e w' => SpotsRet w kind border t W H x y e w' := by
  have HWR := Lib.hid fun W' => right_calls W' kind border t W H
  have HB0 : Hid (Below w.heap.size w ((w.alloc (.cells #[.int .i64 t.A, .int .i64 t.B, .int .i64 t.C, .int .i64 t.D, .int .i64 t.E, .int .i64 t.F, .int .i64 t.Q] 32)).alloc (.cells #[.int .i64 kind, .int .i64 border, .int .i64 t.A, .int .i64 t.B, .int .i64 t.C, .int .i64 t.D, .int .i64 t.E, .int .i64 t.F, .int .i64 t.Q, .int .i64 W, .int .i64 H] 115))) := (show Below _ _ _ from ujoin ((Below.refl _ _).alloc (Nat.le_refl _) _) ((Below.refl _ _).alloc (Nat.le_refl _) _))
  have HT0 : Hid (((w.alloc (.cells #[.int .i64 t.A, .int .i64 t.B, .int .i64 t.C, .int .i64 t.D, .int .i64 t.E, .int .i64 t.F, .int .i64 t.Q] 32)).alloc (.cells #[.int .i64 kind, .int .i64 border, .int .i64 t.A, .int .i64 t.B, .int .i64 t.C, .int .i64 t.D, .int .i64 t.E, .int .i64 t.F, .int .i64 t.Q, .int .i64 W, .int .i64 H] 115)).heap[w.heap.size + 1]? = some (.cells (wayC kind border t W H) 115)) := (show _ = _ from by
    have h := heap_alloc_new (w.alloc (.cells #[.int .i64 t.A, .int .i64 t.B, .int .i64 t.C, .int .i64 t.D, .int .i64 t.E, .int .i64 t.F, .int .i64 t.Q] 32)) (.cells (wayC kind border t W H) 115)
    rw [World.size_alloc] at h
    exact h)
  have HTD := Lib.hid fun W' => spots_calls W' kind border t W H x y
  unfold wayV wayC at HTD
  unfold wayV wayC WGives at HWR
  unfold wpV wpC
  by_cases hr : rightE kind border t W H = 0
  · have HRI := Lib.hid (rightE_in hr)
    rw [hr] at HWR
    have h0 : ∀ er, (if x < 0 ∨ 1024 ≤ x ∨ y < 0 ∨ 1024 ≤ y then (282 : Int) else 0) = er → spotsErr kind border t W H x y = er := fun er h => by unfold spotsErr; rw [if_neg (fun hc => hc hr)]; exact h
    have H0 := Lib.hid h0
    clear hr h0
    by_cases x1 : x < 0
    · have HE : Hid (spotsErr kind border t W H x y = 282) := (show _ = _ from H0.out _ (if_pos (.inl x1)))
      clear HRI H0
      go_enter Try.func26, Try.ntmps26
      go_wp2_with (go_at_call 66; refine (HWR.out _).mono ?_; rintro e1 w1 ⟨rfl, hb⟩; have HB1 := Lib.hid (ujoin HB0.out hb); clear hb)
      go_ret2
      exact SpotsRet.err HE.out (by decide) HB1.out
    · skip
      by_cases x2 : 1024 ≤ x
      · have HE : Hid (spotsErr kind border t W H x y = 282) := (show _ = _ from H0.out _ (if_pos (.inr (.inl x2))))
        clear HRI H0
        go_enter Try.func26, Try.ntmps26
        go_wp2_with (go_at_call 66; refine (HWR.out _).mono ?_; rintro e1 w1 ⟨rfl, hb⟩; have HB1 := Lib.hid (ujoin HB0.out hb); clear hb)
        go_ret2
        exact SpotsRet.err HE.out (by decide) HB1.out
      · skip
        by_cases y1 : y < 0
        · have HE : Hid (spotsErr kind border t W H x y = 282) := (show _ = _ from H0.out _ (if_pos (.inr (.inr (.inl y1)))))
          clear HRI H0
          go_enter Try.func26, Try.ntmps26
          go_wp2_with (go_at_call 66; refine (HWR.out _).mono ?_; rintro e1 w1 ⟨rfl, hb⟩; have HB1 := Lib.hid (ujoin HB0.out hb); clear hb)
          go_ret2
          exact SpotsRet.err HE.out (by decide) HB1.out
        · skip
          by_cases y2 : 1024 ≤ y
          · have HE : Hid (spotsErr kind border t W H x y = 282) := (show _ = _ from H0.out _ (if_pos (.inr (.inr (.inr y2)))))
            clear HRI H0
            go_enter Try.func26, Try.ntmps26
            go_wp2_with (go_at_call 66; refine (HWR.out _).mono ?_; rintro e1 w1 ⟨rfl, hb⟩; have HB1 := Lib.hid (ujoin HB0.out hb); clear hb)
            go_ret2
            exact SpotsRet.err HE.out (by decide) HB1.out
          · skip
            have HE : Hid (spotsErr kind border t W H x y = 0) := (show _ = _ from H0.out _ (if_neg (by omega)))
            clear H0
            have hx : 0 ≤ x ∧ x ≤ 1024 := by omega
            have hy : 0 ≤ y ∧ y ≤ 1024 := by omega
            have HCO := Lib.hid fun W' b h1 h2 => collect_calls kind border t W H x y W' b h1 HRI.out h2 hx hy
            clear HRI hx hy
            go_enter Try.func26, Try.ntmps26
            go_wp2_with (first
              | (go_at_call 66; refine (HWR.out _).mono ?_; rintro e1 w1 ⟨rfl, hb⟩; have HB1 := Lib.hid (ujoin HB0.out hb); have HT1 := Lib.hid ((hb.block _ (heap_lt' HT0.out)).trans HT0.out); obtain ⟨c0, c1, c2, c3, c4, c5, c6, c7, c8, c9, c10⟩ := wayC_cells HT1.out; clear hb)
              | (go_at_call 68; refine (HTD.out _).mono ?_; rintro e1 w2 ⟨b, rfl, hb0, hb3, k0, k1, k2, hb⟩; have HB2 := Lib.hid (ujoin HB1.out hb); have HBX : Hid (Boxes b kind border t W H x y w2) := (show Boxes _ _ _ _ _ _ _ _ _ from ⟨k0, k1, k2⟩); have HB3 := Lib.hid hb3; clear hb0 hb3 k0 k1 k2 hb)
              | (go_at_call 67; refine (HCO.out _ _ HB3.out HBX.out).mono ?_; rintro e1 w3 ⟨v, rfl, hv⟩; have HV := Lib.hid hv; clear hv))
            go_ret2
            exact .inr ⟨HE.out, v, rfl, HV.out.wider HB2.out⟩
  · have HE : Hid (spotsErr kind border t W H x y = rightE kind border t W H) := (show _ = _ from if_pos hr)
    obtain ⟨er, eer⟩ : ∃ er, er = rightE kind border t W H := ⟨_, rfl⟩
    rw [← eer] at HWR HE hr
    have hz : (er != 0) = true := by rw [bne_iff_ne]; exact hr
    have HNZ := Lib.hid hr
    clear hr eer
    go_enter Try.func26, Try.ntmps26
    go_wp2_with (go_at_call 66; refine (HWR.out _).mono ?_; rintro e1 w1 ⟨rfl, hb⟩; have HB1 := Lib.hid (ujoin HB0.out hb); clear hb)
    go_ret2
    exact SpotsRet.err HE.out HNZ.out HB1.out
end Go.Proofs.Ytdcpeeolfgohmaa
