/- kernel.Taps: a place's taps. -/
import Derived.Test.YtdcpeeolfgohmaaTapsE
import Derived.Shelf.Abstract
namespace Go.Proofs.Ytdcpeeolfgohmaa
open Go.RowKit Go.Proofs.YtdcpeeolfgohmaaW.PrintWords
set_option linter.unusedSimpArgs false
set_option linter.unusedVariables false

theorem boxed_key {w w1 : World} {from' tt i : Int} (hb : Below (boxed w from' tt i).heap.size (boxed w from' tt i) w1) :
    w1.cell? ⟨w.heap.size, 0, none⟩ = some (.int .i64 from') ∧ w1.cell? ⟨w.heap.size + 1, 0, none⟩ = some (.int .i64 tt) ∧ w1.cell? ⟨w.heap.size + 1 + 1, 0, none⟩ = some (.int .i64 i) ∧
      w.heap.size < w1.heap.size ∧ w.heap.size + 1 < w1.heap.size ∧ w.heap.size + 1 + 1 < w1.heap.size := by
  have hc := boxed_cells hb
  have k1 := bcell hc.1 0
  have k2 := bcell hc.2.1 0
  have k3 := bcell hc.2.2.1 0
  exact ⟨by simpa using k1, by simpa using k2, by simpa using k3, by have := hc.2.2.2; omega, by have := hc.2.2.2; omega, by have := hc.2.2.2; omega⟩

set_option maxHeartbeats 1600000 in
set_option maxRecDepth 100000 in
theorem kTaps_err3 (kind from' tt i : Int) (w : World) (h1 : 1 ≤ kind) (h3 : kind ≤ 3) (hf : sideB from' = true) (ht : sideB tt = true) (hi0 : 0 ≤ i) (hi1 : i < tt) (hfar : 15 * tt < from') :
    Calls Try.prog 47 #[.int .i64 kind, .int .i64 from', .int .i64 tt, .int .i64 i] w fun e w' => TapsEnd w kind from' tt i e w' := by
  have E : Hid (tapsErr kind from' tt i = 92) := (show _ = _ by
    unfold tapsErr
    rw [if_neg (by omega), if_neg (by simp [hf, ht, hi0, hi1]), if_pos hfar])
  have HO := Lib.hid fun W => of_yes kind h1 h3 W
  have HS := Lib.hid fun n W => side_calls n W
  have bt := (sideB_iff tt).1 ht
  obtain ⟨bt1, bt2⟩ := bt
  clear h1 h3
  go_enter Try.func47, Try.ntmps47
  go_wp2_with (first | (go_at_call 89; refine (HO.out _).mono ?_; rintro e1 w1 ⟨rfl, hb⟩; obtain ⟨kc1, kc2, kc3, kz1, kz2, kz3⟩ := boxed_key hb; have HB := Lib.hid (boxed_below (from' := from') (tt := tt) (i := i) hb); clear hb) | (go_at_call 90; refine (HS.out _ _).mono ?_; rintro e2 w2 ⟨rfl, rfl⟩))
  go_ret2
  refine .inl ⟨by rw [E.out]; decide, by rw [E.out]; rfl, ?_⟩
  exact HB.out.alloc HB.out.size _

/-! ### The loop -/
def numsP (l : List (Int × Int)) : List Int := l.map (·.1)
def numsW (l : List (Int × Int)) : List Int := l.map (·.2)

/-- The rows of places and weights. -/
structure PwW (w0 : World) (l : List (Int × Int)) (vp vw : Value) (W : World) : Prop where
  be : Below w0.heap.size w0 W
  op : W.ownsRow w0.heap.size 3 1 vp l.length (nums .i64 (numsP l))
  ow : W.ownsRow w0.heap.size 3 1 vw l.length (nums .i64 (numsW l))
  ne : NeRow vp vw

theorem PwW.drewN {w0 W : World} {l : List (Int × Int)} {vp vw : Value} (h : PwW w0 l vp vw W) (q : Nat) : PwW w0 l vp vw (W.drewN q) :=
  ⟨⟨h.be.os, h.be.tape, h.be.output, h.be.size, h.be.block⟩, h.op, h.ow, h.ne⟩

theorem numsP_len (l : List (Int × Int)) : (numsP l).length = l.length := by simp [numsP]
theorem numsW_len (l : List (Int × Int)) : (numsW l).length = l.length := by simp [numsW]
theorem last_rd {l : List (Int × Int)} (h : l ≠ []) : rd (numsP l) ((l.length : Int) - 1) = (l.getLast?.getD (0, 0)).1 ∧ rd (numsW l) ((l.length : Int) - 1) = (l.getLast?.getD (0, 0)).2 := by
  have hp : 0 < l.length := List.length_pos_iff.2 h
  have e : ((l.length : Int) - 1).toNat = l.length - 1 := by omega
  rw [List.getLast?_eq_getElem?]
  unfold rd numsP numsW
  rw [e]
  simp [List.getD_eq_getElem?_getD, List.getElem?_eq_getElem (show l.length - 1 < l.length by omega)]
theorem last_set {l : List (Int × Int)} (h : l ≠ []) (p v : Int) (hp : (l.getLast?.getD (0, 0)).1 = p) :
    numsP (l.dropLast ++ [(p, v)]) = numsP l ∧ numsW (l.dropLast ++ [(p, v)]) = (numsW l).set ((l.length : Int) - 1).toNat v ∧ (l.dropLast ++ [(p, v)]).length = l.length := by
  have hpos : 0 < l.length := List.length_pos_iff.2 h
  have es := last_split h
  refine ⟨?_, ?_, ?_⟩
  · conv => rhs; rw [es]
    simp [numsP, hp]
  · have e : ((l.length : Int) - 1).toNat = l.dropLast.length := by rw [List.length_dropLast]; omega
    conv => rhs; rw [e, es]
    simp [numsW]
  · simp; omega

theorem PwW.setW {w0 W : World} {l : List (Int × Int)} {vp : Value} {g cw : Nat} (h : PwW w0 l vp (.slice (some ⟨g, 0, none⟩) l.length cw) W) (hl : l ≠ []) (p v : Int) (hp : (l.getLast?.getD (0, 0)).1 = p) :
    PwW w0 (l.dropLast ++ [(p, v)]) vp (.slice (some ⟨g, 0, none⟩) l.length cw) (W.setCell ⟨g, ((l.length : Int) - 1).toNat, none⟩ (.int .i64 v)) := by
  obtain ⟨e1, e2, e3⟩ := last_set hl p v hp
  have hs := own_store (n := l.length) h.ow ((l.length : Int) - 1) v
  have hgb := own_base h.ow g rfl
  refine ⟨h.be.setCell (show _ ≤ g from hgb) _, ?_, ?_, h.ne⟩
  · rw [e1, e3]; exact own_other h.op hs.2 (ne_other (ne_symm h.ne))
  · rw [e2, e3]; exact hs.1

theorem own_some {W : World} {base n n' c size : Nat} {e : TypeId} {A : Option Addr} {xs : List Value} (h : W.ownsRow base e size (.slice A n c) n' xs) (hn : 0 < n') : ∃ g, A = some ⟨g, 0, none⟩ := by
  obtain ⟨g, cap, hv, _, _⟩ := h.form hn
  injection hv with hv1 _ _
  exact ⟨g, hv1⟩
theorem rd_P {l : List (Int × Int)} {j : Nat} (h : j < l.length) : rd (numsP l) j = tapP l j ∧ rd (numsW l) j = tapW l j := by
  unfold rd numsP numsW tapP tapW
  simp [List.getD_eq_getElem?_getD, List.getElem?_eq_getElem h]

theorem wK_in (kind a m : Int) (hk1 : 1 ≤ kind) (hk3 : kind ≤ 3) (h1 : -(kReach kind * m) ≤ a) (h2 : a ≤ kReach kind * m) (hbox : kind = 1 → a ≠ m) :
    wK kind a (2 * m) = if kind = 1 then wBox (2 * m) else if kind = 2 then wTent (max a (-a)) (2 * m) else wCubic (max a (-a)) (2 * m) := by
  have hk : kind = 1 ∨ kind = 2 ∨ kind = 3 := by omega
  unfold wK
  rcases hk with rfl | rfl | rfl
  · have e : kReach 1 = 1 := by decide
    rw [e] at h1 h2
    have := hbox rfl
    rw [if_pos rfl, if_pos rfl, if_pos (by omega)]
  · have e : kReach 2 = 2 := by decide
    rw [e] at h1 h2
    by_cases h : max a (-a) < 2 * m
    · simp only [h, ↓reduceIte, show ¬((2 : Int) = 1) by decide]
    · have e2 : wTent (max a (-a)) (2 * m) = 0 := by rw [show max a (-a) = 2 * m by omega]; unfold wTent; rw [Int.sub_self]; simp
      simp only [h, e2, ↓reduceIte, show ¬((2 : Int) = 1) by decide]
  · have e : kReach 3 = 4 := by decide
    rw [e] at h1 h2
    unfold wCubic
    by_cases h : max a (-a) < 2 * m
    · simp only [h, ↓reduceIte, show ¬((3 : Int) = 1) by decide, show ¬((3 : Int) = 2) by decide]
    · by_cases h' : max a (-a) < 2 * (2 * m)
      · simp only [h, h', ↓reduceIte, show ¬((3 : Int) = 1) by decide, show ¬((3 : Int) = 2) by decide]
      · have e2 : wCubicOut (max a (-a)) (2 * m) = 0 := by rw [show max a (-a) = 2 * (2 * m) by omega]; unfold wCubicOut; grind
        simp only [h, h', e2, ↓reduceIte, show ¬((3 : Int) = 1) by decide, show ¬((3 : Int) = 2) by decide]

theorem kFn_enters (kind : Int) (h1 : 1 ≤ kind) (h3 : kind ≤ 3) : ∀ args w, (callFunc (kFn kind) args).run Try.prog w = .ok (.enter (kFn kind) args) w := by
  have hk : kind = 1 ∨ kind = 2 ∨ kind = 3 := by omega
  rcases hk with rfl | rfl | rfl
  · exact enters_of Try.func120 (by kernel_rfl) rfl
  · exact enters_of Try.func121 (by kernel_rfl) rfl
  · exact enters_of Try.func122 (by kernel_rfl) rfl

theorem kFn_calls (kind a b : Int) (w : World) (h1 : 1 ≤ kind) (h3 : kind ≤ 3) (ha0 : 0 ≤ a) (ha : a ≤ 8192) (hb0 : 0 ≤ b) (hb : b ≤ 4096) :
    Calls Try.prog (kFn kind) #[.int .i64 a, .int .i64 b] w fun e w' => e = .returned (.int .i64 (if kind = 1 then wBox b else if kind = 2 then wTent a b else wCubic a b)) ∧ w = w' := by
  have hk : kind = 1 ∨ kind = 2 ∨ kind = 3 := by omega
  rcases hk with rfl | rfl | rfl
  · exact of1_calls a b w hb0 hb
  · exact of2_calls a b w ha0 ha hb0 hb
  · exact of3_calls a b w ha0 ha hb0 hb

set_option maxHeartbeats 3200000 in
set_option maxRecDepth 100000 in
theorem kTaps_ok (kind from' tt i : Int) (w : World) (h : TapsMay kind from' tt i) :
    Calls Try.prog 47 #[.int .i64 kind, .int .i64 from', .int .i64 tt, .int .i64 i] w fun e w' => TapsEnd w kind from' tt i e w' := by
  have E : Hid (tapsErr kind from' tt i = 0) := may_tapsErr h
  have HS := Lib.hid fun n W => side_calls n W
  have MAY := Lib.hid h
  have hf : sideB from' = true := (sideB_iff _).2 ⟨h.f1, h.f2⟩
  have ht : sideB tt = true := (sideB_iff _).2 ⟨h.t1, h.t2⟩
  obtain ⟨hk1, hk3, hf1, hf2, ht1, ht2, hi0, hi1, hfar⟩ := h
  have HO := Lib.hid fun W => of_yes kind hk1 hk3 W
  have hr := kReach_bd kind
  obtain ⟨g, eg_⟩ : ∃ g, g = kFn kind := ⟨_, rfl⟩
  obtain ⟨rc, erc⟩ : ∃ rc, rc = kReach kind := ⟨_, rfl⟩
  have eg : ∀ args w, (callFunc g args).run Try.prog w = .ok (.enter g args) w := by rw [eg_]; exact kFn_enters kind hk1 hk3
  have ERC := Lib.hid erc
  have EG := Lib.hid eg_
  rw [← erc] at hr
  rw [← erc, ← eg_] at HO
  obtain ⟨hr1, hr2⟩ := hr
  obtain ⟨m, em⟩ : ∃ m, m = max from' tt := ⟨_, rfl⟩
  have EM := Lib.hid em
  have hm1 : 1 ≤ m := by omega
  have hm2 : m ≤ 1024 := by omega
  have ZM : Hid ((if from' < tt then tt else from') = m) := (show _ = _ by rw [em]; split <;> omega)
  have hx := mul_bd (a := 2 * i + 1) (b := from') (A := 4096) (B := 1024) (by omega) (by omega) (by omega) (by omega)
  obtain ⟨hx1, hx2⟩ := hx
  have hP := mul_bd (a := rc) (b := 2 * m) (A := 4) (B := 2048) (by omega) hr2 (by omega) (by omega)
  have hP0 : 0 ≤ rc * (2 * m) := Int.mul_nonneg (by omega) (by omega)
  have hP2 : rc * (2 * m) ≤ 8192 := by omega
  have eP : rc * (2 * m) = 2 * (rc * m) := by grind
  obtain ⟨lo, elo⟩ : ∃ lo, lo = tapLo kind from' tt i := ⟨_, rfl⟩
  have ELO : Hid (lo = ((2 * i + 1) * from' - tt - rc * (2 * m) / 2) / (2 * tt)) := (show _ = _ by
    rw [elo, eP, Int.mul_ediv_cancel_left _ (by omega : (2 : Int) ≠ 0), tapLo, erc, em])
  have HF : Hid (∀ W, Calls Try.prog 92 #[.int .i64 ((2 * i + 1) * from' - tt - rc * (2 * m) / 2), .int .i64 (2 * tt)] W fun e w' => e = .returned (.int .i64 lo) ∧ W = w') := fun W => by
    rw [ELO.out]; exact kfloor_calls _ _ W (by omega) (by omega) (by omega)
  have hlob : -10000000 ≤ lo ∧ lo ≤ 10000000 := by
    have h1 := Int.mul_ediv_self_le (x := (2 * i + 1) * from' - tt - rc * (2 * m) / 2) (k := 2 * tt) (by omega)
    have h2 := Int.lt_mul_ediv_self_add (x := (2 * i + 1) * from' - tt - rc * (2 * m) / 2) (k := 2 * tt) (by omega)
    have h3 := div_bd ((2 * i + 1) * from' - tt - rc * (2 * m) / 2) (2 * tt) (A := 10000000) (by omega) (by omega) (by omega)
    rw [ELO.out]; exact h3
  obtain ⟨hlo1, hlo2⟩ := hlob
  have HELO := Lib.hid elo
  clear em eg_ erc hP eP elo
  go_enter Try.func47, Try.ntmps47
  go_upto_region 9 with (first | (go_at_call 89; refine (HO.out _).mono ?_; rintro e1 w1 ⟨rfl, hb⟩; obtain ⟨kc1, kc2, kc3, kz1, kz2, kz3⟩ := boxed_key hb; have HB := Lib.hid (boxed_below (from' := from') (tt := tt) (i := i) hb); clear hb) | (go_at_call 90; refine (HS.out _ _).mono ?_; rintro e2 w2 ⟨rfl, rfl⟩))
  rw [ZM.out]
  go_wp2_with (go_at_call 92; refine (HF.out _).mono ?_; rintro e3 w3 ⟨rfl, rfl⟩)
  -- the loop
  have HBS : Hid (Below w.heap.size w (w1.alloc (.cells #[.int .i64 rc, .func (.func g) #[] #[]] 144))) := HB.out.alloc HB.out.size _
  have s1 : (w1.alloc (.cells #[.int .i64 rc, .func (.func g) #[] #[]] 144)).cell? ⟨w.heap.size, 0, none⟩ = some (.int .i64 from') := (((Below.refl w1.heap.size w1).alloc (Nat.le_refl _) _).cell kz1).trans kc1
  have s2 : (w1.alloc (.cells #[.int .i64 rc, .func (.func g) #[] #[]] 144)).cell? ⟨w.heap.size + 1, 0, none⟩ = some (.int .i64 tt) := (((Below.refl w1.heap.size w1).alloc (Nat.le_refl _) _).cell kz2).trans kc2
  have s3 : (w1.alloc (.cells #[.int .i64 rc, .func (.func g) #[] #[]] 144)).cell? ⟨w.heap.size + 1 + 1, 0, none⟩ = some (.int .i64 i) := (((Below.refl w1.heap.size w1).alloc (Nat.le_refl _) _).cell kz3).trans kc3
  have s4 : (w1.alloc (.cells #[.int .i64 rc, .func (.func g) #[] #[]] 144)).cell? ⟨w1.heap.size, 0, none⟩ = some (.int .i64 rc) := by simp
  have s5 : (w1.alloc (.cells #[.int .i64 rc, .func (.func g) #[] #[]] 144)).cell? ⟨w1.heap.size, 1, none⟩ = some (.func (.func g) #[] #[]) := by simp
  have S1 := Lib.hid s1
  have S2 := Lib.hid s2
  have S3 := Lib.hid s3
  have S4 := Lib.hid s4
  have S5 := Lib.hid s5
  clear s1 s2 s3 s4 s5 kc1 kc2 kc3 kz1 kz2 kz3 HB
  generalize w1.alloc (.cells #[.int .i64 rc, .func (.func g) #[] #[]] 144) = ws at HBS S1 S2 S3 S4 S5 ⊢
  generalize w1.heap.size = kb at S4 S5 ⊢
  obtain ⟨N, eN⟩ : ∃ N, N = tapN kind from' tt i := ⟨_, rfl⟩
  obtain ⟨F, eF⟩ : ∃ F, F = tapF kind from' tt i := ⟨_, rfl⟩
  have EN := Lib.hid eN
  have EF := Lib.hid eF
  have hNb := (tapN_at MAY.out).2.1
  rw [← eN] at hNb
  obtain ⟨hN1, hN2⟩ := hNb
  clear eN eF
  go_loopg [14, 15, 16, 17, 18, 19, 20] N (fun gk v14 v15 v16 v17 v18 v19 v20 wr => ∃ (k len : Nat) (Ap Aw : Option Addr) (cp cw : Nat), v16 = .int .i64 (lo + k) ∧ v14 = .slice Ap len cp ∧ v15 = .slice Aw len cw ∧ k ≤ N ∧ N ≤ k + gk ∧ len ≤ 62 ∧
    Hid (len = (tapRun F from' lo k).length) ∧ Aside (PwW ws (tapRun F from' lo k) (.slice Ap len cp) (.slice Aw len cw) wr))
  case atStart => exact ⟨0, 0, none, none, 0, 0, by go_num, rfl, rfl, by omega, by omega, by omega, rfl, ⟨Below.refl _ _, own_nil _ _ _ _, own_nil _ _ _ _, ne_nil _⟩⟩
  case round =>
    obtain ⟨k, len, Ap, Aw, cp, cw, rfl, rfl, rfl, hk, hgk, hlen, HLEN, HPW⟩ := hrel
    have bl : ∀ {a : Addr} {v : Value}, ws.cell? a = some v → wr.cell? a = some v := fun {a v} h => (HPW.out.be.cell (World.block_lt_of_cell? _ _ h)).trans h
    have r1 := bl S1.out
    have r2 := bl S2.out
    have r3 := bl S3.out
    have r4 := bl S4.out
    have r5 := bl S5.out
    clear bl
    obtain ⟨a, ea⟩ : ∃ a, a = atOf from' tt i (lo + k) := ⟨_, rfl⟩
    have EA := Lib.hid ea
    have HAT : Hid (∀ W, W.cell? ⟨w.heap.size, 0, none⟩ = some (.int .i64 from') → W.cell? ⟨w.heap.size + 1, 0, none⟩ = some (.int .i64 tt) → W.cell? ⟨w.heap.size + 1 + 1, 0, none⟩ = some (.int .i64 i) →
        Calls Try.prog 91 #[.int .i64 (lo + k), .pointer (some ⟨w.heap.size + 1, 0, none⟩), .pointer (some ⟨w.heap.size + 1 + 1, 0, none⟩), .pointer (some ⟨w.heap.size, 0, none⟩)] W fun e w' => e = .returned (.int .i64 a) ∧ W = w') := fun W h1 h2 h3 => by
      rw [EA.out]; exact at_calls from' tt i (lo + k) _ _ _ W h1 h2 h3 hf1 hf2 ht1 ht2 hi0 (by omega) (by omega) (by omega)
    have hab : -10000000000000 ≤ a ∧ a ≤ 10000000000000 := by
      have h1 := mul_bd (a := tt) (b := lo + k) (A := 1024) (B := 20000000) (by omega) (by omega) (by omega) (by omega)
      have e : atOf from' tt i (lo + k) = 2 * (tt * (lo + k)) - (2 * i + 1) * from' + tt := by unfold atOf; simp only [Int.mul_assoc]
      rw [ea, e]; omega
    obtain ⟨hab1, hab2⟩ := hab
    clear ea
    by_cases hlt : k < N
    · have hin : a * 2 ≤ rc * (2 * m) := by
        have h1 := (tapN_at MAY.out).2.2 k (by rw [← EN.out]; exact hlt)
        rw [← HELO.out, ← EA.out, ← ERC.out, ← EM.out] at h1
        have eP : rc * (2 * m) = 2 * (rc * m) := by grind
        omega
      have hind : decide (a * 2 ≤ rc * (2 * m)) = true := decide_eq_true hin
      have WP : IntKind.i64.wrap (rc * (2 * m)) = rc * (2 * m) := IntWalk.i64_in _ (by omega)
      have WA : IntKind.i64.wrap (a * 2) = a * 2 := IntWalk.i64_in _ (by omega)
      go_wp2_with fail
      go_quiet ((go_at_call 91; exact Calls.quiet_of_same ((HAT.out (wr.drewN _) r1 r2 r3).mono fun _ _ h => ⟨h.1, h.2.symm⟩)))
      clear WP WA
      have HPW2 : Aside (PwW ws (tapRun F from' lo k) (.slice Ap len cp) (.slice Aw len cw) (wr.drewN nq)) := HPW.out.drewN nq
      have q1 : (wr.drewN nq).cell? ⟨w.heap.size, 0, none⟩ = some (.int .i64 from') := r1
      have q2 : (wr.drewN nq).cell? ⟨w.heap.size + 1, 0, none⟩ = some (.int .i64 tt) := r2
      have q3 : (wr.drewN nq).cell? ⟨w.heap.size + 1 + 1, 0, none⟩ = some (.int .i64 i) := r3
      have q4 : (wr.drewN nq).cell? ⟨kb, 0, none⟩ = some (.int .i64 rc) := r4
      have q5 : (wr.drewN nq).cell? ⟨kb, 1, none⟩ = some (.func (.func g) #[] #[]) := r5
      clear r1 r2 r3 r4 r5 HPW
      generalize wr.drewN nq = w2 at HPW2 q1 q2 q3 q4 q5 ⊢
      have hN0 : -8192 ≤ -rc * (2 * m) := by rw [Int.neg_mul]; omega
      have hN1 : -rc * (2 * m) ≤ 0 := by rw [Int.neg_mul]; omega
      go_upto_region 15 with (go_at_call 91; refine (HAT.out _ q1 q2 q3).mono ?_; rintro e4 w4 ⟨rfl, rfl⟩)
      -- what the tests say
      have NEXT0 : Hid (F (lo + k) = 0 → tapRun F from' lo (k + 1) = tapRun F from' lo k) := fun h => tapStep_zero h
      have FAT : Hid (F (lo + k) = wK kind a (2 * m)) := (show _ = _ by rw [EF.out, EA.out, EM.out]; rfl)
      by_cases c1 : a * 2 < -rc * (2 * m)
      · have hd : decide (a * 2 < -rc * (2 * m)) = true := decide_eq_true c1
        have F0 : Hid (F (lo + k) = 0) := (show _ = _ by
          rw [FAT.out]
          refine wK_far hk1 hk3 hm1 (.inl ?_)
          rw [← ERC.out]
          have eP : -rc * (2 * m) = -(2 * (rc * m)) := by grind
          omega)
        go_wp2
        go_roundg (N - (k + 1))
        case measure => omega
        case rel => exact ⟨k + 1, len, Ap, Aw, cp, cw, by go_num, rfl, rfl, by omega, by omega, hlen, (by rw [NEXT0.out F0.out]; exact HLEN), (by rw [NEXT0.out F0.out]; exact HPW2)⟩
      · have hd : decide (a * 2 < -rc * (2 * m)) = false := decide_eq_false c1
        by_cases c2 : kind = 1 ∧ a * 2 = rc * (2 * m)
        · have hd1 : (kind == 1) = true := beq_iff_eq.2 c2.1
          have hd2 : (a * 2 == rc * (2 * m)) = true := beq_iff_eq.2 c2.2
          have F0 : Hid (F (lo + k) = 0) := (show _ = _ by
            rw [FAT.out]
            have e1 : rc = 1 := by rw [ERC.out, c2.1]; decide
            have e2 := c2.2
            rw [e1] at e2
            unfold wK
            rw [if_pos c2.1, if_neg (by omega)])
          clear c2
          go_wp2
          go_roundg (N - (k + 1))
          case measure => omega
          case rel => exact ⟨k + 1, len, Ap, Aw, cp, cw, by go_num, rfl, rfl, by omega, by omega, hlen, (by rw [NEXT0.out F0.out]; exact HLEN), (by rw [NEXT0.out F0.out]; exact HPW2)⟩
        · go_cut [107] (fun v107 wc => v107 = .bool false ∧ w2 = wc)
          case first =>
            by_cases c3 : kind = 1
            · have hd1 : (kind == 1) = true := beq_iff_eq.2 c3
              have hd2 : (a * 2 == rc * (2 * m)) = false := beq_eq_false_iff_ne.2 fun h => c2 ⟨c3, h⟩
              clear c3 c2
              go_wp2_with fail
              go_meet
              case rel => exact ⟨rfl, rfl⟩
            · have hd1 : (kind == 1) = false := beq_eq_false_iff_ne.2 c3
              clear c3 c2
              go_wp2_with fail
              go_meet
              case rel => exact ⟨rfl, rfl⟩
          case rest =>
            obtain ⟨rfl, rfl⟩ := hcut
            have hc2 : ¬ (kind = 1 ∧ a = m) := fun h => c2 ⟨h.1, by
              have e1 : rc = 1 := by rw [ERC.out, h.1]; decide
              rw [e1]; omega⟩
            have C2 := Lib.hid hc2
            clear c2 hc2 hd
            have harc : -(rc * m) ≤ a ∧ a ≤ rc * m := by
              have e1 : -rc * (2 * m) = -(2 * (rc * m)) := by grind
              have e2 : rc * (2 * m) = 2 * (rc * m) := by grind
              omega
            have e2 : rc * (2 * m) = 2 * (rc * m) := by grind
            have hamx : -4096 ≤ a ∧ a ≤ 4096 := by omega
            obtain ⟨nn, enn⟩ : ∃ nn, nn = F (lo + k) := ⟨_, rfl⟩
            have ENN := Lib.hid enn
            have HWt : Hid (∀ W, Calls Try.prog g #[.int .i64 (if a < -a then -a else a), .int .i64 (2 * m)] W fun e w' => e = .returned (.int .i64 nn) ∧ W = w') := fun W => by
              have h1 := kFn_calls kind (max a (-a)) (2 * m) W hk1 hk3 (by omega) (by omega) (by omega) (by omega)
              rw [← wK_in kind a m hk1 hk3 (by rw [← ERC.out]; exact harc.1) (by rw [← ERC.out]; exact harc.2) (fun h h' => C2.out ⟨h, h'⟩), ← FAT.out, ← ENN.out, ← EG.out] at h1
              rw [show (if a < -a then -a else a) = max a (-a) by split <;> omega]
              exact h1
            have hnb := wK_bd kind a (2 * m) (by omega) (by omega)
            rw [← FAT.out, ← enn] at hnb
            obtain ⟨hnb1, hnb2⟩ := hnb
            clear enn harc e2 hamx
            go_upto_region 17 with (go_at_fn g; refine (HWt.out _).mono ?_; rintro e5 w5 ⟨rfl, rfl⟩)
            obtain ⟨mx, emx⟩ : ∃ mx, (if a < -a then -a else a) = mx := ⟨_, rfl⟩
            have ZMX := Lib.hid emx
            clear emx
            rw [ZMX.out]
            clear HWt ZMX
            by_cases hn0 : nn = 0
            · have hd : (nn == 0) = true := beq_iff_eq.2 hn0
              have F0 : Hid (F (lo + k) = 0) := (show _ = _ by rw [← ENN.out]; exact hn0)
              clear hn0
              go_wp2
              go_roundg (N - (k + 1))
              case measure => omega
              case rel => exact ⟨k + 1, len, Ap, Aw, cp, cw, by go_num, rfl, rfl, by omega, by omega, hlen, (by rw [NEXT0.out F0.out]; exact HLEN), (by rw [NEXT0.out F0.out]; exact HPW2)⟩
            · have hd : (nn == 0) = false := beq_eq_false_iff_ne.2 hn0
              have HN0 := Lib.hid hn0
              clear hn0
              go_upto_region 19 with (fail)
              obtain ⟨p, ep⟩ : ∃ p, p = clampP from' (lo + k) := ⟨_, rfl⟩
              have ZP : Hid ((if from' - 1 < if lo + (k : Int) < 0 then 0 else lo + (k : Int) then from' - 1 else if lo + (k : Int) < 0 then 0 else lo + (k : Int)) = p) := (show _ = _ by rw [ep]; unfold clampP; split <;> split <;> omega)
              obtain ⟨jj, ejj⟩ : ∃ jj, (if lo + (k : Int) < 0 then 0 else lo + (k : Int)) = jj := ⟨_, rfl⟩
              have ZJ := Lib.hid ejj
              have EPL := Lib.hid ep
              clear ep ejj
              rw [ZP.out, ZJ.out]
              clear ZP ZJ
              obtain ⟨L, eL⟩ : ∃ L, L = tapRun F from' lo k := ⟨_, rfl⟩
              have EL := Lib.hid eL
              rw [← eL] at HLEN HPW2
              have STEP : Hid (tapRun F from' lo (k + 1) = if L ≠ [] ∧ (L.getLast?.getD (0, 0)).1 = p then L.dropLast ++ [(p, (L.getLast?.getD (0, 0)).2 + nn)] else L ++ [(p, nn)]) := (show _ = _ by
                rw [tapRun, tapStep, if_neg (by rw [← ENN.out]; exact HN0.out), ← EL.out, ← EPL.out, ← ENN.out])
              have hkl : len ≤ k := by have := tapRun_len F from' lo k; rw [HLEN.out, EL.out]; exact this
              have hszw : -1099511627776 ≤ (L.getLast?.getD (0, 0)).2 ∧ (L.getLast?.getD (0, 0)).2 ≤ 1099511627776 := by
                by_cases hL : L = []
                · rw [hL]; simp
                · have h1 := (wSize_get L (L.length - 1) (by have := List.length_pos_iff.2 hL; omega)).1
                  have h2 := tapRun_size F from' lo (B := 17179869184) (fun j => by rw [EF.out]; exact wK_bd _ _ _ (by omega) (by omega)) k
                  rw [← EL.out] at h2
                  have h3 : (k : Int) * 17179869184 ≤ 62 * 17179869184 := Int.mul_le_mul_of_nonneg_right (by omega) (by omega)
                  rw [List.getLast?_eq_getElem?, ← List.getD_eq_getElem?_getD]
                  omega
              obtain ⟨hsz1, hsz2⟩ := hszw
              clear eL q1 q2 q3 q4 q5
              by_cases hB : L ≠ [] ∧ (L.getLast?.getD (0, 0)).1 = p
              · -- the same place once more
                have hlen0 : 0 < len := by rw [HLEN.out]; exact List.length_pos_iff.2 hB.1
                obtain ⟨u, eu⟩ : ∃ u, u = (L.getLast?.getD (0, 0)).2 := ⟨_, rfl⟩
                rw [← eu] at hsz1 hsz2
                obtain ⟨g1, rfl⟩ := own_some HPW2.out.op (by rw [← HLEN.out]; exact hlen0)
                obtain ⟨g2, rfl⟩ := own_some HPW2.out.ow (by rw [← HLEN.out]; exact hlen0)
                have lr := last_rd hB.1
                have hlp : 0 < L.length := List.length_pos_iff.2 hB.1
                have hop := HPW2.out.op
                have how := HPW2.out.ow
                rw [HLEN.out] at hop how
                have k1 := (own_at hop ((L.length : Int) - 1) (by omega) (by omega)).1
                have k2 := own_at how ((L.length : Int) - 1) (by omega) (by omega)
                clear hop how hlp
                obtain ⟨k2, k3⟩ := k2
                rw [lr.1, hB.2] at k1
                rw [lr.2, ← eu] at k2
                rw [← HLEN.out, show ((len : Int) - 1).toNat = len - 1 by omega] at k1 k2 k3
                have hlz : (0 : Int) < (len : Int) := by omega
                have hpp : (p == p) = true := beq_iff_eq.2 rfl
                have HEU := Lib.hid eu
                have HBB := Lib.hid hB
                clear lr eu hB
                go_wp2
                go_roundg (N - (k + 1))
                case measure => omega
                case rel =>
                  have hs := HPW2.out
                  rw [HLEN.out] at hs
                  have hs2 := PwW.setW hs HBB.out.1 p (u + nn) HBB.out.2
                  have e : tapRun F from' lo (k + 1) = L.dropLast ++ [(p, u + nn)] := by rw [STEP.out, if_pos HBB.out, ← HEU.out]
                  refine ⟨k + 1, len, _, _, cp, cw, by go_num, rfl, rfl, by omega, by omega, hlen, ?_, ?_⟩
                  · rw [e, (last_set HBB.out.1 p (u + nn) HBB.out.2).2.2]; exact HLEN
                  · rw [e]
                    rw [← HLEN.out, show ((len : Int) - 1).toNat = len - 1 by omega] at hs2
                    exact hs2
              · -- a new place
                have e : tapRun F from' lo (k + 1) = L ++ [(p, nn)] := by rw [STEP.out, if_neg hB]
                have HE := Lib.hid e
                clear e
                have hop : w2.ownsRow ws.heap.size 3 1 (.slice Ap len cp) (numsP L).length (nums .i64 (numsP L)) := by rw [numsP_len]; exact HPW2.out.op
                have how : w2.ownsRow ws.heap.size 3 1 (.slice Aw len cw) (numsW L).length (nums .i64 (numsW L)) := by rw [numsW_len]; exact HPW2.out.ow
                have HOP := Aside0.mk hop
                have HOW := Aside0.mk how
                have HBE := Aside0.mk HPW2.out.be
                have HNE := Aside0.mk HPW2.out.ne
                have hll : (numsP L).length ≤ 62 ∧ (numsW L).length ≤ 62 := by rw [numsP_len, numsW_len, ← HLEN.out]; omega
                obtain ⟨hll1, hll2⟩ := hll
                clear hop how
                go_upto_region 20 with (fail)
                go_cut [135] (fun v wc => v = .bool false ∧ w2 = wc)
                case first =>
                  by_cases hl0 : L = []
                  · obtain rfl : len = 0 := by rw [HLEN.out, hl0]; rfl
                    clear hl0 hB
                    go_wp2_with fail
                    go_meet
                    case rel => exact ⟨rfl, rfl⟩
                  · have hlp : 0 < L.length := List.length_pos_iff.2 hl0
                    have hlen0 : 0 < len := by rw [HLEN.out]; exact hlp
                    obtain ⟨g1, rfl⟩ := own_some HPW2.out.op hlp
                    have hop := HPW2.out.op
                    rw [HLEN.out] at hop
                    have k1 := (own_at hop ((L.length : Int) - 1) (by omega) (by omega)).1
                    rw [(last_rd hl0).1, ← HLEN.out, show ((len : Int) - 1).toNat = len - 1 by omega] at k1
                    obtain ⟨lp, elp⟩ : ∃ lp, lp = (L.getLast?.getD (0, 0)).1 := ⟨_, rfl⟩
                    rw [← elp] at k1
                    have hpp : (lp == p) = false := beq_eq_false_iff_ne.2 fun h => hB ⟨hl0, by rw [← elp]; exact h⟩
                    have hlz : (0 : Int) < (len : Int) := by omega
                    clear elp hB hl0 hop hlp
                    go_wp2_with fail
                    go_meet
                    case rel => exact ⟨rfl, rfl⟩
                case rest =>
                  obtain ⟨rfl, rfl⟩ := hcut
                  clear HPW2 hB
                  go_wp2_with (first
                    | (at_builtin; refine print_append_num (P := Try.prog) (w0 := ws) (W := w2) ws.heap.size rfl (.tmp 144) (.tmp 146) 93 3 .i64 8 rfl Try.underlying93 info_int (by decide) (.slice Ap len cp) (numsP L) p rfl rfl HOP.out HBE.out HBE.out.size ?hl ?_; (case hl => omega); intro v1 w3 hown hbel hg hat; have HOW3 := Aside0.mk (HOW.out.kept hg (ne_other HNE.out)); have HNE3 := Aside0.mk (ne_append HNE.out hat HOW.out); obtain ⟨A1, q1, rfl⟩ := own_slice hown; have HOP3 := Aside0.mk hown; have HBE3 := Aside0.mk hbel; clear hown hbel hg hat)
                    | (at_builtin; refine print_append_num (P := Try.prog) (w0 := ws) (W := w3) ws.heap.size rfl (.tmp 148) (.tmp 150) 93 3 .i64 8 rfl Try.underlying93 info_int (by decide) (.slice Aw len cw) (numsW L) nn rfl rfl HOW3.out HBE3.out HBE3.out.size ?hl ?_; (case hl => omega); intro v2 w4 hown hbel hg hat; have HOP4 := Aside0.mk (HOP3.out.kept hg (ne_other (ne_symm HNE3.out))); have HNE4 := Aside0.mk (ne_append' HNE3.out hat HOP3.out); obtain ⟨A2, q2, rfl⟩ := own_slice hown; have HOW4 := Aside0.mk hown; have HBE4 := Aside0.mk hbel; clear hown hbel hg hat))
                  go_roundg (N - (k + 1))
                  case measure => omega
                  case rel =>
                    have l1 : (numsP L ++ [p]).length = len + 1 := by rw [List.length_append, numsP_len, ← HLEN.out]; rfl
                    have l2 : (numsW L ++ [nn]).length = len + 1 := by rw [List.length_append, numsW_len, ← HLEN.out]; rfl
                    have a1 := HOP4.out
                    have a2 := HOW4.out
                    have a3 := HNE4.out
                    rw [l1] at a1 a3
                    rw [l2] at a2 a3
                    refine ⟨k + 1, len + 1, A1, A2, q1, q2, by go_num, by first | rw [numsP_len, ← HLEN.out] | rw [l1], by first | rw [numsW_len, ← HLEN.out] | rw [l2], by omega, by omega, by omega, ?_, ?_⟩
                    · rw [HE.out, List.length_append, ← HLEN.out]; exact rfl
                    · rw [HE.out]
                      have e1 : (L ++ [(p, nn)]).length = len + 1 := by rw [List.length_append, ← HLEN.out]; rfl
                      have e2 : numsP (L ++ [(p, nn)]) = numsP L ++ [p] := by simp [numsP]
                      have e3 : numsW (L ++ [(p, nn)]) = numsW L ++ [nn] := by simp [numsW]
                      refine ⟨HBE4.out, ?_, ?_, a3⟩
                      · rw [e1, e2]; exact a1
                      · rw [e1, e3]; exact a2
    · -- behind the last place
      have e : k = N := by omega
      subst e
      have hout : ¬ a * 2 ≤ rc * (2 * m) := by
        have h1 := (tapN_at MAY.out).1
        rw [← HELO.out, ← EN.out, ← EA.out, ← ERC.out, ← EM.out] at h1
        have eP : rc * (2 * m) = 2 * (rc * m) := by grind
        omega
      have hind : decide (a * 2 ≤ rc * (2 * m)) = false := decide_eq_false hout
      have WP : IntKind.i64.wrap (rc * (2 * m)) = rc * (2 * m) := IntWalk.i64_in _ (by omega)
      have WA : IntKind.i64.wrap (a * 2) = a * 2 := IntWalk.i64_in _ (by omega)
      obtain ⟨L, eL⟩ : ∃ L, L = tapRun F from' lo k := ⟨_, rfl⟩
      have EL : Hid (L = tapsOf kind from' tt i) := (show _ = _ by rw [eL, tapsOf, EF.out, HELO.out, EN.out])
      rw [← eL] at HLEN HPW
      have hok := tap_ok MAY.out
      rw [← EL.out] at hok
      have hlp : 0 < L.length := hok.1
      have hop := HPW.out.op
      have how := HPW.out.ow
      obtain ⟨g1, rfl⟩ := own_some hop hlp
      obtain ⟨g2, rfl⟩ := own_some how hlp
      have HTAPS : Hid (∀ W, (∀ a, W.cell? a = wr.cell? a) → Calls Try.prog 93 #[.slice (some ⟨g1, 0, none⟩) len cp, .slice (some ⟨g2, 0, none⟩) len cw] W fun e w' => KTapsEnd W len (tapP L) (tapW L) e w') := fun W hW => by
        rw [HLEN.out] at hop how ⊢
        refine ktaps_calls W L.length cp cw (tapP L) (tapW L) _ _ hok (fun q hq => ?_) (fun q hq => ?_)
        · rw [hW, add_plain, ← (rd_P hq).1]
          exact (own_at hop (q : Int) (by omega) (by omega)).1
        · rw [hW, add_plain, ← (rd_P hq).2]
          exact (own_at how (q : Int) (by omega) (by omega)).1
      have HBE := Lib.hid HPW.out.be
      clear hop how hok hlp eL hout HPW
      go_wp2_with fail
      go_quiet ((go_at_call 91; exact Calls.quiet_of_same ((HAT.out (wr.drewN _) r1 r2 r3).mono fun _ _ h => ⟨h.1, h.2.symm⟩)))
      clear WP WA r1 r2 r3 r4 r5
      have HT2 := Lib.hid (HTAPS.out (wr.drewN nq) fun _ => rfl)
      have HB2 : Hid (Below ws.heap.size ws (wr.drewN nq)) := ⟨HBE.out.os, HBE.out.tape, HBE.out.output, HBE.out.size, HBE.out.block⟩
      clear HTAPS HBE
      generalize wr.drewN nq = w2 at HT2 HB2 ⊢
      go_wp2_with (go_at_call 93; refine HT2.out.mono ?_; rintro e5 w5 hq; have HQ := Lib.hid hq; clear hq; obtain ⟨v, res, rfl, _⟩ := HQ.out)
      go_ret2
      obtain ⟨v', res', hv, hsh, hto⟩ := HQ.out
      injection hv with hv
      subst hv
      rw [HLEN.out, EL.out] at hsh hto
      have hbw : Below w.heap.size w w2 := HBS.out.trans ⟨HB2.out.os, HB2.out.tape, HB2.out.output, HB2.out.size, fun q hq => HB2.out.block q (Nat.lt_of_lt_of_le hq HBS.out.size)⟩
      refine .inr ⟨E.out, _, res', rfl, hsh, own_weaken hto.1 hbw.size, hbw.trans ⟨hto.2.os, hto.2.tape, hto.2.output, hto.2.size, fun q hq => hto.2.block q (Nat.lt_of_lt_of_le hq hbw.size)⟩⟩
end Go.Proofs.Ytdcpeeolfgohmaa
