/- halidelaw28.WarpMoves: the walk. -/
import Derived.Test.YtdcpeeolfgohmaaMvP
import Derived.Test.YtdcpeeolfgohmaaMkEG
import Derived.Test.YtdcpeeolfgohmaaMkHI
import Derived.Test.YtdcpeeolfgohmaaWmM
import Derived.BigQuiet
namespace Go.Proofs.Ytdcpeeolfgohmaa
open Go.RowKit Go.Proofs.YtdcpeeolfgohmaaW.PrintWords
set_option linter.unusedSimpArgs false
set_option linter.unusedVariables false
attribute [local go_sem] Oper.semAt_some

/-- A plane in a box. -/
structure PBx (g : Nat) (W H : Int) (A : Option Addr) (n c : Nat) (y : Nat → Nat) (V : World) : Prop where
  bx : V.heap[g]? = some (.cells #[.int .i64 W, .int .i64 H, .slice A n c] 55 (0, 0))
  rw : RowU V A n y
theorem PBx.below {g : Nat} {W H : Int} {A : Option Addr} {n c : Nat} {y : Nat → Nat} {V V' : World} (h : PBx g W H A n c y V) (hb : Below V.heap.size V V') : PBx g W H A n c y V' := ⟨(hb.block _ (heap_lt' h.bx)).trans h.bx, h.rw.below hb⟩
/-- A plane told, its samples in memory made behind the call. -/
def PGot (w0 : World) (w h : Int) (N : Nat) (y : Nat → Nat) (e : Ending) (w' : World) : Prop := ∃ A c, e = .returned (.tuple #[.agg #[.int .i64 w, .int .i64 h, .slice A N c], .int .i64 0]) ∧ RowU w' A N y ∧ (∀ ad, A = some ad → w0.heap.size ≤ ad.block) ∧ Below w0.heap.size w0 w'
theorem pgot_of {kind border : Int} {t : Wp} {W H : Int} {x : Nat → Nat} {w h : Int} {N : Nat} {y : Nat → Nat} {w0 w' : World} {e : Ending} (hN : (N : Int) = w * h) (hy : ∀ i s, i < N → IsPx kind border t W H x w i s → s = y i) (hp : PlaneEnd w0 kind border t W H x w h e w') : PGot w0 w h N y e w' := by
  obtain ⟨v, cs, rfl, ho, hl, hp, hb⟩ := hp
  obtain ⟨A, c, rfl, hr⟩ := px_rowU (n := N) ho hp (by omega) (y := y) hy
  exact ⟨A, c, rfl, hr, fun ad e => (ho.lt ad.block (by rw [e]; rfl)).1, hb⟩
theorem pgot_mv {w1 h1 : Int} {N : Nat} {z : Nat → Nat → Nat} {y : Nat → Nat} {w0 w' : World} {e : Ending} (hN : (w1 * h1).toNat = N) (hy : ∀ k, k < N → z (k % w1.toNat) (k / w1.toNat) = y k) (hm : MvEnd w0 w1 h1 z e w') : PGot w0 w1 h1 N y e w' := by
  obtain ⟨A, c, rfl, hr, hlo, hb⟩ := hm
  rw [hN] at hr
  refine ⟨A, c, by rw [hN]; rfl, fun hn => ?_, hlo, hb⟩
  obtain ⟨ad, e, hc⟩ := hr hn
  exact ⟨ad, e, fun i hi => by rw [hc i hi]; show some (Value.int .u32 ((z (i % w1.toNat) (i / w1.toNat) : Nat) : Int)) = _; rw [hy i hi]⟩
/-- The plane that the law has, in its box. -/
structure MvW (w : World) (W H : Int) (A : Option Addr) (n c : Nat) (x : Nat → Nat) (V : World) : Prop where
  be : Below w.heap.size w V
  px : PBx w.heap.size W H A n c x V
theorem MvW.below {w : World} {W H : Int} {A : Option Addr} {n c : Nat} {x : Nat → Nat} {V V' : World} (h : MvW w W H A n c x V) (hb : Below V.heap.size V V') : MvW w W H A n c x V' := ⟨ujoin h.be hb, h.px.below hb⟩
theorem st3_far {w : World} {g k : Nat} {x y z : Value} (hk : k ≠ g) : (((w.setCell ⟨g, 0, none⟩ x).setCell ⟨g, 1, none⟩ y).setCell ⟨g, 2, none⟩ z).heap[k]? = w.heap[k]? :=
  (Below.heap_setCell _ ⟨g, 2, none⟩ _ _ hk).trans ((Below.heap_setCell _ ⟨g, 1, none⟩ _ _ hk).trans (Below.heap_setCell _ ⟨g, 0, none⟩ _ _ hk))
theorem MvW.put {w : World} {W H : Int} {A : Option Addr} {n c : Nat} {x : Nat → Nat} {V : World} (h : MvW w W H A n c x V) {g : Nat} {a b d : Value} (hg : w.heap.size < g) (hA : ∀ ad, A = some ad → ad.block < w.heap.size) : MvW w W H A n c x (((V.setCell ⟨g, 0, none⟩ a).setCell ⟨g, 1, none⟩ b).setCell ⟨g, 2, none⟩ d) :=
  ⟨st3_below h.be (by omega), (st3_far (by omega)).trans h.px.bx, ((h.px.rw.far _ _ fun ad e => by have := hA ad e; show ad.block ≠ g; omega).far _ _ fun ad e => by have := hA ad e; show ad.block ≠ g; omega).far _ _ fun ad e => by have := hA ad e; show ad.block ≠ g; omega⟩
theorem MvW.start (w : World) (W H : Int) (A : Option Addr) (n c : Nat) (x : Nat → Nat) (hr : RowU w A n x) : MvW w W H A n c x (w.alloc (.cells #[.int .i64 W, .int .i64 H, .slice A n c] 55)) := by
  have hb := (Below.refl w.heap.size w).alloc (Nat.le_refl _) (.cells #[.int .i64 W, .int .i64 H, .slice A n c] 55)
  exact ⟨hb, heap_alloc_new w _, hr.below hb⟩
/-- A box made for a plane told. -/
theorem pbx_new {V : World} {W H : Int} {A : Option Addr} {n c : Nat} {y : Nat → Nat} (hr : RowU V A n y) : PBx V.heap.size W H A n c y (V.alloc (.cells #[.int .i64 W, .int .i64 H, .slice A n c] 55)) := ⟨heap_alloc_new V _, hr.below ((Below.refl _ _).alloc (Nat.le_refl _) _)⟩
theorem pbelow_alloc (V : World) (o : Obj) : Below V.heap.size V (V.alloc o) := (Below.refl _ _).alloc (Nat.le_refl _) o
/-- What the guard lets in. -/
structure MvOk (W H : Int) (n : Nat) (border a b c d e f : Int) : Prop where
  n7 : n ≤ 700
  pe : plE W H n = 0
  bo : 1 ≤ border ∧ border ≤ 3
  a1 : -1000 ≤ a ∧ a ≤ 1000
  b1 : -1000 ≤ b ∧ b ≤ 1000
  c1 : -1000 ≤ c ∧ c ≤ 1000
  d1 : -1000 ≤ d ∧ d ≤ 1000
  e1 : -1000 ≤ e ∧ e ≤ 1000
  f1 : -1000 ≤ f ∧ f ≤ 1000
theorem plE_in {W H : Int} {n : Nat} (h : plE W H n = 0) : sizeB W H = true ∧ (n : Int) = W * H := by
  unfold plE at h
  split at h
  · exact absurd h (by decide)
  · rename_i h1
    split at h
    · exact absurd h (by decide)
    · rename_i h2
      exact ⟨by cases hh : sizeB W H <;> simp_all, by omega⟩
theorem rightE_of {kind border : Int} {t : Wp} {W H : Int} (hok : wpOk t = true) (hk : kind = 1 ∨ kind = 2) (hb : 1 ≤ border ∧ border ≤ 3) (hs : sizeB W H = true) : rightE kind border t W H = 0 := by
  unfold rightE
  rw [if_neg (by rw [hok]; decide), if_neg (by omega), if_neg (by unfold borderE; rw [if_neg (by omega), if_neg (by omega)]; decide), if_neg (by rw [hs]; decide)]
theorem wpOk_q1 {t : Wp} (hq : t.Q = 1) (h : ∀ k, k < 6 → -16777216 ≤ wpN t k ∧ wpN t k ≤ 16777216) : wpOk t = true := by
  unfold wpOk
  rw [Bool.and_eq_true, decide_eq_true_eq, List.all_eq_true]
  refine ⟨by omega, fun k hk => ?_⟩
  rw [List.mem_range] at hk
  rw [decide_eq_true_eq]
  rcases Nat.lt_or_ge k 6 with h1 | h1
  · exact h k h1
  · have : k = 6 := by omega
    subst this
    show -16777216 ≤ t.Q ∧ t.Q ≤ 16777216
    omega
theorem wp6 {t : Wp} (h : (-16777216 ≤ t.A ∧ t.A ≤ 16777216) ∧ (-16777216 ≤ t.B ∧ t.B ≤ 16777216) ∧ (-16777216 ≤ t.C ∧ t.C ≤ 16777216) ∧ (-16777216 ≤ t.D ∧ t.D ≤ 16777216) ∧ (-16777216 ≤ t.E ∧ t.E ≤ 16777216) ∧ (-16777216 ≤ t.F ∧ t.F ≤ 16777216)) : ∀ k, k < 6 → -16777216 ≤ wpN t k ∧ wpN t k ≤ 16777216 := fun k hk => by
  obtain ⟨h0, h1, h2, h3, h4, h5⟩ := h
  rcases (show k = 0 ∨ k = 1 ∨ k = 2 ∨ k = 3 ∨ k = 4 ∨ k = 5 by omega) with rfl | rfl | rfl | rfl | rfl | rfl
  · exact h0
  · exact h1
  · exact h2
  · exact h3
  · exact h4
  · exact h5
/-- The samples by whole numbers, Near. -/
def nearF (border : Int) (t : Wp) (W H : Int) (x : Nat → Nat) (w : Int) (i : Nat) : Nat := x (pxIdx W (sptAt border W H (fromU t ((i : Int) % w) ((i : Int) / w)) (fromV t ((i : Int) % w) ((i : Int) / w)) 65536))
theorem nearF_is (border : Int) (t : Wp) (W H : Int) (x : Nat → Nat) (w : Int) (i : Nat) (hq : t.Q = 1) : IsPx 1 border t W H x w i (nearF border t W H x w i) := by
  refine ⟨_, .inl ⟨rfl, rfl⟩, ?_⟩
  unfold pxOf spX nearF
  rw [if_pos rfl, hq, half_one, half_one]
  rfl
theorem nearF_lt {border : Int} {t : Wp} {W H : Int} {x : Nat → Nat} {n : Nat} (w : Int) (i : Nat) (hq : t.Q = 1) (hr : RightIn 1 border t W H) (hn : (n : Int) = W * H) (hx : ∀ k, k < n → x k < 4294967296) : nearF border t W H x w i < 4294967296 := by
  have := (spots_dot (X := (i : Int) % w) (Y := (i : Int) / w) (L := [sptAt border W H ((2 * fromU t ((i : Int) % w) ((i : Int) / w) + t.Q) / (2 * t.Q)) ((2 * fromV t ((i : Int) % w) ((i : Int) / w) + t.Q) / (2 * t.Q)) 65536]) hr hn hx (.inl ⟨rfl, rfl⟩)).1 0 (by simp)
  rw [hq, half_one, half_one] at this
  exact this

set_option maxHeartbeats 12800000 in
set_option maxRecDepth 100000 in
theorem lawMoves_calls (W H : Int) (A : Option Addr) (n c0 : Nat) (x : Nat → Nat) (border a b c d e f : Int) (w : World) (hn : n ≤ 9223372036854775807) (hr : RowU w A n x) (hx : ∀ k, k < n → x k < 4294967296) :
    Calls Try.prog 9 #[.agg #[.int .i64 W, .int .i64 H, .slice A n c0], .int .i64 border, .int .i64 a, .int .i64 b, .int .i64 c, .int .i64 d, .int .i64 e, .int .i64 f] w fun e w' => WGives w (.bool true) e w' := by
  have HKN := Lib.hid fun W => known28_calls W
  have HFW := Lib.hid fun V => few_calls V W H A n c0 hn
  have HMY : Hid (∀ V, n ≤ 700 → Calls Try.prog 34 #[.agg #[.int .i64 W, .int .i64 H, .slice A n c0]] V fun e w' => e = .returned (.int .i64 (plE W H n)) ∧ Below V.heap.size V w') := (show ∀ V, _ → _ from fun V h7 => may_calls V W H A n c0 (by omega))
  have HS := Lib.hid (MvW.start w W H A n c0 x hr)
  have HX := Lib.hid hx
  have HAB0 : Hid (1 ≤ n → ∀ ad, A = some ad → ad.block < w.heap.size) := (show _ → ∀ ad, _ → _ from fun h1 ad e => by
    obtain ⟨ad2, e2, hc⟩ := hr h1
    rw [e] at e2
    injection e2 with e2
    subst e2
    have h := World.block_lt_of_cell? _ _ (hc 0 h1)
    have hb : (ad.add 0).block = ad.block := by unfold Addr.add; split <;> rfl
    rw [hb] at h
    exact h)
  clear hr hx hn
  unfold WGives at *
  unfold plC at HFW
  go_enter Try.func9, Try.ntmps9
  go_upto_region 3 with (go_at_call 16; refine (HKN.out _).mono ?_; rintro e1 w1 ⟨rfl, hb⟩; have HM1 := Lib.hid (HS.out.below hb); clear hb)
  clear HKN HS
  have p0 := ucell HM1.out.px.bx 0
  have p1 := ucell HM1.out.px.bx 1
  have p2 := ucell HM1.out.px.bx 2
  go_cut [91] (fun v wc => ∃ g : Bool, v = .bool g ∧ Hid (g = false → MvOk W H n border a b c d e f) ∧ ∃ V, V = wc ∧ Hid (MvW w W H A n c0 x V))
  case first =>
    by_cases h7 : n ≤ 700
    · have HN7 : Hid (n ≤ 700) := (show n ≤ 700 from h7)
      have hd7 : decide (n ≤ 700) = true := decide_eq_true h7
      rw [hd7] at HFW
      clear hd7 h7
      by_cases he : plE W H n = 0
      · have HE : Hid (plE W H n = 0) := (show _ = _ from he)
        rw [he] at HMY
        clear he
        go_wp2_with (first | (go_at_call 28; refine (HFW.out _).mono ?_; rintro e1 w2 ⟨rfl, hb⟩; have HM2 := Lib.hid (HM1.out.below hb); have q0 := ucell HM2.out.px.bx 0; have q1 := ucell HM2.out.px.bx 1; have q2 := ucell HM2.out.px.bx 2; clear hb p0 p1 p2) | (go_at_call 34; refine (HMY.out _ HN7.out).mono ?_; rintro e1 w3 ⟨rfl, hb⟩; have HM3 := Lib.hid (HM2.out.below hb); clear hb q0 q1 q2))
        all_goals (go_meet; case rel => exact ⟨_, rfl, (show _ → _ from fun h => by first | (exact absurd h (by decide)) | (exact ⟨HN7.out, HE.out, by omega, by omega, by omega, by omega, by omega, by omega, by omega⟩) | (simp at h; exact ⟨HN7.out, HE.out, by omega, by omega, by omega, by omega, by omega, by omega, by omega⟩)), _, rfl, HM3.out⟩)
      · have hne : (plE W H n != 0) = true := by rw [bne_iff_ne]; exact he
        clear he
        go_wp2_with (first | (go_at_call 28; refine (HFW.out _).mono ?_; rintro e1 w2 ⟨rfl, hb⟩; have HM2 := Lib.hid (HM1.out.below hb); have q0 := ucell HM2.out.px.bx 0; have q1 := ucell HM2.out.px.bx 1; have q2 := ucell HM2.out.px.bx 2; clear hb p0 p1 p2) | (go_at_call 34; refine (HMY.out _ HN7.out).mono ?_; rintro e1 w3 ⟨rfl, hb⟩; have HM3 := Lib.hid (HM2.out.below hb); clear hb q0 q1 q2))
        go_meet
        case rel => exact ⟨true, rfl, (show _ → _ from fun h => by cases h), _, rfl, HM3.out⟩
    · have hd7 : decide (n ≤ 700) = false := decide_eq_false h7
      rw [hd7] at HFW
      clear hd7 h7
      go_wp2_with (go_at_call 28; refine (HFW.out _).mono ?_; rintro e1 w2 ⟨rfl, hb⟩; have HM2 := Lib.hid (HM1.out.below hb); have q0 := ucell HM2.out.px.bx 0; have q1 := ucell HM2.out.px.bx 1; have q2 := ucell HM2.out.px.bx 2; clear hb p0 p1 p2)
      go_meet
      case rel => exact ⟨true, rfl, (show _ → _ from fun h => by cases h), _, rfl, HM2.out⟩
  case rest =>
    obtain ⟨g, rfl, HG, V, rfl, HM⟩ := hcut
    clear p0 p1 p2 HM1 HFW HMY
    cases g with
    | true =>
      go_wp2
      go_ret
      exact ⟨rfl, HM.out.be⟩
    | false =>
      have HOK := Lib.hid (HG.out rfl)
      clear HG
      obtain ⟨hsz, hnp⟩ := plE_in HOK.out.pe
      obtain ⟨a1, a2, a3, a4, a5, a6⟩ := sizeB_in hsz
      obtain ⟨wn, ewn⟩ : ∃ k : Nat, W = (k : Int) := ⟨W.toNat, by omega⟩
      obtain ⟨hh, ehn⟩ : ∃ k : Nat, H = (k : Int) := ⟨H.toNat, by omega⟩
      subst ewn
      subst ehn
      have hnn : n = wn * hh := by have h := hnp; rw [← Int.natCast_mul] at h; exact_mod_cast h
      have hn7 := HOK.out.n7
      have HAB : Hid (∀ ad, A = some ad → ad.block < w.heap.size) := (show ∀ ad, _ → _ from HAB0.out (by rw [hnn]; exact Nat.mul_pos (by omega) (by omega)))
      clear HAB0
      have hsw : sizeB (hh : Int) (wn : Int) = true := by unfold sizeB at hsz ⊢; rw [Int.mul_comm]; simp only [Bool.and_eq_true, decide_eq_true_eq] at hsz ⊢; omega
      obtain ⟨tq, etq⟩ : ∃ t : Wp, t = ⟨a, b, c, d, e, f, 1⟩ := ⟨_, rfl⟩
      have hq1 : tq.Q = 1 := by rw [etq]
      have hok1 : wpOk tq = true := wpOk_q1 hq1 (wp6 (by rw [etq]; have := HOK.out; exact ⟨show -16777216 ≤ a ∧ a ≤ 16777216 by have := this.a1; omega, show -16777216 ≤ b ∧ b ≤ 16777216 by have := this.b1; omega, show -16777216 ≤ c ∧ c ≤ 16777216 by have := this.c1; omega, show -16777216 ≤ d ∧ d ≤ 16777216 by have := this.d1; omega, show -16777216 ≤ e ∧ e ≤ 16777216 by have := this.e1; omega, show -16777216 ≤ f ∧ f ≤ 16777216 by have := this.f1; omega⟩))
      have hE : ∀ (kind : Int) (t : Wp), kind = 1 ∨ kind = 2 → wpOk t = true → rightE kind border t (wn : Int) (hh : Int) = 0 := fun kind t hk h => rightE_of h hk HOK.out.bo hsz
      have hN1 : (n : Int) = (wn : Int) * (hh : Int) := hnp
      have hN2 : (n : Int) = (hh : Int) * (wn : Int) := by rw [hnp, Int.mul_comm]
      obtain ⟨yN, eyN⟩ : ∃ y, y = nearF border tq (wn : Int) (hh : Int) x (wn : Int) := ⟨_, rfl⟩
      have HYB : Hid (∀ k, k < n → yN k < 4294967296) := (show ∀ k, _ → _ from fun k _ => by rw [eyN]; exact nearF_lt _ _ hq1 (rightE_in (hE 1 tq (.inl rfl) hok1)) hN1 HX.out)
      have HP1 : Hid (∀ V, MvW w (wn : Int) (hh : Int) A n c0 x V → Calls Try.prog 31 #[.agg #[.int .i64 (wn : Int), .int .i64 (hh : Int), .slice A n c0], .int .i64 1, .int .i64 border, .agg #[.int .i64 1, .int .i64 0, .int .i64 0, .int .i64 0, .int .i64 1, .int .i64 0, .int .i64 1], .int .i64 (wn : Int), .int .i64 (hh : Int)] V fun e w' => PGot V (wn : Int) (hh : Int) n x e w') := (show ∀ V, _ → _ from fun V hm => (plane_yes (wn : Int) (hh : Int) A n c0 1 border ⟨1, 0, 0, 0, 1, 0, 1⟩ (wn : Int) (hh : Int) x V (by omega) hm.px.rw HX.out HOK.out.pe (hE 1 _ (.inl rfl) (wpOk_q1 rfl (wp6 (by decide)))) hsz).mono fun e w' h => pgot_of hN1 (fun i s hi h => near_same (by omega) h) h)
      have HP2 : Hid (∀ V, MvW w (wn : Int) (hh : Int) A n c0 x V → Calls Try.prog 31 #[.agg #[.int .i64 (wn : Int), .int .i64 (hh : Int), .slice A n c0], .int .i64 1, .int .i64 border, .agg #[.int .i64 a, .int .i64 b, .int .i64 c, .int .i64 d, .int .i64 e, .int .i64 f, .int .i64 1], .int .i64 (wn : Int), .int .i64 (hh : Int)] V fun e w' => PGot V (wn : Int) (hh : Int) n yN e w') := (show ∀ V, _ → _ from fun V hm => by
        have h := (plane_yes (wn : Int) (hh : Int) A n c0 1 border tq (wn : Int) (hh : Int) x V (by omega) hm.px.rw HX.out HOK.out.pe (hE 1 _ (.inl rfl) hok1) hsz).mono fun e w' h => pgot_of (N := n) (y := yN) hN1 (fun i s hi h => by rw [eyN]; exact h.unique (nearF_is _ _ _ _ _ _ _ hq1)) h
        rw [etq] at h
        exact h)
      have HP3 : Hid (∀ V, MvW w (wn : Int) (hh : Int) A n c0 x V → Calls Try.prog 31 #[.agg #[.int .i64 (wn : Int), .int .i64 (hh : Int), .slice A n c0], .int .i64 2, .int .i64 border, .agg #[.int .i64 a, .int .i64 b, .int .i64 c, .int .i64 d, .int .i64 e, .int .i64 f, .int .i64 1], .int .i64 (wn : Int), .int .i64 (hh : Int)] V fun e w' => PGot V (wn : Int) (hh : Int) n (fun k => first32 (yN k)) e w') := (show ∀ V, _ → _ from fun V hm => by
        have h := (plane_yes (wn : Int) (hh : Int) A n c0 2 border tq (wn : Int) (hh : Int) x V (by omega) hm.px.rw HX.out HOK.out.pe (hE 2 _ (.inr rfl) hok1) hsz).mono fun e w' h => pgot_of (N := n) (y := fun k => first32 (yN k)) hN1 (fun i s hi h => linear_px hq1 (HYB.out i hi) (by rw [eyN]; exact nearF_is _ _ _ _ _ _ _ hq1) h) h
        rw [etq] at h
        exact h)
      have HP4 : Hid (∀ V, MvW w (wn : Int) (hh : Int) A n c0 x V → Calls Try.prog 31 #[.agg #[.int .i64 (wn : Int), .int .i64 (hh : Int), .slice A n c0], .int .i64 1, .int .i64 border, .agg #[.int .i64 0, .int .i64 1, .int .i64 0, .int .i64 (-1), .int .i64 0, .int .i64 ((hh : Int) - 1), .int .i64 1], .int .i64 (hh : Int), .int .i64 (wn : Int)] V fun e w' => PGot V (hh : Int) (wn : Int) n (fun k => turnZ x wn hh (k % hh) (k / hh)) e w') := (show ∀ V, _ → _ from fun V hm => (plane_yes (wn : Int) (hh : Int) A n c0 1 border ⟨0, 1, 0, -1, 0, (hh : Int) - 1, 1⟩ (hh : Int) (wn : Int) x V (by omega) hm.px.rw HX.out HOK.out.pe (hE 1 _ (.inl rfl) (wpOk_q1 rfl (wp6 (by dsimp only; omega)))) hsw).mono fun e w' h => pgot_of hN2 (fun i s hi h => near_turn (by rw [Nat.mul_comm]; omega) h) h)
      have HP5 : Hid (∀ V, MvW w (wn : Int) (hh : Int) A n c0 x V → Calls Try.prog 31 #[.agg #[.int .i64 (wn : Int), .int .i64 (hh : Int), .slice A n c0], .int .i64 1, .int .i64 border, .agg #[.int .i64 (-1), .int .i64 0, .int .i64 ((wn : Int) - 1), .int .i64 0, .int .i64 1, .int .i64 0, .int .i64 1], .int .i64 (wn : Int), .int .i64 (hh : Int)] V fun e w' => PGot V (wn : Int) (hh : Int) n (fun k => flipZ x wn hh (k % wn) (k / wn)) e w') := (show ∀ V, _ → _ from fun V hm => (plane_yes (wn : Int) (hh : Int) A n c0 1 border ⟨-1, 0, (wn : Int) - 1, 0, 1, 0, 1⟩ (wn : Int) (hh : Int) x V (by omega) hm.px.rw HX.out HOK.out.pe (hE 1 _ (.inl rfl) (wpOk_q1 rfl (wp6 (by dsimp only; omega)))) hsz).mono fun e w' h => pgot_of hN1 (fun i s hi h => near_flip (by omega) h) h)
      have HT : Hid (∀ V, MvW w (wn : Int) (hh : Int) A n c0 x V → Calls Try.prog 38 #[.agg #[.int .i64 (wn : Int), .int .i64 (hh : Int), .slice A n c0], .int .i64 1] V fun e w' => PGot V (hh : Int) (wn : Int) n (fun k => turnZ x wn hh (k % hh) (k / hh)) e w') := (show ∀ V, _ → _ from fun V hm => (turn_calls V wn hh A n c0 x hsz hnn (by omega) hm.px.rw).mono fun e w' h => pgot_mv (by omega) (fun k hk => rfl) h)
      have HF : Hid (∀ V, MvW w (wn : Int) (hh : Int) A n c0 x V → Calls Try.prog 39 #[.agg #[.int .i64 (wn : Int), .int .i64 (hh : Int), .slice A n c0], .bool true] V fun e w' => PGot V (wn : Int) (hh : Int) n (fun k => flipZ x wn hh (k % wn) (k / wn)) e w') := (show ∀ V, _ → _ from fun V hm => (flip_calls V wn hh A n c0 x hsz hnn (by omega) hm.px.rw).mono fun e w' h => pgot_mv (by omega) (fun k hk => rfl) h)
      have HEQ2 : Hid (∀ (V : World) (W H : Int) (A B : Option Addr) (c d : Nat) (x y : Nat → Nat), RowU V A n x → RowU V B n y → (∀ k, k < n → x k = y k) → Calls Try.prog 32 #[.agg #[.int .i64 W, .int .i64 H, .slice A n c], .agg #[.int .i64 W, .int .i64 H, .slice B n d]] V fun e w' => e = .returned (.bool true) ∧ Below V.heap.size V w') := (show ∀ V W H A B c d x y, _ → _ → _ → _ from fun V W H A B c d x y h1 h2 h3 => hplane_yes V W H A B n c d x y h1 h2 (by omega) h3)
      have HEQ : Hid (∀ (V : World) (W H : Int) (A B : Option Addr) (c d : Nat) (x y : Nat → Nat), RowU V A n x → RowU V B n y → (∀ k, k < n → x k = y k) → Calls Try.prog 32 #[.agg #[.int .i64 W, .int .i64 H, .slice A n c], .agg #[.int .i64 W, .int .i64 H, .slice B n d]] V fun e w' => e = .returned (.bool true) ∧ Below V.heap.size V w') := (show ∀ V W H A B c d x y, _ → _ → _ → _ from fun V W H A B c d x y h1 h2 h3 => hplane_yes V W H A B n c d x y h1 h2 (by omega) h3)
      have WH : IntKind.i64.wrap ((hh : Int) - 1) = (hh : Int) - 1 := IntWalk.i64_in _ (by omega)
      have WW : IntKind.i64.wrap ((wn : Int) - 1) = (wn : Int) - 1 := IntWalk.i64_in _ (by omega)
      clear hsz hnp a1 a2 a3 a4 a5 a6 hnn hsw hq1 hok1 hE hN1 hN2 eyN etq
      have p0 := ucell HM.out.px.bx 0
      have p1 := ucell HM.out.px.bx 1
      have p2 := ucell HM.out.px.bx 2
      go_upto_region 13 with (first
        | (go_at_call 31; (with_reducible refine (HP1.out _ HM.out).mono ?_); rintro e1 w4 ⟨A4, c4, rfl, hr4, hlo4, hb⟩; have HM4 := Lib.hid ((HM.out.below hb).below (pbelow_alloc w4 (.cells #[.int .i64 (wn : Int), .int .i64 (hh : Int), .slice A4 n c4] 55))); have HQ4 := Lib.hid (pbx_new (W := (wn : Int)) (H := (hh : Int)) (c := c4) hr4); clear hb hr4 hlo4 p0 p1 p2; have q0 := ucell HM4.out.px.bx 0; have q1 := ucell HM4.out.px.bx 1; have q2 := ucell HM4.out.px.bx 2; have s0 := ucell HQ4.out.bx 0; have s1 := ucell HQ4.out.bx 1; have s2 := ucell HQ4.out.bx 2)
        | (go_at_call 32; go_loud (refine (HEQ.out _ _ _ _ _ _ _ _ _ HQ4.out.rw HM4.out.px.rw (fun _ _ => rfl)).mono ?_; rintro e1 w5 ⟨rfl, hb⟩; have HM5 := Lib.hid ((HM4.out.below hb).below (pbelow_alloc w5 (.cells #[.int .i64 a, .int .i64 b, .int .i64 c, .int .i64 d, .int .i64 e, .int .i64 f, .int .i64 1] 32))); have HT5 : Hid (BoxW (w5.alloc (.cells #[.int .i64 a, .int .i64 b, .int .i64 c, .int .i64 d, .int .i64 e, .int .i64 f, .int .i64 1] 32)) w5.heap.size ⟨a, b, c, d, e, f, 1⟩) := (show BoxW _ _ _ from BoxW.new w5 ⟨a, b, c, d, e, f, 1⟩); clear hb q0 q1 q2 s0 s1 s2; have p0 := ucell HM5.out.px.bx 0; have p1 := ucell HM5.out.px.bx 1; have p2 := ucell HM5.out.px.bx 2; obtain ⟨t0, t1, t2, t3, t4, t5, t6⟩ := HT5.out.cells))
        | (go_at_call 31; (with_reducible refine (HP2.out _ HM5.out).mono ?_); rintro e1 w6 ⟨A6, c6, rfl, hr6, hlo6, hb⟩; have HM6 := Lib.hid ((HM5.out.below hb).below (pbelow_alloc w6 (.cells #[.int .i64 (wn : Int), .int .i64 (hh : Int), .slice A6 n c6] 55))); have HQ6 := Lib.hid (pbx_new (W := (wn : Int)) (H := (hh : Int)) (c := c6) hr6); have HT6 := Lib.hid ((HT5.out.below hb).below (pbelow_alloc w6 (.cells #[.int .i64 (wn : Int), .int .i64 (hh : Int), .slice A6 n c6] 55))); clear hb hr6 hlo6 p0 p1 p2 t0 t1 t2 t3 t4 t5 t6; have q0 := ucell HM6.out.px.bx 0; have q1 := ucell HM6.out.px.bx 1; have q2 := ucell HM6.out.px.bx 2; obtain ⟨t0, t1, t2, t3, t4, t5, t6⟩ := HT6.out.cells)
        | (go_at_call 31; (with_reducible refine (HP3.out _ HM6.out).mono ?_); rintro e1 w7 ⟨A7, c7, rfl, hr7, hlo7, hb⟩; have HM7 := Lib.hid ((HM6.out.below hb).below (pbelow_alloc w7 (.cells #[.int .i64 (wn : Int), .int .i64 (hh : Int), .slice A7 n c7] 55))); have HQ7 := Lib.hid (pbx_new (W := (wn : Int)) (H := (hh : Int)) (c := c7) hr7); have HN7 := Lib.hid ((HQ6.out.below hb).below (pbelow_alloc w7 (.cells #[.int .i64 (wn : Int), .int .i64 (hh : Int), .slice A7 n c7] 55))); clear hb hr7 hlo7 q0 q1 q2 t0 t1 t2 t3 t4 t5 t6; have p0 := ucell HM7.out.px.bx 0; have p1 := ucell HM7.out.px.bx 1; have p2 := ucell HM7.out.px.bx 2; have s2 := ucell HQ7.out.bx 2; have n2 := ucell HN7.out.bx 2))
      clear p0 p1 p2 s2 n2 HM HM4 HQ4 HM5 HT5 HM6 HQ6 HT6 HP1 HP2 HP3
      obtain ⟨gn, egn⟩ : ∃ g, g = w6.heap.size := ⟨_, rfl⟩
      obtain ⟨gl, egl⟩ : ∃ g, g = w7.heap.size := ⟨_, rfl⟩
      rw [← egn] at HN7 ⊢
      rw [← egl] at HQ7 ⊢
      clear egn egl
      generalize w7.alloc (.cells #[.int .i64 (wn : Int), .int .i64 (hh : Int), .slice A7 n c7] 55) = W8 at HM7 HN7 HQ7 ⊢
      go_wp2
      go_loopw [23] (fun v wr => ∃ i : Nat, v = .int .i64 (i : Int) ∧ i ≤ n ∧ Hid (MvW w (wn : Int) (hh : Int) A n c0 x wr) ∧ Hid (PBx gn (wn : Int) (hh : Int) A6 n c6 yN wr) ∧ Hid (PBx gl (wn : Int) (hh : Int) A7 n c7 (fun k => first32 (yN k)) wr)) (fun v _ => n - (intOf v).toNat)
      case atStart => exact ⟨0, rfl, Nat.zero_le _, HM7.out, HN7.out, HQ7.out⟩
      case round =>
        obtain ⟨i, rfl, hi, HMi, HNi, HLi⟩ := hrel
        clear HM7 HN7 HQ7
        have p2 := ucell HMi.out.px.bx 2
        by_cases hlt : i < n
        · as_aux_lemma =>
            have hltz : (i : Int) < (n : Int) := by omega
            obtain ⟨an, ean, hcn⟩ := HNi.out.rw (by omega)
            obtain ⟨al, eal, hcl⟩ := HLi.out.rw (by omega)
            subst ean
            subst eal
            have s2 := ucell HLi.out.bx 2
            have n2 := ucell HNi.out.bx 2
            have kn := hcn i hlt
            have kl : wr.cell? (al.add i) = some (.int .u32 ((first32 (yN i) : Nat) : Int)) := hcl i hlt
            have HYI := HYB.out i hlt
            obtain ⟨yi, eyi⟩ : ∃ y, y = yN i := ⟨_, rfl⟩
            obtain ⟨fi, efi⟩ : ∃ y, y = first32 (yN i) := ⟨_, rfl⟩
            have HMD := Lib.hid fun q => lmade_calls (yN i) HYI (wr.drewN q)
            rw [← efi] at kl HMD
            rw [← eyi] at kn HMD
            have hbn : ((fi : Int) != (fi : Int)) = false := bne_self_eq_false _
            clear hcn hcl HYI eyi efi
            go_upto_region 16 with (fail)
            go_quiet ((go_at_call 37; with_reducible exact Calls.quiet_of_same ((HMD.out _).mono fun _ _ h => ⟨h.1, h.2.symm⟩)))
            have hbq := pw_below_drewN (Below.refl wr.heap.size wr) nq
            have H1 := Lib.hid (HMi.out.below hbq)
            have H2 := Lib.hid (HNi.out.below hbq)
            have H3 := Lib.hid (HLi.out.below hbq)
            clear hbq HMD p2 s2 n2 kn kl
            generalize wr.drewN nq = wq at H1 H2 H3 ⊢
            go_wp2
            go_roundw
            case rel => exact ⟨i + 1, by first | rfl | go_num, by omega, H1.out, H2.out, H3.out⟩
            case measure => simp [intOf]; omega
        · as_aux_lemma =>
            have hltz : ¬ (i : Int) < (n : Int) := by omega
            have p0 := ucell HMi.out.px.bx 0
            have p1 := ucell HMi.out.px.bx 1
            go_upto_region 22 with (first
              | (go_at_call 31; (with_reducible refine (HP4.out _ HMi.out).mono ?_); rintro e1 w9 ⟨A9, c9, rfl, hr9, hlo9, hb⟩; have hal := pbelow_alloc w9 (.cells #[.int .i64 (hh : Int), .int .i64 (wn : Int), .slice A9 n c9] 55); have HM9 := Lib.hid ((HMi.out.below hb).below hal); have HX9 := Lib.hid (pbx_new (W := (hh : Int)) (H := (wn : Int)) (c := c9) hr9); have HO9 : Hid (w.heap.size < w9.heap.size) := (show _ < _ from by have h1 := heap_lt' HMi.out.px.bx; have h2 := hb.size; omega); clear hb hr9 hlo9 p0 p1 p2 hal; have p0 := ucell HM9.out.px.bx 0; have p1 := ucell HM9.out.px.bx 1; have p2 := ucell HM9.out.px.bx 2)
              | (go_at_call 38; (with_reducible refine (HT.out _ HM9.out).mono ?_); rintro e1 w10 ⟨A10, c10, rfl, hr10, hlo10, hb⟩; have hal := pbelow_alloc w10 (.cells #[.int .i64 (hh : Int), .int .i64 (wn : Int), .slice A10 n c10] 55); have HM10 := Lib.hid ((HM9.out.below hb).below hal); have HX10 := Lib.hid ((HX9.out.below hb).below hal); have HY10 := Lib.hid (pbx_new (W := (hh : Int)) (H := (wn : Int)) (c := c10) hr10); have HO10 : Hid (w9.heap.size < w10.heap.size) := (show _ < _ from by have h1 := heap_lt' HX9.out.bx; have h2 := hb.size; omega); clear hb hr10 hlo10 p0 p1 p2 hal; have q0 := ucell HX10.out.bx 0; have q1 := ucell HX10.out.bx 1; have q2 := ucell HX10.out.bx 2; have s0 := ucell HY10.out.bx 0; have s1 := ucell HY10.out.bx 1; have s2 := ucell HY10.out.bx 2)
              | (go_at_call 32; (with_reducible refine (HEQ.out _ _ _ _ _ _ _ _ _ HX10.out.rw HY10.out.rw (fun _ _ => rfl)).mono ?_); rintro e1 w11 ⟨rfl, hb⟩; have HM11 := Lib.hid (HM10.out.below hb); have HX11 := Lib.hid (HX10.out.below hb); have HY11 := Lib.hid (HY10.out.below hb); clear hb q0 q1 q2 s0 s1 s2))
            obtain ⟨gx, egx⟩ : ∃ g, g = w9.heap.size := ⟨_, rfl⟩
            obtain ⟨gy, egy⟩ : ∃ g, g = w10.heap.size := ⟨_, rfl⟩
            rw [← egx] at HX11 HO9 HO10 ⊢
            rw [← egy] at HY11 HO10 ⊢
            clear egx egy HM9 HM10 HX9 HX10 HY10 HP4 HT HMi HNi HLi
            have p0 := ucell HM11.out.px.bx 0
            have p1 := ucell HM11.out.px.bx 1
            have p2 := ucell HM11.out.px.bx 2
            have HGX : Hid (gx < w11.heap.size ∧ gy < w11.heap.size) := (show _ ∧ _ from ⟨heap_lt' HX11.out.bx, heap_lt' HY11.out.bx⟩)
            go_upto_region 23 with (go_at_call 31; (with_reducible refine (HP5.out _ HM11.out).mono ?_); rintro e1 w12 ⟨A12, c12, rfl, hr12, hlo12, hb⟩; have HM12 := Lib.hid (HM11.out.below hb); have HX12 := Lib.hid (HX11.out.below hb); have HY12 := Lib.hid (HY11.out.below hb); have HR12 := Lib.hid hr12; have HL12 := Lib.hid hlo12; clear hb hr12 hlo12 p0 p1 p2; obtain ⟨d1, d2, d3, d4, d5, d6⟩ := st3 HX12.out.bx (.int .i64 (wn : Int)) (.int .i64 (hh : Int)))
            have HX13 : Hid (PBx gx (wn : Int) (hh : Int) A12 n c12 (fun k => flipZ x wn hh (k % wn) (k / wn)) (((w12.setCell ⟨gx, 0, none⟩ (.int .i64 (wn : Int))).setCell ⟨gx, 1, none⟩ (.int .i64 (hh : Int))).setCell ⟨gx, 2, none⟩ (.slice A12 n c12))) := (show PBx _ _ _ _ _ _ _ _ from ⟨st3_end HX12.out.bx, st3_row HR12.out (fun ad e => by have := HL12.out ad e; have := HGX.out; omega)⟩)
            have HY13 : Hid (∃ a b c, (((w12.setCell ⟨gx, 0, none⟩ (.int .i64 (wn : Int))).setCell ⟨gx, 1, none⟩ (.int .i64 (hh : Int))).setCell ⟨gx, 2, none⟩ (.slice A12 n c12)).heap[gy]? = some (.cells #[a, b, c] 55 (0, 0))) := (show ∃ _, _ from ⟨_, _, _, (st3_far (k := gy) (by have := HO10.out; omega)).trans HY12.out.bx⟩)
            have HM13 : Hid (MvW w (wn : Int) (hh : Int) A n c0 x (((w12.setCell ⟨gx, 0, none⟩ (.int .i64 (wn : Int))).setCell ⟨gx, 1, none⟩ (.int .i64 (hh : Int))).setCell ⟨gx, 2, none⟩ (.slice A12 n c12))) := (show MvW _ _ _ _ _ _ _ _ from HM12.out.put HO9.out HAB.out)
            have HL13 : Hid (∀ ad, A12 = some ad → gy < ad.block) := (show ∀ ad, _ → _ from fun ad e => by have := HL12.out ad e; have := HGX.out; omega)
            clear d1 d2 d3 d4 d5 d6 HM12 HX12 HY12 HR12 HL12 HM11 HX11 HY11 HP5
            generalize ((w12.setCell ⟨gx, 0, none⟩ (.int .i64 (wn : Int))).setCell ⟨gx, 1, none⟩ (.int .i64 (hh : Int))).setCell ⟨gx, 2, none⟩ (.slice A12 n c12) = W13 at HX13 HY13 HM13 ⊢
            have p0 := ucell HM13.out.px.bx 0
            have p1 := ucell HM13.out.px.bx 1
            have p2 := ucell HM13.out.px.bx 2
            have HGZ : Hid (w.heap.size < gy ∧ gy < W13.heap.size) := (show _ ∧ _ from by obtain ⟨_, _, _, h⟩ := HY13.out; exact ⟨by have := HO9.out; have := HO10.out; omega, heap_lt' h⟩)
            go_upto_region 24 with (go_at_call 39; (with_reducible refine (HF.out _ HM13.out).mono ?_); rintro e1 w14 ⟨A14, c14, rfl, hr14, hlo14, hb⟩; have HM14 := Lib.hid (HM13.out.below hb); have HX14 := Lib.hid (HX13.out.below hb); have HY14 := Lib.hid HY13.out; obtain ⟨ya, yb, yc, hy14⟩ := HY14.out; have HY15 := Lib.hid ((hb.block _ (heap_lt' hy14)).trans hy14); have HR14 := Lib.hid hr14; have HL14 := Lib.hid hlo14; clear hb hr14 hlo14 p0 p1 p2 hy14; obtain ⟨d1, d2, d3, d4, d5, d6⟩ := st3 HY15.out (.int .i64 (wn : Int)) (.int .i64 (hh : Int)))
            have HY16 : Hid (PBx gy (wn : Int) (hh : Int) A14 n c14 (fun k => flipZ x wn hh (k % wn) (k / wn)) (((w14.setCell ⟨gy, 0, none⟩ (.int .i64 (wn : Int))).setCell ⟨gy, 1, none⟩ (.int .i64 (hh : Int))).setCell ⟨gy, 2, none⟩ (.slice A14 n c14))) := (show PBx _ _ _ _ _ _ _ _ from ⟨st3_end HY15.out, st3_row HR14.out (fun ad e => by have := HL14.out ad e; have := HGZ.out; omega)⟩)
            have HX16 : Hid (PBx gx (wn : Int) (hh : Int) A12 n c12 (fun k => flipZ x wn hh (k % wn) (k / wn)) (((w14.setCell ⟨gy, 0, none⟩ (.int .i64 (wn : Int))).setCell ⟨gy, 1, none⟩ (.int .i64 (hh : Int))).setCell ⟨gy, 2, none⟩ (.slice A14 n c14))) := (show PBx _ _ _ _ _ _ _ _ from ⟨(st3_far (k := gx) (by have := HO10.out; omega)).trans HX14.out.bx, st3_row HX14.out.rw HL13.out⟩)
            have HM16 : Hid (Below w.heap.size w (((w14.setCell ⟨gy, 0, none⟩ (.int .i64 (wn : Int))).setCell ⟨gy, 1, none⟩ (.int .i64 (hh : Int))).setCell ⟨gy, 2, none⟩ (.slice A14 n c14))) := (show Below _ _ _ from st3_below HM14.out.be (by have := HGZ.out; omega))
            clear d1 d2 d3 d4 d5 d6 HM14 HX14 HY14 HY15 HR14 HL14 HM13 HX13 HY13 HF
            generalize ((w14.setCell ⟨gy, 0, none⟩ (.int .i64 (wn : Int))).setCell ⟨gy, 1, none⟩ (.int .i64 (hh : Int))).setCell ⟨gy, 2, none⟩ (.slice A14 n c14) = W16 at HY16 HX16 HM16 ⊢
            have q0 := ucell HX16.out.bx 0
            have q1 := ucell HX16.out.bx 1
            have q2 := ucell HX16.out.bx 2
            have s0 := ucell HY16.out.bx 0
            have s1 := ucell HY16.out.bx 1
            have s2 := ucell HY16.out.bx 2
            go_wp2_with (go_at_call 32; (with_reducible refine (HEQ2.out _ _ _ _ _ _ _ _ _ HX16.out.rw HY16.out.rw (fun _ _ => rfl)).mono ?_); rintro e1 w17 ⟨rfl, hb⟩; have HB17 := Lib.hid (ujoin HM16.out hb); clear hb q0 q1 q2 s0 s1 s2)
            go_ret
            exact ⟨rfl, HB17.out⟩
theorem lawMoves_row (W H : Int) (A : Option Addr) (n c0 : Nat) (x : Nat → Nat) (border a b c d e f : Int) (w : World) (hr : RowU w A n x) (hc : n ≤ c0) (hm : n ≤ 9223372036854775807) (hl : ∀ k, k < n → x k < 4294967296) (hW : -9223372036854775808 ≤ W ∧ W ≤ 9223372036854775807) (hH : -9223372036854775808 ≤ H ∧ H ≤ 9223372036854775807) :
    Calls Try.prog 9 #[.agg #[.int .i64 W, .int .i64 H, .slice A n c0], .int .i64 border, .int .i64 a, .int .i64 b, .int .i64 c, .int .i64 d, .int .i64 e, .int .i64 f] w fun e w' => WGives w (.bool true) e w' :=
  lawMoves_calls W H A n c0 x border a b c d e f w hm hr hl
end Go.Proofs.Ytdcpeeolfgohmaa
