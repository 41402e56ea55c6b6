/- halidelaw28.WarpKeeps: the walk. -/
import Derived.Test.YtdcpeeolfgohmaaKpP
import Derived.Test.YtdcpeeolfgohmaaPlOw
import Derived.Test.YtdcpeeolfgohmaaMkHI
import Derived.Test.YtdcpeeolfgohmaaWsBE
import Derived.BigQuiet
namespace Go.Proofs.Ytdcpeeolfgohmaa
open Go.RowKit Go.Proofs.YtdcpeeolfgohmaaW.PrintWords
set_option linter.unusedSimpArgs false
set_option linter.unusedVariables false
attribute [local go_sem] Oper.semAt_some

/-- A plane in a box. -/
structure PBk (g : Nat) (W H : Int) (A : Option Addr) (n c : Nat) (y : Nat → Nat) (V : World) : Prop where
  bx : V.heap[g]? = some (.cells #[.int .i64 W, .int .i64 H, .slice A n c] 55 (0, 0))
  rw : RowU V A n y
theorem PBk.below {g : Nat} {W H : Int} {A : Option Addr} {n c : Nat} {y : Nat → Nat} {V V' : World} (h : PBk g W H A n c y V) (hb : Below V.heap.size V V') : PBk g W H A n c y V' := ⟨(hb.block _ (heap_lt' h.bx)).trans h.bx, h.rw.below hb⟩
theorem PBk.new {V : World} {W H : Int} {A : Option Addr} {n c : Nat} {y : Nat → Nat} (hr : RowU V A n y) : PBk V.heap.size W H A n c y (V.alloc (.cells #[.int .i64 W, .int .i64 H, .slice A n c] 55)) := ⟨heap_alloc_new V _, hr.below ((Below.refl _ _).alloc (Nat.le_refl _) _)⟩
theorem kbelow_alloc (V : World) (o : Obj) : Below V.heap.size V (V.alloc o) := (Below.refl _ _).alloc (Nat.le_refl _) o
/-- What Plane tells: samples, each a place's. -/
def PGk (w0 : World) (border : Int) (t : Wp) (W H : Int) (x : Nat → Nat) (w h : Int) (N : Nat) (e : Ending) (w' : World) : Prop := ∃ A c y, e = .returned (.tuple #[.agg #[.int .i64 w, .int .i64 h, .slice A N c], .int .i64 0]) ∧ RowU w' A N y ∧ (∀ i, i < N → IsPx 2 border t W H x w i (y i)) ∧ (∀ ad, A = some ad → w0.heap.size ≤ ad.block) ∧ Below w0.heap.size w0 w'
theorem pgk_of {border : Int} {t : Wp} {W H : Int} {x : Nat → Nat} {w h : Int} {N : Nat} {w0 w' : World} {e : Ending} (hN : (N : Int) = w * h) (hp : PlaneEnd w0 2 border t W H x w h e w') : PGk w0 border t W H x w h N e w' := by
  obtain ⟨v, cs, rfl, ho, hl, hp, hb⟩ := hp
  have hlN : cs.length = N := by omega
  have pick : ∀ i, ∃ s, i < N → cs[i]? = some (.int .u32 ((s : Nat) : Int)) ∧ IsPx 2 border t W H x w i s := fun i => by
    by_cases h : i < N
    · obtain ⟨s, h1, h2⟩ := hp i (by omega)
      exact ⟨s, fun _ => ⟨h1, h2⟩⟩
    · exact ⟨0, fun h2 => absurd h2 h⟩
  obtain ⟨y, hy⟩ := Classical.axiomOfChoice pick
  obtain ⟨A, c, e, hc, -, hr⟩ := ho.row
  rw [hlN] at e hr
  subst e
  exact ⟨A, c, y, rfl, fun hn => by obtain ⟨ad, eA, hcl⟩ := hr hn; exact ⟨ad, eA, fun i hi => hcl i _ (hy i hi).1⟩, fun i hi => (hy i hi).2, fun ad e => (ho.lt ad.block (by rw [e]; rfl)).1, hb⟩
/-- The plane that the law has, and the warp, in their boxes. -/
structure KpW (w : World) (W H : Int) (A : Option Addr) (n c : Nat) (x : Nat → Nat) (t : Wp) (V : World) : Prop where
  be : Below w.heap.size w V
  px : PBk w.heap.size W H A n c x V
  tb : BoxW V (w.heap.size + 1) t
theorem KpW.below {w : World} {W H : Int} {A : Option Addr} {n c : Nat} {x : Nat → Nat} {t : Wp} {V V' : World} (h : KpW w W H A n c x t V) (hb : Below V.heap.size V V') : KpW w W H A n c x t V' := ⟨ujoin h.be hb, h.px.below hb, h.tb.below hb⟩
theorem KpW.start (w : World) (W H : Int) (A : Option Addr) (n c : Nat) (x : Nat → Nat) (t : Wp) (hr : RowU w A n x) : KpW w W H A n c x t ((w.alloc (.cells #[.int .i64 W, .int .i64 H, .slice A n c] 55)).alloc (.cells #[.int .i64 t.A, .int .i64 t.B, .int .i64 t.C, .int .i64 t.D, .int .i64 t.E, .int .i64 t.F, .int .i64 t.Q] 32)) := by
  have b1 := kbelow_alloc w (.cells #[.int .i64 W, .int .i64 H, .slice A n c] 55)
  obtain ⟨w1, e1⟩ : ∃ w1, w1 = w.alloc (.cells #[.int .i64 W, .int .i64 H, .slice A n c] 55) := ⟨_, rfl⟩
  have z1 : PBk w.heap.size W H A n c x w1 := by rw [e1]; exact PBk.new hr
  have s1 : w1.heap.size = w.heap.size + 1 := by rw [e1, World.size_alloc]
  rw [← e1] at b1 ⊢
  have b2 := kbelow_alloc w1 (.cells #[.int .i64 t.A, .int .i64 t.B, .int .i64 t.C, .int .i64 t.D, .int .i64 t.E, .int .i64 t.F, .int .i64 t.Q] 32)
  have z2 := BoxW.new w1 t
  rw [s1] at z2
  exact ⟨ujoin b1 b2, z1.below b2, z2⟩
/-- And the plane of one sample, its box and its row. -/
structure KpF (w : World) (W H : Int) (A : Option Addr) (n c : Nat) (x : Nat → Nat) (t : Wp) (g gf c4 : Nat) (y : Nat → Nat) (V : World) : Prop where
  kw : KpW w W H A n c x t V
  fb : V.heap[gf]? = some (.cells #[.int .i64 W, .int .i64 H, .slice (some ⟨g, 0, none⟩) n c4] 55 (0, 0))
  ow : OwnV V w.heap.size (.slice (some ⟨g, 0, none⟩) n c4) n y
  og : w.heap.size + 2 ≤ g ∧ g < gf
theorem KpF.row {w : World} {W H : Int} {A : Option Addr} {n c : Nat} {x : Nat → Nat} {t : Wp} {g gf c4 : Nat} {y : Nat → Nat} {V : World} (h : KpF w W H A n c x t g gf c4 y V) : RowU V (some ⟨g, 0, none⟩) n y := by
  obtain ⟨A', c', e, -, hr, -⟩ := h.ow.row
  injection e with e1
  subst e1
  exact hr
theorem KpF.cell {w : World} {W H : Int} {A : Option Addr} {n c : Nat} {x : Nat → Nat} {t : Wp} {g gf c4 : Nat} {y : Nat → Nat} {V : World} (h : KpF w W H A n c x t g gf c4 y V) {k : Nat} (hk : k < n) : V.cell? ⟨g, k, none⟩ = some (.int .u32 ((y k : Nat) : Int)) ∧ V.frozen? ⟨g, k, none⟩ = false := by
  obtain ⟨g', c', e, -, -, h1, h2⟩ := h.ow.form (by omega)
  injection e with e1
  injection e1 with e2
  injection e2 with e3
  subst e3
  exact ⟨h1 k hk, h2 k⟩
theorem KpF.set {w : World} {W H : Int} {A : Option Addr} {n c : Nat} {x : Nat → Nat} {t : Wp} {g gf c4 : Nat} {y : Nat → Nat} {V : World} (h : KpF w W H A n c x t g gf c4 y V) (hA : ∀ ad, A = some ad → ad.block < w.heap.size) (k s : Nat) : KpF w W H A n c x t g gf c4 (updN y k s) (V.setCell ⟨g, k, none⟩ (.int .u32 (s : Int))) := by
  have o := h.og
  have st : ∀ j, j ≠ g → (V.setCell ⟨g, k, none⟩ (.int .u32 (s : Int))).heap[j]? = V.heap[j]? := fun j hj => Below.heap_setCell _ ⟨g, k, none⟩ _ _ hj
  refine ⟨⟨h.kw.be.setCell (p := ⟨g, k, none⟩) (by show _ ≤ g; omega) _, ⟨(st _ (by omega)).trans h.kw.px.bx, h.kw.px.rw.far _ _ fun ad e => by have := hA ad e; show ad.block ≠ g; omega⟩, (st _ (by omega)).trans h.kw.tb⟩, (st _ (by omega)).trans h.fb, ?_, o⟩
  have := h.ow.set k s
  rw [show (⟨g, 0, none⟩ : Addr).off + k = k by simp] at this
  exact this
/-- The plane told, in its box. -/
structure KpQ (w : World) (W H : Int) (A : Option Addr) (n c : Nat) (x : Nat → Nat) (t : Wp) (gq : Nat) (u v : Int) (B : Option Addr) (N d : Nat) (y : Nat → Nat) (V : World) : Prop where
  kw : KpW w W H A n c x t V
  qb : PBk gq u v B N d y V
theorem KpQ.below {w : World} {W H : Int} {A : Option Addr} {n c : Nat} {x : Nat → Nat} {t : Wp} {gq : Nat} {u v : Int} {B : Option Addr} {N d : Nat} {y : Nat → Nat} {V V' : World} (h : KpQ w W H A n c x t gq u v B N d y V) (hb : Below V.heap.size V V') : KpQ w W H A n c x t gq u v B N d y V' := ⟨h.kw.below hb, h.qb.below hb⟩
/-- What the guard lets in. -/
structure KpOk (W H : Int) (n : Nat) (u v : Int) (ex : Nat) : Prop where
  n7 : n ≤ 700
  pe : plE W H n = 0
  u1 : 1 ≤ u ∧ u ≤ 20
  v1 : 1 ≤ v ∧ v ≤ 20
  ex : ex ≠ 255
theorem kplE_in {W H : Int} {n : Nat} (h : plE W H n = 0) : sizeB W H = true ∧ (n : Int) = W * H := by
  unfold plE at h
  split at h
  · exact absurd h (by decide)
  · rename_i h1
    split at h
    · exact absurd h (by decide)
    · rename_i h2
      exact ⟨by cases hh : sizeB W H <;> simp_all, by omega⟩
theorem wtTo_mono (L : List Spt) {i : Nat} : ∀ {n : Nat}, i ≤ n → wtTo L i ≤ wtTo L n := fun {n} => by
  induction n with
  | zero => intro h; rw [show i = 0 by omega]; exact Nat.le_refl _
  | succ n ih =>
    intro h
    rcases Nat.lt_or_ge i (n + 1) with h1 | h1
    · have := ih (by omega)
      rw [wtTo_succ]
      omega
    · rw [show i = n + 1 by omega]; exact Nat.le_refl _
set_option maxRecDepth 100000 in
theorem inf1_calls (w : World) : Calls Try.prog 35 #[.int .i64 1] w fun e w' => e = .returned (.float .f64 pInf) ∧ w = w' := by
  have h : ∀ V, (callFunc 74 #[.int .u64 9218868437227405312]).run Try.prog V = .ok (.value (.float .f64 pInf)) V := fun V => run_frombits64 9218868437227405312 V
  go_enter Try.func35, Try.ntmps35
  go_wp2
  go_ret
  exact ⟨rfl, rfl⟩
set_option maxRecDepth 100000 in
theorem inf2_calls (w : World) : Calls Try.prog 35 #[.int .i64 (-1)] w fun e w' => e = .returned (.float .f64 nInf) ∧ w = w' := by
  have h : ∀ V, (callFunc 74 #[.int .u64 18442240474082181120]).run Try.prog V = .ok (.value (.float .f64 nInf)) V := fun V => run_frombits64 18442240474082181120 V
  go_enter Try.func35, Try.ntmps35
  go_wp2
  go_ret
  exact ⟨rfl, rfl⟩
theorem upd_next (x : Nat → Nat) (i s : Nat) : updN (fun k => if k < i then s else x k) i s = fun k => if k < i + 1 then s else x k := by
  funext k
  unfold updN
  by_cases h : k = i
  · rw [if_pos h, if_pos (by omega)]
  · rw [if_neg h]
    show (if k < i then s else x k) = _
    by_cases h2 : k < i
    · rw [if_pos h2, if_pos (by omega)]
    · rw [if_neg h2, if_neg (by omega)]
theorem OwnV.base {W : World} {base base' : Nat} {v : Value} {n : Nat} {x : Nat → Nat} (h : OwnV W base v n x) (hb : base' ≤ base) : OwnV W base' v n x := by
  obtain ⟨hl, h⟩ := h
  rcases h with ⟨rfl, h0⟩ | ⟨g, cap, cur, rfl, hbg, hg, hr⟩
  · exact ⟨hl, .inl ⟨rfl, h0⟩⟩
  · exact ⟨hl, .inr ⟨g, cap, cur, rfl, Nat.le_trans hb hbg, hg, hr⟩⟩
theorem OwnV.at1 {W : World} {base : Nat} {v : Value} {n : Nat} {x : Nat → Nat} (h : OwnV W base v n x) (hn : 1 ≤ n) : ∃ g c, v = .slice (some ⟨g, 0, none⟩) n c ∧ base ≤ g ∧ g < W.heap.size := by
  obtain ⟨A, c, e, -, -, hb, -⟩ := h.row
  obtain ⟨g, c', e', -, -, -, -⟩ := h.form hn
  rw [e'] at e
  injection e with e1 e2 e3
  obtain ⟨h1, h2, -⟩ := hb ⟨g, 0, none⟩ e1.symm
  exact ⟨g, c', e', h1, h2⟩

set_option maxHeartbeats 12800000 in
set_option maxRecDepth 100000 in
theorem lawKeeps_calls (W H : Int) (A : Option Addr) (n c0 : Nat) (x : Nat → Nat) (s : Nat) (border : Int) (t : Wp) (u v : Int) (w : World) (hn : n ≤ 9223372036854775807) (hr : RowU w A n x) (hx : ∀ k, k < n → x k < 4294967296) (hs : s < 4294967296) :
    Calls Try.prog 8 #[.agg #[.int .i64 W, .int .i64 H, .slice A n c0], .int .u32 (s : Int), .int .i64 border, .agg #[.int .i64 t.A, .int .i64 t.B, .int .i64 t.C, .int .i64 t.D, .int .i64 t.E, .int .i64 t.F, .int .i64 t.Q], .int .i64 u, .int .i64 v] w fun e w' => WGives w (.bool true) e w' := by
  have HKN := Lib.hid fun W => known28_calls W
  have HFW := Lib.hid fun V => few_calls V W H A n c0 hn
  have HMY : Hid (∀ V, n ≤ 700 → Calls Try.prog 34 #[.agg #[.int .i64 W, .int .i64 H, .slice A n c0]] V fun e w' => e = .returned (.int .i64 (plE W H n)) ∧ Below V.heap.size V w') := (show ∀ V, _ → _ from fun V h7 => may_calls V W H A n c0 (by omega))
  have HS := Lib.hid (KpW.start w W H A n c0 x t hr)
  have HX := Lib.hid hx
  have HSB := Lib.hid hs
  have HAB0 : Hid (1 ≤ n → ∀ ad, A = some ad → ad.block < w.heap.size) := (show _ → ∀ ad, _ → _ from fun h1 ad e => by
    obtain ⟨ad2, e2, hc⟩ := hr h1
    rw [e] at e2
    injection e2 with e2
    subst e2
    have h := World.block_lt_of_cell? _ _ (hc 0 h1)
    have hb : (ad.add 0).block = ad.block := by unfold Addr.add; split <;> rfl
    rw [hb] at h
    exact h)
  obtain ⟨yy, ey⟩ : ∃ y, y = s / 8388608 := ⟨_, rfl⟩
  obtain ⟨ex, eex⟩ : ∃ y, y = expN s := ⟨_, rfl⟩
  have S1 : (s : Int) / 8388608 = (yy : Int) := by omega
  have S2 : bits .and .u32 (yy : Int) 255 = (ex : Int) := by
    have h := u_mask32 yy 8 (by decide) (by omega)
    rw [eex, expN, ← ey]; exact h
  have EX := Lib.hid eex
  clear hr hx hn hs ey eex
  unfold WGives at *
  unfold plC at HFW
  go_enter Try.func8, Try.ntmps8
  go_upto_region 3 with (go_at_call 16; refine (HKN.out _).mono ?_; rintro e1 w1 ⟨rfl, hb⟩; have HM1 := Lib.hid (HS.out.below hb); clear hb)
  clear HKN HS
  have p0 := ucell HM1.out.px.bx 0
  have p1 := ucell HM1.out.px.bx 1
  have p2 := ucell HM1.out.px.bx 2
  go_cut [59] (fun vv wc => ∃ g : Bool, vv = .bool g ∧ Hid (g = false → KpOk W H n u v ex) ∧ ∃ V, V = wc ∧ Hid (KpW w W H A n c0 x t V))
  case first =>
    as_aux_lemma =>
      by_cases h7 : n ≤ 700
      · have HN7 : Hid (n ≤ 700) := (show n ≤ 700 from h7)
        have hd7 : decide (n ≤ 700) = true := decide_eq_true h7
        rw [hd7] at HFW
        clear hd7 h7
        by_cases he : plE W H n = 0
        · have HE : Hid (plE W H n = 0) := (show _ = _ from he)
          rw [he] at HMY
          clear he
          go_wp2_with (first | (go_at_call 28; refine (HFW.out _).mono ?_; rintro e1 w2 ⟨rfl, hb⟩; have HM2 := Lib.hid (HM1.out.below hb); have q0 := ucell HM2.out.px.bx 0; have q1 := ucell HM2.out.px.bx 1; have q2 := ucell HM2.out.px.bx 2; clear hb p0 p1 p2) | (go_at_call 34; refine (HMY.out _ HN7.out).mono ?_; rintro e1 w3 ⟨rfl, hb⟩; have HM3 := Lib.hid (HM2.out.below hb); clear hb q0 q1 q2))
          all_goals (go_meet; case rel => exact ⟨_, rfl, (show _ → _ from fun h => by first | (exact absurd h (by decide)) | (exact ⟨HN7.out, HE.out, by omega, by omega, by omega⟩) | (simp at h; exact ⟨HN7.out, HE.out, by omega, by omega, by omega⟩)), _, rfl, HM3.out⟩)
        · have hne : (plE W H n != 0) = true := by rw [bne_iff_ne]; exact he
          clear he
          go_wp2_with (first | (go_at_call 28; refine (HFW.out _).mono ?_; rintro e1 w2 ⟨rfl, hb⟩; have HM2 := Lib.hid (HM1.out.below hb); have q0 := ucell HM2.out.px.bx 0; have q1 := ucell HM2.out.px.bx 1; have q2 := ucell HM2.out.px.bx 2; clear hb p0 p1 p2) | (go_at_call 34; refine (HMY.out _ HN7.out).mono ?_; rintro e1 w3 ⟨rfl, hb⟩; have HM3 := Lib.hid (HM2.out.below hb); clear hb q0 q1 q2))
          go_meet
          case rel => exact ⟨true, rfl, (show _ → _ from fun h => by cases h), _, rfl, HM3.out⟩
      · have hd7 : decide (n ≤ 700) = false := decide_eq_false h7
        rw [hd7] at HFW
        clear hd7 h7
        go_wp2_with (go_at_call 28; refine (HFW.out _).mono ?_; rintro e1 w2 ⟨rfl, hb⟩; have HM2 := Lib.hid (HM1.out.below hb); have q0 := ucell HM2.out.px.bx 0; have q1 := ucell HM2.out.px.bx 1; have q2 := ucell HM2.out.px.bx 2; clear hb p0 p1 p2)
        go_meet
        case rel => exact ⟨true, rfl, (show _ → _ from fun h => by cases h), _, rfl, HM2.out⟩
  case rest =>
    obtain ⟨g, rfl, HG, V, rfl, HM⟩ := hcut
    clear p0 p1 p2 HM1 HFW HMY S1 S2
    cases g with
    | true =>
      go_wp2
      go_ret
      exact ⟨rfl, HM.out.be⟩
    | false =>
      have HOK := Lib.hid (HG.out rfl)
      clear HG
      obtain ⟨hsz, hnp⟩ := kplE_in HOK.out.pe
      have hn7 := HOK.out.n7
      have hu1 := HOK.out.u1
      have hv1 := HOK.out.v1
      have HFS : Hid (Fin32 s) := (show Fin32 s from fin_of_exp HSB.out (by rw [← EX.out]; exact HOK.out.ex))
      have hn1 : 1 ≤ n := by
        obtain ⟨a1, a2, a3, a4, a5, a6⟩ := sizeB_in hsz
        have := Int.mul_le_mul a1 a3 (by decide) (by omega)
        omega
      have HAB := Lib.hid (HAB0.out hn1)
      obtain ⟨N, eN⟩ : ∃ N : Nat, (N : Int) = u * v := ⟨(u * v).toNat, by have := Int.mul_nonneg (show 0 ≤ u by omega) (show 0 ≤ v by omega); omega⟩
      have hN4 : N ≤ 400 := by
        have := Int.mul_le_mul (show u ≤ 20 by omega) (show v ≤ 20 by omega) (by omega) (by decide)
        omega
      have WN : IntKind.i64.wrap (u * v) = (N : Int) := by rw [← eN]; exact IntWalk.i64_in _ (by omega)
      have HSZ := Lib.hid hsz
      have HN := Lib.hid eN
      have HCP := Lib.hid fun V h => copy_calls V W H A n c0 x (by omega) h
      unfold plC CopyEnd at HCP
      clear hsz hnp eN HAB0 EX
      have p0 := ucell HM.out.px.bx 0
      have p1 := ucell HM.out.px.bx 1
      have p2 := ucell HM.out.px.bx 2
      go_upto_region 6 with (go_at_call 29; refine (HCP.out _ HM.out.px.rw).mono ?_; rintro e1 w4 ⟨v4, rfl, hO, hb⟩; obtain ⟨g4, c4, ev4, hg4, hlt4⟩ := hO.at1 (by omega); subst ev4; have HF4 : Hid (KpF w W H A n c0 x t g4 w4.heap.size c4 x (w4.alloc (.cells #[.int .i64 W, .int .i64 H, .slice (some ⟨g4, 0, none⟩) n c4] 55))) := (show KpF _ _ _ _ _ _ _ _ _ _ _ _ _ from ⟨(HM.out.below hb).below (kbelow_alloc w4 _), heap_alloc_new w4 _, (hO.base (by have := HM.out.be.size; omega)).below (kbelow_alloc w4 _), by have h1 := heap_lt' HM.out.tb; omega, hlt4⟩); clear hb hO hg4 hlt4 p0 p1 p2)
      clear HM HCP
      generalize w4.heap.size = gf at HF4 ⊢
      generalize w4.alloc (.cells #[.int .i64 W, .int .i64 H, .slice (some ⟨g4, 0, none⟩) n c4] 55) = W4 at HF4 ⊢
      go_wp2
      go_loopw [14] (fun v14 wr => ∃ i : Nat, v14 = .int .i64 (i : Int) ∧ i ≤ n ∧ Hid (KpF w W H A n c0 x t g4 gf c4 (fun k => if k < i then s else x k) wr)) (fun v14 _ => n - (intOf v14).toNat)
      case atStart => exact ⟨0, rfl, Nat.zero_le _, (show KpF _ _ _ _ _ _ _ _ _ _ _ _ _ from by rw [show (fun k => if k < 0 then s else x k) = x from by funext k; rw [if_neg (by omega)]]; exact HF4.out)⟩
      case round =>
        obtain ⟨i, rfl, hi, HFi⟩ := hrel
        clear HF4
        have f2 := ucell HFi.out.fb 2
        by_cases hlt : i < n
        · as_aux_lemma =>
            have hltz : (i : Int) < (n : Int) := by omega
            obtain ⟨k1, k2⟩ := HFi.out.cell hlt
            have HF5 : Hid (KpF w W H A n c0 x t g4 gf c4 (fun k => if k < i + 1 then s else x k) (wr.setCell ⟨g4, i, none⟩ (.int .u32 (s : Int)))) := (show KpF _ _ _ _ _ _ _ _ _ _ _ _ _ from by have h := HFi.out.set HAB.out i s; rw [upd_next] at h; exact h)
            go_wp2
            go_roundw
            case rel => exact ⟨i + 1, by first | rfl | go_num, by omega, HF5.out⟩
            case measure => simp [intOf]; omega
        · have hltz : ¬ (i : Int) < (n : Int) := by omega
          have hi' : i = n := by omega
          subst hi'
          have HF5 := HFi
          clear HFi
          have f0 := ucell HF5.out.fb 0
          have f1 := ucell HF5.out.fb 1
          obtain ⟨t0, t1, t2, t3, t4, t5, t6⟩ := HF5.out.kw.tb.cells
          by_cases hpe : planeErr 2 border t W H i u v = 0
          · obtain ⟨hpl, hri, hsu⟩ := planeErr_in hpe
            have HRI := Lib.hid hri
            have HSU := Lib.hid hsu
            have HPL := Lib.hid hpl
            have HQ1 : Hid (1 ≤ t.Q) := (show 1 ≤ t.Q from (rightE_in hri).q.1)
            have HP1 : Hid (∀ V, KpF w W H A i c0 x t g4 gf c4 (fun k => if k < i then s else x k) V → Calls Try.prog 31 #[.agg #[.int .i64 W, .int .i64 H, .slice (some ⟨g4, 0, none⟩) i c4], .int .i64 2, .int .i64 border, .agg #[.int .i64 t.A, .int .i64 t.B, .int .i64 t.C, .int .i64 t.D, .int .i64 t.E, .int .i64 t.F, .int .i64 t.Q], .int .i64 u, .int .i64 v] V fun e w' => PGk V border t W H (fun _ => s) u v N e w') := (show ∀ V, _ → _ from fun V hf => (plane_yes W H (some ⟨g4, 0, none⟩) i c4 2 border t u v (fun _ => s) V (by omega) (hf.row.congr fun k hk => if_pos hk) (fun _ _ => HSB.out) HPL.out HRI.out HSU.out).mono fun e w' h => pgk_of HN.out h)
            have HP2 : Hid (∀ V, KpW w W H A i c0 x t V → Calls Try.prog 31 #[.agg #[.int .i64 W, .int .i64 H, .slice A i c0], .int .i64 2, .int .i64 border, .agg #[.int .i64 t.A, .int .i64 t.B, .int .i64 t.C, .int .i64 t.D, .int .i64 t.E, .int .i64 t.F, .int .i64 t.Q], .int .i64 u, .int .i64 v] V fun e w' => PGk V border t W H x u v N e w') := (show ∀ V, _ → _ from fun V hf => (plane_yes W H A i c0 2 border t u v x V (by omega) hf.px.rw HX.out HPL.out HRI.out HSU.out).mono fun e w' h => pgk_of HN.out h)
            have hN1 : 1 ≤ N := by
              have := Int.mul_le_mul (show 1 ≤ u by omega) (show 1 ≤ v by omega) (by decide) (by omega)
              have := HN.out
              omega
            clear hpe hpl hri hsu
            go_upto_region 13 with (go_at_call 31; (with_reducible refine (HP1.out _ HF5.out).mono ?_); rintro e1 w5 ⟨A5, c5, y5, rfl, hr5, hp5, hlo5, hb⟩; have hal := kbelow_alloc w5 (.cells #[.int .i64 u, .int .i64 v, .slice A5 N c5] 55); have HK5 := Lib.hid ((HF5.out.kw.below hb).below hal); have HQ5 : Hid (PBk w5.heap.size u v A5 N c5 (fun _ => s) (w5.alloc (.cells #[.int .i64 u, .int .i64 v, .slice A5 N c5] 55))) := (show PBk _ _ _ _ _ _ _ _ from PBk.new (hr5.congr fun k hk => px_const HFS.out HQ1.out (hp5 k hk))); have HG5 : Hid (w.heap.size + 2 ≤ w5.heap.size) := (show _ ≤ _ from by have h1 := heap_lt' HF5.out.kw.tb; have h2 := hb.size; omega); clear hb hr5 hp5 hlo5 hal f0 f1 f2 t0 t1 t2 t3 t4 t5 t6)
            clear HF5 HP1
            generalize w5.heap.size = gq at HQ5 HG5 ⊢
            generalize w5.alloc (.cells #[.int .i64 u, .int .i64 v, .slice A5 N c5] 55) = W5 at HK5 HQ5 ⊢
            obtain ⟨ad5, ead5, hcl5⟩ := HQ5.out.rw hN1
            subst ead5
            have HC5 := Lib.hid hcl5
            have q2 := ucell HQ5.out.bx 2
            clear hcl5
            go_wp2
            go_loopw [17] (fun v17 wr => ∃ j : Nat, v17 = .int .i64 (j : Int) ∧ j ≤ N ∧ wr = W5) (fun v17 _ => N - (intOf v17).toNat)
            case atStart => exact ⟨0, rfl, Nat.zero_le _, rfl⟩
            case round =>
              obtain ⟨j, rfl, hj, rfl⟩ := hrel
              by_cases hjt : j < N
              · as_aux_lemma =>
                  have hjz : (j : Int) < (N : Int) := by omega
                  have k1 : wr.cell? (ad5.add j) = some (.int .u32 (s : Int)) := HC5.out j hjt
                  have hbn : ((s : Int) != (s : Int)) = false := bne_self_eq_false _
                  go_wp2
                  go_roundw
                  case rel => exact ⟨j + 1, by first | rfl | go_num, by omega, by first | rfl | trivial⟩
                  case measure => simp [intOf]; omega
              · have hjz : ¬ (j : Int) < (N : Int) := by omega
                have p2 := ucell HK5.out.px.bx 2
                go_wp2
                go_loopw [18] (fun v18 wr2 => ∃ m : Nat, v18 = .int .i64 (m : Int) ∧ m ≤ i ∧ Hid (∀ k, k < m → expN (x k) ≠ 255) ∧ wr2 = wr) (fun v18 _ => i - (intOf v18).toNat)
                case atStart => exact ⟨0, rfl, Nat.zero_le _, (show ∀ k, _ → _ from fun k hk => absurd hk (Nat.not_lt_zero _)), rfl⟩
                case round =>
                  obtain ⟨m, rfl, hm, HE5, rfl⟩ := hrel
                  by_cases hmt : m < i
                  · obtain ⟨adp, eadp, hclp⟩ := HK5.out.px.rw (by omega)
                    subst eadp
                    obtain ⟨xm, exm⟩ : ∃ y, y = x m := ⟨_, rfl⟩
                    have k1 := hclp m hmt
                    have hxl := HX.out m hmt
                    rw [← exm] at k1 hxl
                    obtain ⟨ym, eym⟩ : ∃ y, y = xm / 8388608 := ⟨_, rfl⟩
                    obtain ⟨em, eem⟩ : ∃ y, y = expN xm := ⟨_, rfl⟩
                    have S1 : (xm : Int) / 8388608 = (ym : Int) := by omega
                    have S2 : bits .and .u32 (ym : Int) 255 = (em : Int) := by
                      have h := u_mask32 ym 8 (by decide) (by omega)
                      rw [eem, expN, ← eym]; exact h
                    have EM : Hid (em = expN (x m)) := (show _ = _ from by rw [eem, exm])
                    have hmz : (m : Int) < (i : Int) := by omega
                    clear hclp exm eym eem
                    by_cases h255 : em = 255
                    · subst h255
                      as_aux_lemma =>
                        go_wp2
                        go_ret
                        exact ⟨rfl, HK5.out.be⟩
                    · as_aux_lemma =>
                        have hne : ((em : Int) == 255) = false := by rw [beq_eq_false_iff_ne]; omega
                        have HE6 : Hid (∀ k, k < m + 1 → expN (x k) ≠ 255) := (show ∀ k, _ → _ from fun k hk => by
                          rcases Nat.lt_or_ge k m with h1 | h1
                          · exact HE5.out k h1
                          · have : k = m := by omega
                            rw [this, ← EM.out]; exact h255)
                        clear h255 EM HE5
                        go_wp2
                        go_roundw
                        case rel => exact ⟨m + 1, by first | rfl | go_num, by omega, HE6.out, by first | rfl | trivial⟩
                        case measure => simp [intOf]; omega
                  · have hmz : ¬ (m : Int) < (i : Int) := by omega
                    have hmi : m = i := by omega
                    subst hmi
                    have HFX : Hid (∀ k, k < m → Fin32 (x k)) := (show ∀ k, _ → _ from fun k hk => fin_of_exp (HX.out k hk) (HE5.out k hk))
                    have p0 := ucell HK5.out.px.bx 0
                    have p1 := ucell HK5.out.px.bx 1
                    obtain ⟨t0, t1, t2, t3, t4, t5, t6⟩ := HK5.out.tb.cells
                    have HGQ : Hid (gq < wr.heap.size) := (show _ < _ from heap_lt' HQ5.out.bx)
                    go_upto_region 24 with (go_at_call 31; (with_reducible refine (HP2.out _ HK5.out).mono ?_); rintro e1 w6 ⟨A6, c6, y6, rfl, hr6, hp6, hlo6, hb⟩; have HK6 := Lib.hid (HK5.out.below hb); have HR6 := Lib.hid hr6; have HPX := Lib.hid hp6; have HL6 := Lib.hid hlo6; have HZ6 := Lib.hid ((hb.block _ (heap_lt' HQ5.out.bx)).trans HQ5.out.bx); obtain ⟨d1, d2, d3, d4, d5, d6⟩ := st3 HZ6.out (.int .i64 u) (.int .i64 v); clear hb hr6 hp6 hlo6 p0 p1 p2 q2 t0 t1 t2 t3 t4 t5 t6)
                    have HQ7 : Hid (KpQ w W H A m c0 x t gq u v A6 N c6 y6 (((w6.setCell ⟨gq, 0, none⟩ (.int .i64 u)).setCell ⟨gq, 1, none⟩ (.int .i64 v)).setCell ⟨gq, 2, none⟩ (.slice A6 N c6))) := (show KpQ _ _ _ _ _ _ _ _ _ _ _ _ _ _ _ _ from by
                      have st : ∀ k, k ≠ gq → (((w6.setCell ⟨gq, 0, none⟩ (.int .i64 u)).setCell ⟨gq, 1, none⟩ (.int .i64 v)).setCell ⟨gq, 2, none⟩ (.slice A6 N c6)).heap[k]? = w6.heap[k]? := fun k hk => (Below.heap_setCell _ ⟨gq, 2, none⟩ _ _ hk).trans ((Below.heap_setCell _ ⟨gq, 1, none⟩ _ _ hk).trans (Below.heap_setCell _ ⟨gq, 0, none⟩ _ _ hk))
                      have h5 := HG5.out
                      have hA := HAB.out
                      exact ⟨⟨st3_below HK6.out.be (by omega), ⟨(st _ (by omega)).trans HK6.out.px.bx, ((HK6.out.px.rw.far _ _ fun ad e => by have := hA ad e; show ad.block ≠ gq; omega).far _ _ fun ad e => by have := hA ad e; show ad.block ≠ gq; omega).far _ _ fun ad e => by have := hA ad e; show ad.block ≠ gq; omega⟩, (st _ (by omega)).trans HK6.out.tb⟩, ⟨st3_end HZ6.out, st3_row HR6.out (fun ad e => by have := HL6.out ad e; have := HGQ.out; omega)⟩⟩)
                    clear d1 d2 d3 d4 d5 d6 HK6 HR6 HL6 HZ6 HK5 HQ5 HC5 HP2 HE5 HGQ
                    generalize ((w6.setCell ⟨gq, 0, none⟩ (.int .i64 u)).setCell ⟨gq, 1, none⟩ (.int .i64 v)).setCell ⟨gq, 2, none⟩ (.slice A6 N c6) = W7 at HQ7 ⊢
                    have q2 := ucell HQ7.out.qb.bx 2
                    have hnn : ((N : Int) != (N : Int)) = false := bne_self_eq_false _
                    go_wp2
                    go_loopw [19] (fun v19 wr => ∃ a : Nat, v19 = .int .i64 (a : Int) ∧ a ≤ N ∧ Hid (KpQ w W H A m c0 x t gq u v A6 N c6 y6 wr)) (fun v19 _ => N - (intOf v19).toNat)
                    case atStart => exact ⟨0, rfl, Nat.zero_le _, HQ7.out⟩
                    case round =>
                      obtain ⟨a, rfl, ha, HQa⟩ := hrel
                      clear HQ7 q2 hnn
                      by_cases hat : a < N
                      · have haz : (a : Int) < (N : Int) := by omega
                        obtain ⟨xa, exa⟩ : ∃ z, z = (a : Int) % u := ⟨_, rfl⟩
                        obtain ⟨ya, eya⟩ : ∃ z, z = (a : Int) / u := ⟨_, rfl⟩
                        have hxa : 0 ≤ xa ∧ xa < 1024 := by
                          have h1 := Int.emod_nonneg (a : Int) (show u ≠ 0 by omega)
                          have h2 := Int.emod_lt_of_pos (a : Int) (show 0 < u by omega)
                          omega
                        have hya : 0 ≤ ya ∧ ya < 1024 := by
                          have h1 := Int.ediv_nonneg (show 0 ≤ (a : Int) by omega) (show 0 ≤ u by omega)
                          have h2 : (a : Int) / u < v := Int.ediv_lt_of_lt_mul (by omega) (by have := HN.out; rw [Int.mul_comm]; omega)
                          omega
                        have TM : (a : Int).tmod u = xa := by rw [exa]; exact Int.tmod_eq_emod_of_nonneg (by omega)
                        have TD : (a : Int).tdiv u = ya := by rw [eya]; exact Int.tdiv_eq_ediv_of_nonneg (by omega)
                        have WM : IntKind.i64.wrap xa = xa := IntWalk.i64_in _ (by omega)
                        have WD : IntKind.i64.wrap ya = ya := IntWalk.i64_in _ (by omega)
                        have hu0 : u ≠ 0 := by omega
                        have HPY : Hid (IsPx 2 border t W H x u a (y6 a)) := (show IsPx _ _ _ _ _ _ _ _ _ from HPX.out a hat)
                        have HXY : Hid (xa = (a : Int) % u ∧ ya = (a : Int) / u) := (show _ ∧ _ from ⟨exa, eya⟩)
                        have HSE : Hid (spotsErr 2 border t W H xa ya = 0) := (show _ = _ from by unfold spotsErr; rw [if_neg (by rw [HRI.out]; simp), if_neg (by omega)])
                        have HSP : Hid (∀ V, Calls Try.prog 26 #[.int .i64 2, .int .i64 border, .agg #[.int .i64 t.A, .int .i64 t.B, .int .i64 t.C, .int .i64 t.D, .int .i64 t.E, .int .i64 t.F, .int .i64 t.Q], .int .i64 W, .int .i64 H, .int .i64 xa, .int .i64 ya] V fun e w' => ∃ A c L, e = .returned (.tuple #[.slice A L.length c, .int .i64 0]) ∧ IsSpots 2 border t W H xa ya L ∧ RowSp w' A L ∧ Below V.heap.size V w') := (show ∀ V, _ from fun V => (pSpots_calls V 2 border t W H xa ya).mono fun e w' h => by
                          rcases h with ⟨h1, _⟩ | ⟨_, vv, rfl, L, h2, h3, h4⟩
                          · exact absurd HSE.out h1
                          · obtain ⟨A7, c7, rfl, -, hrow, -⟩ := h3.row
                            exact ⟨A7, c7, L, rfl, h2, hrow, h4⟩)
                        clear exa eya HSE hxa hya
                        have p0 := ucell HQa.out.kw.px.bx 0
                        have p1 := ucell HQa.out.kw.px.bx 1
                        obtain ⟨t0, t1, t2, t3, t4, t5, t6⟩ := HQa.out.kw.tb.cells
                        go_upto_region 29 with (fail)
                        go_cut [20, 21] (fun v20 v21 wc => ∃ A7 c7 L, v20 = .slice A7 L.length c7 ∧ v21 = .int .i64 0 ∧ Hid (IsSpots 2 border t W H xa ya L) ∧ Hid (RowSp wc A7 L) ∧ Hid (KpQ w W H A m c0 x t gq u v A6 N c6 y6 wc))
                        case first =>
                          as_aux_lemma =>
                            refine wp_region_any (by kernel_rfl) ?_
                            change wpAny _ _ _ _ _ _ _ wr.drew
                            have HQd := Lib.hid (HQa.out.below (Below.refl wr.heap.size wr).drew)
                            clear HQa p0 p1 t0 t1 t2 t3 t4 t5 t6
                            generalize wr.drew = V0 at HQd ⊢
                            have hS := HQd.out
                            refine wpAny_of_K (S := KpQ w W H A m c0 x t gq u v A6 N c6 y6) (T := []) _ _ _ _ ?_
                            refine wpAnyK_take [] (i := 0) (v := ?_) rfl (by kernel_rfl) (by kernel_rfl) (by kernel_rfl) (by kernel_rfl) (fun _ _ _ h => h) (Or.inl ⟨by rfl, ?_⟩) hS ?_
                            rotate_left
                            · intro W' hSw; have p0 := ucell hSw.kw.px.bx 0; have p1 := ucell hSw.kw.px.bx 1; obtain ⟨t0, t1, t2, t3, t4, t5, t6⟩ := hSw.kw.tb.cells; clear hSw; go_simp; try (with_reducible rfl)
                            simp only [Act.put, List.setIfInBounds_toArray, List.set_cons_zero, List.set_cons_succ]
                            refine wpAnyK_take [] (i := 1) (v := ?_) rfl (by kernel_rfl) (by kernel_rfl) (by kernel_rfl) (by kernel_rfl) (fun _ _ _ h => h) (Or.inl ⟨by rfl, ?_⟩) hS ?_
                            rotate_left
                            · intro W' hSw; have p0 := ucell hSw.kw.px.bx 0; have p1 := ucell hSw.kw.px.bx 1; obtain ⟨t0, t1, t2, t3, t4, t5, t6⟩ := hSw.kw.tb.cells; clear hSw; go_simp; try (with_reducible rfl)
                            simp only [Act.put, List.setIfInBounds_toArray, List.set_cons_zero, List.set_cons_succ]
                            refine wpAnyK_take [] (i := 2) (v := ?_) rfl (by kernel_rfl) (by kernel_rfl) (by kernel_rfl) (by kernel_rfl) (fun _ _ _ h => h) (Or.inl ⟨by rfl, ?_⟩) hS ?_
                            rotate_left
                            · intro W' hSw; have p0 := ucell hSw.kw.px.bx 0; have p1 := ucell hSw.kw.px.bx 1; obtain ⟨t0, t1, t2, t3, t4, t5, t6⟩ := hSw.kw.tb.cells; clear hSw; go_simp; try (with_reducible rfl)
                            simp only [Act.put, List.setIfInBounds_toArray, List.set_cons_zero, List.set_cons_succ]
                            refine wpAnyK_take [] (i := 3) (v := ?_) rfl (by kernel_rfl) (by kernel_rfl) (by kernel_rfl) (by kernel_rfl) (fun _ _ _ h => h) (Or.inl ⟨by rfl, ?_⟩) hS ?_
                            rotate_left
                            · intro W' hSw; have p0 := ucell hSw.kw.px.bx 0; have p1 := ucell hSw.kw.px.bx 1; obtain ⟨t0, t1, t2, t3, t4, t5, t6⟩ := hSw.kw.tb.cells; clear hSw; go_simp; try (with_reducible rfl)
                            simp only [Act.put, List.setIfInBounds_toArray, List.set_cons_zero, List.set_cons_succ]
                            refine wpAnyK_take [] (i := 4) (v := ?_) rfl (by kernel_rfl) (by kernel_rfl) (by kernel_rfl) (by kernel_rfl) (fun _ _ _ h => h) (Or.inl ⟨by rfl, ?_⟩) hS ?_
                            rotate_left
                            · intro W' hSw; have p0 := ucell hSw.kw.px.bx 0; have p1 := ucell hSw.kw.px.bx 1; obtain ⟨t0, t1, t2, t3, t4, t5, t6⟩ := hSw.kw.tb.cells; clear hSw; go_simp; try (with_reducible rfl)
                            simp only [Act.put, List.setIfInBounds_toArray, List.set_cons_zero, List.set_cons_succ]
                            refine wpAnyK_take [] (i := 5) (v := ?_) rfl (by kernel_rfl) (by kernel_rfl) (by kernel_rfl) (by kernel_rfl) (fun _ _ _ h => h) (Or.inl ⟨by rfl, ?_⟩) hS ?_
                            rotate_left
                            · intro W' hSw; have p0 := ucell hSw.kw.px.bx 0; have p1 := ucell hSw.kw.px.bx 1; obtain ⟨t0, t1, t2, t3, t4, t5, t6⟩ := hSw.kw.tb.cells; clear hSw; go_simp; try (with_reducible rfl)
                            simp only [Act.put, List.setIfInBounds_toArray, List.set_cons_zero, List.set_cons_succ]
                            refine wpAnyK_take [] (i := 6) (v := ?_) rfl (by kernel_rfl) (by kernel_rfl) (by kernel_rfl) (by kernel_rfl) (fun _ _ _ h => h) (Or.inl ⟨by rfl, ?_⟩) hS ?_
                            rotate_left
                            · intro W' hSw; have p0 := ucell hSw.kw.px.bx 0; have p1 := ucell hSw.kw.px.bx 1; obtain ⟨t0, t1, t2, t3, t4, t5, t6⟩ := hSw.kw.tb.cells; clear hSw; go_simp; try (with_reducible rfl)
                            simp only [Act.put, List.setIfInBounds_toArray, List.set_cons_zero, List.set_cons_succ]
                            refine wpAnyK_take [] (i := 7) (v := ?_) rfl (by kernel_rfl) (by kernel_rfl) (by kernel_rfl) (by kernel_rfl) (fun _ _ _ h => h) (Or.inl ⟨by rfl, ?_⟩) hS ?_
                            rotate_left
                            · intro W' hSw; have p0 := ucell hSw.kw.px.bx 0; have p1 := ucell hSw.kw.px.bx 1; obtain ⟨t0, t1, t2, t3, t4, t5, t6⟩ := hSw.kw.tb.cells; clear hSw; go_simp; try (with_reducible rfl)
                            simp only [Act.put, List.setIfInBounds_toArray, List.set_cons_zero, List.set_cons_succ]
                            refine wpAnyK_take [] (i := 8) (v := ?_) rfl (by kernel_rfl) (by kernel_rfl) (by kernel_rfl) (by kernel_rfl) (fun _ _ _ h => h) (Or.inl ⟨by rfl, ?_⟩) hS ?_
                            rotate_left
                            · intro W' hSw; have p0 := ucell hSw.kw.px.bx 0; have p1 := ucell hSw.kw.px.bx 1; obtain ⟨t0, t1, t2, t3, t4, t5, t6⟩ := hSw.kw.tb.cells; clear hSw; go_simp; try (with_reducible rfl)
                            simp only [Act.put, List.setIfInBounds_toArray, List.set_cons_zero, List.set_cons_succ]
                            refine wpAnyK_take [] (i := 9) (v := ?_) rfl (by kernel_rfl) (by kernel_rfl) (by kernel_rfl) (by kernel_rfl) (fun _ _ _ h => h) (Or.inl ⟨by rfl, ?_⟩) hS ?_
                            rotate_left
                            · intro W' hSw; have p0 := ucell hSw.kw.px.bx 0; have p1 := ucell hSw.kw.px.bx 1; obtain ⟨t0, t1, t2, t3, t4, t5, t6⟩ := hSw.kw.tb.cells; clear hSw; go_simp; try (with_reducible rfl)
                            simp only [Act.put, List.setIfInBounds_toArray, List.set_cons_zero, List.set_cons_succ]
                            refine wpAnyK_take [] (i := 10) (v := ?_) rfl (by kernel_rfl) (by kernel_rfl) (by kernel_rfl) (by kernel_rfl) (fun _ _ _ h => h) (Or.inl ⟨by rfl, ?_⟩) hS ?_
                            rotate_left
                            · intro W' hSw; have p0 := ucell hSw.kw.px.bx 0; have p1 := ucell hSw.kw.px.bx 1; obtain ⟨t0, t1, t2, t3, t4, t5, t6⟩ := hSw.kw.tb.cells; clear hSw; go_simp; try (with_reducible rfl)
                            simp only [Act.put, List.setIfInBounds_toArray, List.set_cons_zero, List.set_cons_succ]
                            refine wpAnyK_take [] (i := 11) (v := ?_) rfl (by kernel_rfl) (by kernel_rfl) (by kernel_rfl) (by kernel_rfl) (fun _ _ _ h => h) (Or.inl ⟨by rfl, ?_⟩) hS ?_
                            rotate_left
                            · intro W' hSw; have p0 := ucell hSw.kw.px.bx 0; have p1 := ucell hSw.kw.px.bx 1; obtain ⟨t0, t1, t2, t3, t4, t5, t6⟩ := hSw.kw.tb.cells; clear hSw; go_simp; try (with_reducible rfl)
                            simp only [Act.put, List.setIfInBounds_toArray, List.set_cons_zero, List.set_cons_succ]
                            refine wpAnyK_ready (rs := [12]) (by kernel_rfl) (by simp) (ReadyK.cons rfl (fun K hK => ?_) ReadyK.nil)
                            rw [if_pos (by rfl)]
                            go_simp
                            refine (HSP.out _).mono ?_
                            rintro e1 w8 ⟨A7, c7, L, rfl, hL, hrow, hb⟩
                            have HL8 := Lib.hid hL
                            have HR8 := Lib.hid hrow
                            have HQ8 := Lib.hid (HQd.out.below hb)
                            refine hK.out _ _ (fun _ => HQ8.out) ?_
                            clear hK K hL hrow hb hS HQd
                            have hS := HQ8.out
                            refine wpAnyK_take [] (i := 13) (v := ?_) rfl (by kernel_rfl) (by kernel_rfl) (by kernel_rfl) (by kernel_rfl) (fun _ _ _ h => h) (Or.inl ⟨by rfl, ?_⟩) hS ?_
                            rotate_left
                            · intro W' hSw; have p0 := ucell hSw.kw.px.bx 0; have p1 := ucell hSw.kw.px.bx 1; obtain ⟨t0, t1, t2, t3, t4, t5, t6⟩ := hSw.kw.tb.cells; clear hSw; go_simp; try (with_reducible rfl)
                            simp only [Act.put, List.setIfInBounds_toArray, List.set_cons_zero, List.set_cons_succ]
                            refine wpAnyK_take [] (i := 14) (v := ?_) rfl (by kernel_rfl) (by kernel_rfl) (by kernel_rfl) (by kernel_rfl) (fun _ _ _ h => h) (Or.inl ⟨by rfl, ?_⟩) hS ?_
                            rotate_left
                            · intro W' hSw; have p0 := ucell hSw.kw.px.bx 0; have p1 := ucell hSw.kw.px.bx 1; obtain ⟨t0, t1, t2, t3, t4, t5, t6⟩ := hSw.kw.tb.cells; clear hSw; go_simp; try (with_reducible rfl)
                            simp only [Act.put, List.setIfInBounds_toArray, List.set_cons_zero, List.set_cons_succ]
                            refine wpAnyK_take [] (i := 15) (v := ?_) rfl (by kernel_rfl) (by kernel_rfl) (by kernel_rfl) (by kernel_rfl) (fun _ _ _ h => h) (Or.inl ⟨by rfl, ?_⟩) hS ?_
                            rotate_left
                            · intro W' hSw; have p0 := ucell hSw.kw.px.bx 0; have p1 := ucell hSw.kw.px.bx 1; obtain ⟨t0, t1, t2, t3, t4, t5, t6⟩ := hSw.kw.tb.cells; clear hSw; go_simp; try (with_reducible rfl)
                            simp only [Act.put, List.setIfInBounds_toArray, List.set_cons_zero, List.set_cons_succ]
                            refine wpAnyK_take [] (i := 16) (v := ?_) rfl (by kernel_rfl) (by kernel_rfl) (by kernel_rfl) (by kernel_rfl) (fun _ _ _ h => h) (Or.inl ⟨by rfl, ?_⟩) hS ?_
                            rotate_left
                            · intro W' hSw; have p0 := ucell hSw.kw.px.bx 0; have p1 := ucell hSw.kw.px.bx 1; obtain ⟨t0, t1, t2, t3, t4, t5, t6⟩ := hSw.kw.tb.cells; clear hSw; go_simp; try (with_reducible rfl)
                            simp only [Act.put, List.setIfInBounds_toArray, List.set_cons_zero, List.set_cons_succ]
                            refine wpAnyK_take [] (i := 17) (v := ?_) rfl (by kernel_rfl) (by kernel_rfl) (by kernel_rfl) (by kernel_rfl) (fun _ _ _ h => h) (Or.inl ⟨by rfl, ?_⟩) hS ?_
                            rotate_left
                            · intro W' hSw; have p0 := ucell hSw.kw.px.bx 0; have p1 := ucell hSw.kw.px.bx 1; obtain ⟨t0, t1, t2, t3, t4, t5, t6⟩ := hSw.kw.tb.cells; clear hSw; go_simp; try (with_reducible rfl)
                            simp only [Act.put, List.setIfInBounds_toArray, List.set_cons_zero, List.set_cons_succ]
                            refine wpAnyK_done (by kernel_rfl) ?_ _
                            clear hS
                            go_wp2
                            go_meet
                            case rel => exact ⟨A7, c7, L, rfl, rfl, HL8.out, HR8.out, HQ8.out⟩
                        case rest =>
                          as_aux_lemma =>
                            obtain ⟨A7, c7, L, rfl, rfl, HL, HRS, HQb⟩ := hcut
                            clear p0 p1 t0 t1 t2 t3 t4 t5 t6 HSP WM WD TM TD
                            obtain ⟨hwt, hsum⟩ := spots_wts HQ1.out (show (2 : Int) ≠ 1 by decide) HL.out
                            have hl4 := HL.out.len
                            have hln : 1 ≤ L.length := by
                              rcases Nat.eq_zero_or_pos L.length with h0 | h0
                              · rw [h0] at hsum; exact absurd hsum (by unfold wtTo; simp)
                              · exact h0
                            obtain ⟨z, ez⟩ : ∃ z, z = spX x W L := ⟨_, rfl⟩
                            have HSI := Lib.hid (spots_in (rightE_in HRI.out) HL.out)
                            have hnp := (kplE_in HPL.out).2
                            have HZI : Hid (∀ k (hk : k < L.length), (0 ≤ L[k].X ∧ L[k].X < W) ∧ (0 ≤ L[k].Y ∧ L[k].Y < H) ∧ IntKind.i64.wrap (L[k].Y * W) = L[k].Y * W ∧ IntKind.i64.wrap (L[k].Y * W + L[k].X) = ((L[k].Y * W + L[k].X).toNat : Int) ∧ (L[k].Y * W + L[k].X).toNat < m ∧ z k = x (L[k].Y * W + L[k].X).toNat ∧ spN L k = L[k].N) := (show ∀ k, _ from fun k hk => by
                              obtain ⟨h1, h2, -⟩ := HSI.out L[k] (List.getElem_mem hk)
                              obtain ⟨i1, i2, i3, i4, i5⟩ := idx_in HSZ.out hnp h1 h2
                              refine ⟨h1, h2, i1, by rw [i2]; omega, i5, ?_, ?_⟩
                              · rw [ez]; unfold spX pxIdx; rw [List.getD_eq_getElem?_getD, List.getElem?_eq_getElem hk]; rfl
                              · unfold spN; rw [List.getD_eq_getElem?_getD, List.getElem?_eq_getElem hk]; rfl)
                            have HZF : Hid (∀ k, k < L.length → Fin32 (z k)) := (show ∀ k, _ → _ from fun k hk => by
                              obtain ⟨-, -, -, -, h5, h6, -⟩ := HZI.out k hk
                              rw [h6]; exact HFX.out _ h5)
                            have HY6 : Hid (y6 a = dotOf (spN L) z L.length) := (show _ = _ from by
                              obtain ⟨L', hL', e'⟩ := HPY.out
                              rw [← HXY.out.1, ← HXY.out.2] at hL'
                              have := hL'.unique HL.out
                              subst this
                              rw [e', ez]
                              unfold pxOf
                              rw [if_neg (by decide)])
                            have HWT := Lib.hid (And.intro hwt hsum)
                            have hlz : ((L.length : Int) == 0) = false := by rw [beq_eq_false_iff_ne]; omega
                            have HI1 := Lib.hid fun V => inf1_calls V
                            have HI2 := Lib.hid fun V => inf2_calls V
                            clear hwt hsum hnp ez
                            go_wp2_with (first
                              | (go_at_call 35; (with_reducible refine (HI1.out _).mono ?_); rintro e1 w9 ⟨rfl, rfl⟩)
                              | (go_at_call 35; (with_reducible refine (HI2.out _).mono ?_); rintro e1 w9 ⟨rfl, rfl⟩))
                            go_loopw [22, 23, 24, 25] (fun v22 v23 v24 v25 wr => ∃ (k lo hi : Nat), v22 = .float .f64 lo ∧ v23 = .float .f64 hi ∧ v24 = .int .i64 ((wtTo L k : Nat) : Int) ∧ v25 = .int .i64 (k : Int) ∧ k ≤ L.length ∧ Hid (LoIs z k lo) ∧ Hid (HiIs z k hi) ∧ Hid (KpQ w W H A m c0 x t gq u v A6 N c6 y6 wr) ∧ Hid (RowSp wr A7 L)) (fun v22 v23 v24 v25 _ => L.length - (intOf v25).toNat)
                            case atStart => exact ⟨0, pInf, nInf, rfl, rfl, rfl, rfl, Nat.zero_le _, (show LoIs _ _ _ from .inl ⟨rfl, rfl⟩), (show HiIs _ _ _ from .inl ⟨rfl, rfl⟩), HQb.out, HRS.out⟩
                            case round =>
                              obtain ⟨k, lo, hi, rfl, rfl, rfl, rfl, hk, HLO, HHI, HQk, HRk⟩ := hrel
                              clear HQb HRS
                              by_cases hkt : k < L.length
                              · have hkz : (k : Int) < (L.length : Int) := by omega
                                obtain ⟨ad7, ead7, hc7⟩ := HRk.out hln
                                subst ead7
                                have HC7 := Lib.hid hc7
                                obtain ⟨h1, h2, i1, i2, i3, i4, i5⟩ := HZI.out k hkt
                                obtain ⟨c1, c2, c3⟩ := hc7 k hkt
                                obtain ⟨sX, esX⟩ : ∃ q, q = L[k].X := ⟨_, rfl⟩
                                obtain ⟨sY, esY⟩ : ∃ q, q = L[k].Y := ⟨_, rfl⟩
                                obtain ⟨sN, esN⟩ : ∃ q, q = L[k].N := ⟨_, rfl⟩
                                obtain ⟨kx, ekx⟩ : ∃ q, q = (L[k].Y * W + L[k].X).toNat := ⟨_, rfl⟩
                                rw [← ekx] at i2 i3 i4
                                rw [← esX] at h1 i2 c1
                                rw [← esY] at h2 i1 i2 c2
                                rw [← esN] at i5 c3
                                obtain ⟨pr, epr⟩ : ∃ q, q = sY * W := ⟨_, rfl⟩
                                rw [← epr] at i2
                                have i1' : IntKind.i64.wrap (sY * W) = pr := by rw [epr]; exact i1
                                clear i1
                                have HEP := Lib.hid epr
                                have b1 : decide (sX < 0) = false := decide_eq_false (by omega)
                                have b2 : decide (sY < 0) = false := decide_eq_false (by omega)
                                have b3 : decide (sX ≥ W) = false := decide_eq_false (by omega)
                                have b4 : decide (sY ≥ H) = false := decide_eq_false (by omega)
                                have b3' : decide (W ≤ sX) = false := decide_eq_false (by omega)
                                have b4' : decide (H ≤ sY) = false := decide_eq_false (by omega)
                                have HSV : Hid (sX = L[k].X ∧ sY = L[k].Y ∧ sN = L[k].N) := (show _ ∧ _ from ⟨esX, esY, esN⟩)
                                clear hc7 ekx esX esY esN h1 h2 epr
                                have p0 := ucell HQk.out.kw.px.bx 0
                                have p1 := ucell HQk.out.kw.px.bx 1
                                have p2 := ucell HQk.out.kw.px.bx 2
                                go_upto_region 37 with (fail)
                                go_quiet (fail)
                                have HQd := Lib.hid (HQk.out.below (pw_below_drewN (Below.refl wr.heap.size wr) nq))
                                have HRd := Lib.hid (HRk.out.below (pw_below_drewN (Below.refl wr.heap.size wr) nq))
                                clear HQk HRk c1 c2 c3 p0 p1 p2 b1 b2 b3 b4 b3' b4' HC7
                                generalize wr.drewN nq = V1 at HQd HRd ⊢
                                obtain ⟨ad8, e8, hc8⟩ := HRd.out hln
                                injection e8 with e8
                                subst e8
                                obtain ⟨c1, c2, c3⟩ := hc8 k hkt
                                rw [← HSV.out.1] at c1
                                rw [← HSV.out.2.1] at c2
                                clear hc8 c3
                                have p0 := ucell HQd.out.kw.px.bx 0
                                have p2 := ucell HQd.out.kw.px.bx 2
                                obtain ⟨adp, eadp, hcp⟩ := HQd.out.kw.px.rw (by omega)
                                subst eadp
                                obtain ⟨xk, exk⟩ : ∃ q, q = x kx := ⟨_, rfl⟩
                                have kp := hcp kx i3
                                rw [← exk] at kp i4
                                have hkf : Fin32 xk := by rw [← i4]; exact HZF.out k hkt
                                obtain ⟨uk, euk⟩ : ∃ q, q = wide64 xk := ⟨_, rfl⟩
                                have hfb := fun V => run_frombits32 xk V
                                have hcv := fun V => fwide_run xk (fin_not_nan hkf) V
                                obtain ⟨lo2, hmin, hLO2⟩ := HLO.out.step (fun k' hk' => HZF.out k' (by omega))
                                obtain ⟨hi2, hmax, hHI2⟩ := HHI.out.step (fun k' hk' => HZF.out k' (by omega))
                                rw [i4, ← euk] at hmin hmax
                                rw [← euk] at hcv
                                have HLO2 := Lib.hid hLO2
                                have HHI2 := Lib.hid hHI2
                                have hkm : (kx : Int) < (m : Int) := by omega
                                have hmin2 := fun (ts : Array TypeId) (tt : TypeId) (V : World) => hmin Try.prog ts tt V
                                have hmax2 := fun (ts : Array TypeId) (tt : TypeId) (V : World) => hmax Try.prog ts tt V
                                have hws := wtTo_succ L k
                                have hwm := wtTo_mono L (show k + 1 ≤ L.length by omega)
                                have hwk := HWT.out.1 k hkt
                                rw [HWT.out.2] at hwm
                                rw [i5] at hws hwk
                                obtain ⟨wk, ewk⟩ : ∃ q, q = wtTo L k := ⟨_, rfl⟩
                                obtain ⟨wk2, ewk2⟩ : ∃ q, q = wtTo L (k + 1) := ⟨_, rfl⟩
                                rw [← ewk, ← ewk2] at hws
                                rw [← ewk2] at hwm
                                rw [← ewk]
                                have WS : IntKind.i64.wrap ((wk : Int) + sN) = (wk2 : Int) := by rw [IntWalk.i64_in _ (by omega)]; omega
                                have HWK := Lib.hid ewk2
                                clear hmin hmax hLO2 hHI2 hcp exk hkf euk i5 HLO HHI hws hwm hwk ewk2 ewk
                                go_upto_region 39 with (fail)
                                go_quiet (fail)
                                have HQe := Lib.hid (HQd.out.below (pw_below_drewN (Below.refl V1.heap.size V1) nq))
                                have HRe := Lib.hid (HRd.out.below (pw_below_drewN (Below.refl V1.heap.size V1) nq))
                                clear HQd HRd c1 c2 p0 p2 kp hfb hcv
                                generalize V1.drewN nq = V2 at HQe HRe ⊢
                                obtain ⟨ad9, e9, hc9⟩ := HRe.out hln
                                injection e9 with e9
                                subst e9
                                obtain ⟨-, -, c3⟩ := hc9 k hkt
                                rw [← HSV.out.2.2] at c3
                                clear hc9
                                go_wp2
                                go_roundw
                                case rel => exact ⟨k + 1, lo2, hi2, rfl, rfl, by rw [← HWK.out], by first | rfl | go_num, by omega, HLO2.out, HHI2.out, HQe.out, HRe.out⟩
                                case measure => simp [intOf]; omega
                              · have hkz : ¬ (k : Int) < (L.length : Int) := by omega
                                have hkL : k = L.length := by omega
                                subst hkL
                                have q2 := ucell HQk.out.qb.bx 2
                                obtain ⟨adq, eadq, hcq⟩ := HQk.out.qb.rw hN1
                                subst eadq
                                have kq := hcq a hat
                                obtain ⟨hfin, ⟨o1, ho1, hr1⟩, ⟨o2, ho2, hr2⟩⟩ := px_between HWT.out.1 HWT.out.2 HZF.out HLO.out HHI.out
                                rw [← HY6.out] at hfin hr1 hr2
                                obtain ⟨sv, esv⟩ : ∃ q, q = y6 a := ⟨_, rfl⟩
                                rw [← esv] at hfin hr1 hr2 kq
                                have hfb := fun V => run_frombits32 sv V
                                have hcv := fun V => fwide_run sv (fin_not_nan hfin) V
                                obtain ⟨uv, euv⟩ : ∃ q, q = wide64 sv := ⟨_, rfl⟩
                                rw [← euv] at hcv hr1 hr2
                                have hn6 : (((wtTo L L.length : Nat) : Int) != 65536) = false := by rw [HWT.out.2]; rfl
                                obtain ⟨wL, ewL⟩ : ∃ q, q = wtTo L L.length := ⟨_, rfl⟩
                                rw [← ewL] at hn6 ⊢
                                clear hcq hfin esv euv ewL HLO HHI HY6
                                rcases ho1 with rfl | rfl <;> rcases ho2 with rfl | rfl
                                all_goals
                                  as_aux_lemma =>
                                    go_wp2
                                    go_roundw
                                    case rel => exact ⟨a + 1, by first | rfl | go_num, by omega, HQk.out⟩
                                    case measure => simp [intOf]; omega
                      · have haz : ¬ (a : Int) < (N : Int) := by omega
                        as_aux_lemma =>
                          go_wp2
                          go_ret
                          exact ⟨rfl, HQa.out.kw.be⟩
          · have HP0 := Lib.hid fun V => plane_no W H (some ⟨g4, 0, none⟩) i c4 2 border t u v V (by omega) hpe
            obtain ⟨er, eer⟩ : ∃ er, er = planeErr 2 border t W H i u v := ⟨_, rfl⟩
            rw [← eer] at HP0 hpe
            have hne : (er != 0) = true := by rw [bne_iff_ne]; exact hpe
            clear eer hpe
            unfold plC wpV wpC PlaneNo at HP0
            as_aux_lemma =>
              go_wp2_with (go_at_call 31; (with_reducible refine (HP0.out _).mono ?_); rintro e1 w5 ⟨rfl, hb⟩; have HB5 := Lib.hid (ujoin (ujoin HF5.out.kw.be hb) (kbelow_alloc w5 (.cells #[.int .i64 0, .int .i64 0, .slice none 0 0] 55))); clear hb f0 f1 f2 t0 t1 t2 t3 t4 t5 t6)
              go_ret
              exact ⟨rfl, HB5.out⟩
theorem lawKeeps_row (W H : Int) (A : Option Addr) (n c0 : Nat) (x : Nat → Nat) (s : Int) (border : Int) (t : Wp) (u v : Int) (w : World) (hr : RowU w A n x) (hc : n ≤ c0) (hm : n ≤ 9223372036854775807) (hl : ∀ k, k < n → x k < 4294967296) (hW : -9223372036854775808 ≤ W ∧ W ≤ 9223372036854775807) (hH : -9223372036854775808 ≤ H ∧ H ≤ 9223372036854775807) (hs : (Lit.int .u32 s).wf = true) :
    Calls Try.prog 8 #[.agg #[.int .i64 W, .int .i64 H, .slice A n c0], .int .u32 s, .int .i64 border, .agg #[.int .i64 t.A, .int .i64 t.B, .int .i64 t.C, .int .i64 t.D, .int .i64 t.E, .int .i64 t.F, .int .i64 t.Q], .int .i64 u, .int .i64 v] w fun e w' => WGives w (.bool true) e w' := by
  have h2 : 0 ≤ s ∧ s ≤ 4294967295 := by simpa [Lit.wf, IntKind.min, IntKind.max, IntKind.signed, IntKind.bits] using hs
  obtain ⟨k, rfl⟩ := Int.eq_ofNat_of_zero_le h2.1
  exact lawKeeps_calls W H A n c0 x k border t u v w hm hr hl (by omega)
end Go.Proofs.Ytdcpeeolfgohmaa
