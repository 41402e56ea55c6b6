/- The reference's Sum.Plus: the walk. -/
import Derived.Test.YtmeifciagepmpaaRsA
namespace Go.Proofs.Ytmeifciagepmpaa
open Go.RowKit Go.Proofs.YtmeifciagepmpaaW.PrintWords
set_option linter.unusedSimpArgs false
set_option linter.unusedVariables false

theorem RowU.putN {W : World} {A : Option Addr} {n : Nat} {x : Nat → Nat} {p : Addr} {v : Value} (h : RowU W A n x) (hp : W.cell? p = some v) (hv : ∀ q : Int, v ≠ .int .u32 q) (u : Value) : RowU (W.setCell p u) A n x := fun hn => by
  obtain ⟨ad, e, hc⟩ := h hn
  refine ⟨ad, e, fun i hi => ?_⟩
  rw [World.cell?_setCell_other _ _ _ _ (by
    intro e2
    have h1 := hc i hi
    rw [← e2, hp] at h1
    injection h1 with h1
    exact hv _ h1)]
  exact hc i hi
theorem NumAt.putN {W : World} {w2 : Value} {d : Ieee.Datum} {p : Addr} {v : Value} (h : NumAt W w2 d) (hp : W.cell? p = some v) (hv : ∀ q : Int, v ≠ .int .u32 q) (u : Value) : NumAt (W.setCell p u) w2 d := by
  cases d with
  | number s m q =>
    obtain ⟨A, c, e, A', c', e', hc, hr⟩ := h
    exact ⟨A, c, e, A', c', e', hc, hr.putN hp hv u⟩
  | infinity s => exact h
  | nan s t => exact h
/-- A Sum at g, a sample's number at h. -/
structure PlS (w : World) (g : Nat) (k : Int) (s : Bool) (A : Option Addr) (m c : Nat) (e : Int) (n : Nat) (na up dn pl : Bool) (h : Nat) (kx : Int) (sx : Bool) (vx : Value) (ex : Int) (mx : Bool) (dx : Ieee.Datum) (W : World) : Prop where
  gr : w.grownBy W (some g)
  bl : W.heap[g]? = some (.cells #[.int .i64 k, .bool s, .slice A (len32 m) c, .int .i64 e, .bool false, .int .i64 (n : Int), .bool na, .bool up, .bool dn, .bool pl] 114 (0, 0))
  bx : W.heap[h]? = some (.cells #[.int .i64 kx, .bool sx, vx, .int .i64 ex, .bool mx] 62 (0, 0))
  ne : h ≠ g
  ro : RowU W A (len32 m) (dig m)
  nx : NumAt W (.agg #[.int .i64 kx, .bool sx, vx, .int .i64 ex, .bool mx]) dx
section
variable {w W : World} {g : Nat} {k : Int} {s : Bool} {A : Option Addr} {m c : Nat} {e : Int} {n : Nat} {na up dn pl : Bool} {h : Nat} {kx : Int} {sx : Bool} {vx : Value} {ex : Int} {mx : Bool} {dx : Ieee.Datum}
theorem PlS.drew (H : PlS w g k s A m c e n na up dn pl h kx sx vx ex mx dx W) : PlS w g k s A m c e n na up dn pl h kx sx vx ex mx dx W.drew :=
  ⟨⟨H.gr.os, H.gr.tape, H.gr.output, H.gr.size, H.gr.block⟩, H.bl, H.bx, H.ne, H.ro, H.nx.below (show Below W.heap.size W W.drew from (Below.refl _ _).drew)⟩
theorem PlS.below {W' : World} (H : PlS w g k s A m c e n na up dn pl h kx sx vx ex mx dx W) (hb : Below W.heap.size W W') : PlS w g k s A m c e n na up dn pl h kx sx vx ex mx dx W' :=
  ⟨grown_trans H.gr (grown_below _ hb), (hb.block _ (Array.getElem?_eq_some_iff.1 H.bl).1).trans H.bl, (hb.block _ (Array.getElem?_eq_some_iff.1 H.bx).1).trans H.bx, H.ne, H.ro.below hb, H.nx.below hb⟩
theorem PlS.gput (H : PlS w g k s A m c e n na up dn pl h kx sx vx ex mx dx W) (i : Nat) (v u : Value) (hv : W.cell? ⟨g, i, none⟩ = some v) (hn : ∀ q : Int, v ≠ .int .u32 q) :
    w.grownBy (W.setCell ⟨g, i, none⟩ u) (some g) ∧ (W.setCell ⟨g, i, none⟩ u).heap[h]? = some (.cells #[.int .i64 kx, .bool sx, vx, .int .i64 ex, .bool mx] 62 (0, 0)) ∧ RowU (W.setCell ⟨g, i, none⟩ u) A (len32 m) (dig m) ∧ NumAt (W.setCell ⟨g, i, none⟩ u) (.agg #[.int .i64 kx, .bool sx, vx, .int .i64 ex, .bool mx]) dx :=
  ⟨⟨H.gr.os, H.gr.tape, H.gr.output, by simpa [World.setCell] using H.gr.size, fun k hk hne => by rw [Below.heap_setCell _ _ _ _ (fun e => hne (by rw [e]))]; exact H.gr.block k hk hne⟩, by rw [Below.heap_setCell _ _ _ _ H.ne]; exact H.bx, H.ro.putN hv hn u, H.nx.putN hv hn u⟩
theorem PlS.cells (H : PlS w g k s A m c e n na up dn pl h kx sx vx ex mx dx W) :
    (W.cell? ⟨g, 0, none⟩ = some (.int .i64 k) ∧ W.cell? ⟨g, 1, none⟩ = some (.bool s) ∧ W.cell? ⟨g, 2, none⟩ = some (.slice A (len32 m) c) ∧ W.cell? ⟨g, 3, none⟩ = some (.int .i64 e) ∧ W.cell? ⟨g, 4, none⟩ = some (.bool false) ∧ W.cell? ⟨g, 5, none⟩ = some (.int .i64 (n : Int)) ∧ W.cell? ⟨g, 6, none⟩ = some (.bool na) ∧ W.cell? ⟨g, 7, none⟩ = some (.bool up) ∧ W.cell? ⟨g, 8, none⟩ = some (.bool dn) ∧ W.cell? ⟨g, 9, none⟩ = some (.bool pl)) ∧
    (W.cell? ⟨h, 0, none⟩ = some (.int .i64 kx) ∧ W.cell? ⟨h, 1, none⟩ = some (.bool sx) ∧ W.cell? ⟨h, 2, none⟩ = some vx ∧ W.cell? ⟨h, 3, none⟩ = some (.int .i64 ex) ∧ W.cell? ⟨h, 4, none⟩ = some (.bool mx)) ∧ (∀ i, W.frozen? ⟨g, i, none⟩ = false) :=
  ⟨⟨ucell H.bl 0, ucell H.bl 1, ucell H.bl 2, ucell H.bl 3, ucell H.bl 4, ucell H.bl 5, ucell H.bl 6, ucell H.bl 7, ucell H.bl 8, ucell H.bl 9⟩, ⟨ucell H.bx 0, ucell H.bx 1, ucell H.bx 2, ucell H.bx 3, ucell H.bx 4⟩, fun i => ufree H.bl i⟩
theorem PlS.set5 (H : PlS w g k s A m c e n na up dn pl h kx sx vx ex mx dx W) (n' : Nat) : PlS w g k s A m c e n' na up dn pl h kx sx vx ex mx dx (W.setCell ⟨g, 5, none⟩ (.int .i64 (n' : Int))) := by
  obtain ⟨h1, h2, h3, h4⟩ := H.gput 5 _ (.int .i64 (n' : Int)) (ucell H.bl 5) (fun q e => by cases e)
  exact ⟨h1, blk_put H.bl 5 _ rfl, h2, H.ne, h3, h4⟩
theorem PlS.set6 (H : PlS w g k s A m c e n na up dn pl h kx sx vx ex mx dx W) (b : Bool) : PlS w g k s A m c e n b up dn pl h kx sx vx ex mx dx (W.setCell ⟨g, 6, none⟩ (.bool b)) := by
  obtain ⟨h1, h2, h3, h4⟩ := H.gput 6 _ (.bool b) (ucell H.bl 6) (fun q e => by cases e)
  exact ⟨h1, blk_put H.bl 6 _ rfl, h2, H.ne, h3, h4⟩
theorem PlS.set7 (H : PlS w g k s A m c e n na up dn pl h kx sx vx ex mx dx W) (b : Bool) : PlS w g k s A m c e n na b dn pl h kx sx vx ex mx dx (W.setCell ⟨g, 7, none⟩ (.bool b)) := by
  obtain ⟨h1, h2, h3, h4⟩ := H.gput 7 _ (.bool b) (ucell H.bl 7) (fun q e => by cases e)
  exact ⟨h1, blk_put H.bl 7 _ rfl, h2, H.ne, h3, h4⟩
theorem PlS.set8 (H : PlS w g k s A m c e n na up dn pl h kx sx vx ex mx dx W) (b : Bool) : PlS w g k s A m c e n na up b pl h kx sx vx ex mx dx (W.setCell ⟨g, 8, none⟩ (.bool b)) := by
  obtain ⟨h1, h2, h3, h4⟩ := H.gput 8 _ (.bool b) (ucell H.bl 8) (fun q e => by cases e)
  exact ⟨h1, blk_put H.bl 8 _ rfl, h2, H.ne, h3, h4⟩
theorem PlS.set9 (H : PlS w g k s A m c e n na up dn pl h kx sx vx ex mx dx W) (b : Bool) : PlS w g k s A m c e n na up dn b h kx sx vx ex mx dx (W.setCell ⟨g, 9, none⟩ (.bool b)) := by
  obtain ⟨h1, h2, h3, h4⟩ := H.gput 9 _ (.bool b) (ucell H.bl 9) (fun q e => by cases e)
  exact ⟨h1, blk_put H.bl 9 _ rfl, h2, H.ne, h3, h4⟩
/-- The Sum's number anew. -/
theorem PlS.putNum {A' : Option Addr} {m' c' : Nat} (H : PlS w g k s A m c e n na up dn pl h kx sx vx ex mx dx W) (k' : Int) (s' : Bool) (e' : Int) (hr : RowU W A' (len32 m') (dig m')) :
    PlS w g k' s' A' m' c' e' n na up dn pl h kx sx vx ex mx dx (put5 W g (.int .i64 k') (.bool s') (.slice A' (len32 m') c') (.int .i64 e') (.bool false)) := by
  have step : ∀ {W : World} {A'' : Option Addr} {m'' : Nat} (i : Nat) (v u : Value), w.grownBy W (some g) → W.heap[h]? = some (.cells #[.int .i64 kx, .bool sx, vx, .int .i64 ex, .bool mx] 62 (0, 0)) → RowU W A'' (len32 m'') (dig m'') → NumAt W (.agg #[.int .i64 kx, .bool sx, vx, .int .i64 ex, .bool mx]) dx → W.cell? ⟨g, i, none⟩ = some v → (∀ q : Int, v ≠ .int .u32 q) →
      w.grownBy (W.setCell ⟨g, i, none⟩ u) (some g) ∧ (W.setCell ⟨g, i, none⟩ u).heap[h]? = some (.cells #[.int .i64 kx, .bool sx, vx, .int .i64 ex, .bool mx] 62 (0, 0)) ∧ RowU (W.setCell ⟨g, i, none⟩ u) A'' (len32 m'') (dig m'') ∧ NumAt (W.setCell ⟨g, i, none⟩ u) (.agg #[.int .i64 kx, .bool sx, vx, .int .i64 ex, .bool mx]) dx := fun i v u h1 h2 h3 h4 hv hn =>
    ⟨⟨h1.os, h1.tape, h1.output, by simpa [World.setCell] using h1.size, fun k hk hne => by rw [Below.heap_setCell _ _ _ _ (fun e => hne (by rw [e]))]; exact h1.block k hk hne⟩, by rw [Below.heap_setCell _ _ _ _ H.ne]; exact h2, h3.putN hv hn u, h4.putN hv hn u⟩
  have b0 := H.bl
  obtain ⟨g1, x1, r1, n1⟩ := step 0 _ (.int .i64 k') H.gr H.bx hr H.nx (ucell b0 0) (fun q e => by cases e)
  have b1 := blk_put b0 0 (.int .i64 k') rfl
  obtain ⟨g2, x2, r2, n2⟩ := step 1 _ (.bool s') g1 x1 r1 n1 (ucell b1 1) (fun q e => by cases e)
  have b2 := blk_put b1 1 (.bool s') rfl
  obtain ⟨g3, x3, r3, n3⟩ := step 2 _ (.slice A' (len32 m') c') g2 x2 r2 n2 (ucell b2 2) (fun q e => by cases e)
  have b3 := blk_put b2 2 (.slice A' (len32 m') c') rfl
  obtain ⟨g4, x4, r4, n4⟩ := step 3 _ (.int .i64 e') g3 x3 r3 n3 (ucell b3 3) (fun q e => by cases e)
  have b4 := blk_put b3 3 (.int .i64 e') rfl
  obtain ⟨g5, x5, r5, n5⟩ := step 4 _ (.bool false) g4 x4 r4 n4 (ucell b4 4) (fun q e => by cases e)
  have b5 := blk_put b4 4 (.bool false) rfl
  exact ⟨g5, b5, x5, H.ne, r5, n5⟩
end

/-- The sums' flags behind a sample. -/
def RsEnd (w : World) (g : Nat) (k : Int) (s : Bool) (A : Option Addr) (m c : Nat) (e : Int) (n : Nat) (na up dn pl : Bool) (en : Ending) (w' : World) : Prop :=
  en = .returned (.tuple #[]) ∧ w.grownBy w' (some g) ∧ w'.heap[g]? = some (.cells #[.int .i64 k, .bool s, .slice A (len32 m) c, .int .i64 e, .bool false, .int .i64 (n : Int), .bool na, .bool up, .bool dn, .bool pl] 114 (0, 0)) ∧ RowU w' A (len32 m) (dig m)

/-- What Sum.Plus leaves: N is n; d the sample's number. -/
def RsPost (w : World) (g : Nat) (s2 : Bool) (m2 : Nat) (e2 : Int) (n : Nat) (na up dn pl : Bool) (q0 q1 : Bool) (d : Ieee.Datum) (en : Ending) (w' : World) : Prop :=
  ∃ (s3 : Bool) (A3 : Option Addr) (m3 c3 : Nat) (e3 : Int), RsEnd w g 2 s3 A3 m3 c3 e3 n na up dn pl en w' ∧ len32 m3 ≤ c3 ∧
    (((q0 = true ∨ q1 = true ∨ isZ d = true) ∧ s3 = s2 ∧ m3 = m2 ∧ e3 = e2) ∨ (q0 = false ∧ q1 = false ∧ plusD (.number s2 m2 e2) d = .number s3 m3 e3))

set_option maxHeartbeats 6400000 in
set_option maxRecDepth 100000 in
theorem rsPlus_calls (w : World) (g : Nat) (k : Int) (s s2 : Bool) (A A2 : Option Addr) (m c m2 c2 : Nat) (e e2 : Int) (n : Nat) (na up dn pl : Bool) (a : Nat) (ha : a < 4294967296) (hn : n ≤ 1000000000000)
    (hbl : w.heap[g]? = some (.cells #[.int .i64 k, .bool s, .slice A (len32 m) c, .int .i64 e, .bool false, .int .i64 (n : Int), .bool na, .bool up, .bool dn, .bool pl] 114 (0, 0))) (hr : RowU w A (len32 m) (dig m)) (hc : len32 m ≤ c)
    (h0 : (n = 0 ∧ s2 = false ∧ A2 = none ∧ m2 = 0 ∧ c2 = 0 ∧ e2 = 0) ∨ (1 ≤ n ∧ k = 2 ∧ s2 = s ∧ A2 = A ∧ m2 = m ∧ c2 = c ∧ e2 = e)) (hsm : Small (.number s2 m2 e2)) :
    Calls Try.prog 91 #[.pointer (some ⟨g, 0, none⟩), .int .u32 (a : Int)] w fun en w' =>
      RsPost w g s2 m2 e2 (n + 1) (na || (rd32 a).isNaN) (up || ((rd32 a).isInfinity && !sgnB a)) (dn || ((rd32 a).isInfinity && sgnB a)) (pl || decide (a ≠ 2147483648)) (rd32 a).isNaN (rd32 a).isInfinity (rd32 a) en w' := by
  have HF := Lib.hid fun W => F32_calls W
  have HO := Lib.hid fun W => of_calls 23 8 150 255 isF32 a ha W
  have W1 := u_w64 a (by omega)
  have HBL := Lib.hid hbl
  have HR := Lib.hid hr
  have HC := Lib.hid hc
  have H0 := Lib.hid h0
  have HSM := Lib.hid hsm
  have hqa : ((a : Int) != 2147483648) = decide (a ≠ 2147483648) := by
    by_cases h : a = 2147483648
    · subst h; rfl
    · rw [decide_eq_true h, bne_iff_ne]; omega
  obtain ⟨qa, eqa⟩ : ∃ q, q = decide (a ≠ 2147483648) := ⟨_, rfl⟩
  rw [← eqa] at hqa ⊢
  have HSG : Hid ((rd32 a).isInfinity = true → rd32 a = .infinity (sgnB a)) := (show _ → _ from fun h => by
    have hs : (a / 2 ^ (23 + 8) % 2 == 1) = sgnB a := by
      unfold sgnB
      by_cases h : 2147483648 ≤ a
      · have : a / 2 ^ (23 + 8) % 2 = 1 := by omega
        rw [this]; simp [h]
      · have : a / 2 ^ (23 + 8) % 2 = 0 := by omega
        rw [this]; simp [h]
    revert h
    rw [rd32, read_parts 23 8 150 255 isF32, hs]
    split
    · split
      · intro _; rfl
      · intro h; cases h
    · split <;> (intro h; cases h))
  obtain ⟨sg, esg⟩ : ∃ q, q = sgnB a := ⟨_, rfl⟩
  rw [← esg] at HSG ⊢
  have HSD := Lib.hid (show Small (rd32 a) from small_read 23 8 150 255 isF32 a)
  obtain ⟨dx, ed⟩ : ∃ d, d = rd32 a := ⟨_, rfl⟩
  have ed' : (fmt 23 8).read a = dx := ed.symm
  rw [ed'] at HO
  rw [← ed] at HSG HSD ⊢
  obtain ⟨q0, eq0⟩ : ∃ q, q = dx.isNaN := ⟨_, rfl⟩
  obtain ⟨q1, eq1⟩ : ∃ q, q = dx.isInfinity := ⟨_, rfl⟩
  have EQ0 := Lib.hid eq0
  have EQ1 := Lib.hid eq1
  rw [← eq0, ← eq1]
  clear hbl hr ed ed' eqa esg hc h0 hsm eq0 eq1
  go_enter Try.func91, Try.ntmps91
  go_upto_region 1 with (first
    | (go_at_call 40; refine (HF.out _).mono ?_; rintro e1 w1 ⟨rfl, hbel⟩; have HB1 := Lib.hid hbel; clear hbel)
    | (go_at_call 41; refine (HO.out _).mono ?_; rintro e1 w2 ⟨u, rfl, hu, hbel⟩; have HB2 := Lib.hid (ujoin HB1.out hbel); have HU := Lib.hid hu; obtain ⟨kx, sx, Ax, nx, cx, ex, mx, rfl⟩ := hu.form; unfold numV at HU ⊢; clear hbel hu))
  have HK : Hid ((kx == 0) = dx.isNaN ∧ (kx == 1) = dx.isInfinity ∧ (dx.isInfinity = true → sx = sg) ∧ (kx == 2) = (!dx.isNaN && !dx.isInfinity)) := (show _ ∧ _ ∧ _ ∧ _ from by
    have h1 := HU.out
    have h2 := HSG.out
    cases hdx : dx with
    | nan s t => rw [hdx] at h1; obtain ⟨_, _, _, _, _, _, h1⟩ := h1; unfold numV at h1; injection h1 with h1; simp at h1; rw [h1.1]; exact ⟨rfl, rfl, (fun h => by cases h), rfl⟩
    | infinity s =>
      rw [hdx] at h1 h2
      have h3 := h2 rfl
      injection h3 with h3
      obtain ⟨_, _, _, _, _, h1⟩ := h1; unfold numV at h1; injection h1 with h1; simp at h1; rw [h1.1, h1.2.1]; exact ⟨rfl, rfl, fun _ => h3, rfl⟩
    | number s m p => rw [hdx] at h1; obtain ⟨_, _, h1, _⟩ := h1; unfold numV at h1; injection h1 with h1; simp at h1; rw [h1.1]; exact ⟨rfl, rfl, (fun h => by cases h), rfl⟩)
  obtain ⟨vx, evx⟩ : ∃ v, v = Value.slice Ax nx cx := ⟨_, rfl⟩
  rw [← evx] at HU ⊢
  have HP0 : Hid (PlS w g k s A m c e n na up dn pl w2.heap.size kx sx vx ex mx dx (w2.alloc (.cells #[.int .i64 kx, .bool sx, vx, .int .i64 ex, .bool mx] 62))) := (show PlS _ _ _ _ _ _ _ _ _ _ _ _ _ _ _ _ _ _ _ _ _ from by
    have hb : Below w.heap.size w (w2.alloc (.cells #[.int .i64 kx, .bool sx, vx, .int .i64 ex, .bool mx] 62)) := ujoin HB2.out ((Below.refl _ _).alloc (Nat.le_refl _) _)
    have hg := (Array.getElem?_eq_some_iff.1 HBL.out).1
    exact ⟨grown_below _ hb, (hb.block g hg).trans HBL.out, heap_alloc_new w2 _, (by have := HB2.out.size; omega), HR.out.below hb, HU.out.below ((Below.refl _ _).alloc (Nat.le_refl _) _)⟩)
  obtain ⟨W3, eW⟩ : ∃ W3, W3 = w2.alloc (.cells #[.int .i64 kx, .bool sx, vx, .int .i64 ex, .bool mx] 62) := ⟨_, rfl⟩
  rw [← eW] at HP0 ⊢
  obtain ⟨h, eh⟩ : ∃ h, h = w2.heap.size := ⟨_, rfl⟩
  rw [← eh] at HP0 ⊢
  clear eW eh HB1 HB2 HU HBL HR HF HO W1 evx HSG
  obtain ⟨k0, k1, k2, k3⟩ := HK.out
  rw [← EQ0.out] at k0 k3
  rw [← EQ1.out] at k1 k2 k3
  have K2 := Lib.hid k2
  have K3 := Lib.hid k3
  have K0 := Lib.hid k0
  have K1 := Lib.hid k1
  have HQA := Lib.hid hqa
  clear k0 k1 k2 k3 hqa HK
  obtain ⟨⟨g0, g1, g2, g3, g4, g5, g6, g7, g8, g9⟩, ⟨x0, x1, x2, x3, x4⟩, fz⟩ := HP0.out.cells
  have HFZ := Lib.hid fz
  obtain ⟨z0, ez0⟩ : ∃ z : Bool, ((n : Int) == 0) = z := ⟨_, rfl⟩
  clear fz g0 g1 g2 g3 g4 g6 g7 g8 g9 x0 x1 x2 x3 x4
  go_upto_if 13 with (fail)
  have EZ := Lib.hid ez0
  clear ez0 g5
  go_cut [13] (fun v13 wc => ∃ bb : Bool, v13 = .bool bb ∧ Aside (PlS w g 2 s2 A2 m2 c2 e2 n na up dn pl h kx sx vx ex mx dx wc) ∧ Hid (len32 m2 ≤ c2))
  case first =>
    cases z0 with
    | true =>
      have hn0 : n = 0 := by have := EZ.out; rw [beq_iff_eq] at this; omega
      have HP1 : Hid (PlS w g 2 s2 A2 m2 c2 e2 n na up dn pl h kx sx vx ex mx dx (put5 W3 g (.int .i64 2) (.bool false) (.slice none 0 0) (.int .i64 0) (.bool false)) ∧ len32 m2 ≤ c2) := (show _ ∧ _ from by
        rcases H0.out with ⟨_, rfl, rfl, rfl, rfl, rfl⟩ | ⟨h1, _⟩
        · exact ⟨HP0.out.putNum (A' := none) (m' := 0) (c' := 0) 2 false 0 (RowU.nil _ _ _), Nat.le_refl _⟩
        · omega)
      have f0 := HFZ.out 0
      have f1 := HFZ.out 1
      have f2 := HFZ.out 2
      have f3 := HFZ.out 3
      have f4 := HFZ.out 4
      obtain ⟨⟨g0, g1, g2, g3, g4, g5, g6, g7, g8, g9⟩, -, -⟩ := HP0.out.cells
      unfold Go.Proofs.Ytmeifciagepmpaa.put5 at HP1
      clear hn0 H0 HP0
      go_wp2
      go_meet
      case rel => exact ⟨true, rfl, HP1.out.1, HP1.out.2⟩
    | false =>
      have hn0 : n ≠ 0 := by have := EZ.out; rw [beq_eq_false_iff_ne] at this; omega
      have HP1 : Hid (PlS w g 2 s2 A2 m2 c2 e2 n na up dn pl h kx sx vx ex mx dx W3 ∧ len32 m2 ≤ c2) := (show _ ∧ _ from by
        rcases H0.out with ⟨h1, _⟩ | ⟨_, rfl, rfl, rfl, rfl, rfl, rfl⟩
        · omega
        · exact ⟨HP0.out, HC.out⟩)
      clear hn0 H0 HP0
      go_wp2
      go_meet
      case rel => exact ⟨false, rfl, HP1.out.1, HP1.out.2⟩
  case rest =>
    obtain ⟨bb, rfl, HP1, HC2⟩ := hcut
    clear EZ HFZ HP0 H0 HC
    obtain ⟨⟨-, -, -, -, -, g5, -, -, -, -⟩, -, fz⟩ := HP1.out.cells
    have f5 := fz 5
    clear fz
    go_upto_region 4 with (fail)
    have HP2 := Lib.hid (HP1.out.set5 (n + 1))
    clear g5 f5 HP1
    have e5 : ((n + 1 : Nat) : Int) = (n : Int) + 1 := by omega
    rw [e5] at HP2
    clear e5
    generalize wc.setCell ⟨g, 5, none⟩ (.int .i64 ((n : Int) + 1)) = W4 at HP2 ⊢
    obtain ⟨⟨-, -, -, -, -, -, g6, -, -, -⟩, ⟨x0, -, -, -, -⟩, fz⟩ := HP2.out.cells
    have f6 := fz 6
    have k0 := K0.out
    clear fz
    go_cut [34] (fun v34 wc => ∃ bb : Bool, v34 = .bool bb ∧ Aside (PlS w g 2 s2 A2 m2 c2 e2 (n + 1) (na || q0) up dn pl h kx sx vx ex mx dx wc))
    case first =>
      cases na with
      | true =>
        have HP3 := Lib.hid (HP2.out.set6 true)
        clear HP2
        go_wp2
        go_meet
        case rel => exact ⟨true, rfl, HP3.out⟩
      | false =>
        cases q0 with
        | true =>
          have HP3 := Lib.hid (HP2.out.set6 true)
          clear HP2
          go_wp2
          go_meet
          case rel => exact ⟨true, rfl, HP3.out⟩
        | false =>
          have HP3 := Lib.hid (HP2.out.set6 false)
          clear HP2
          go_wp2
          go_meet
          case rel => exact ⟨false, rfl, HP3.out⟩
    case rest =>
      obtain ⟨b4, rfl, HP2⟩ := hcut
      clear g6 x0 f6 k0
      obtain ⟨n4, en4⟩ : ∃ q, q = (na || q0) := ⟨_, rfl⟩
      rw [← en4] at HP2
      have EN4 := Lib.hid en4
      clear en4
      obtain ⟨⟨-, -, -, -, -, -, -, g7, -, -⟩, ⟨x0, x1, -, -, -⟩, fz⟩ := HP2.out.cells
      have f7 := fz 7
      have k1 := K1.out
      clear fz
      go_upto_region 5 with (fail)
      go_cut [51] (fun v51 wc => ∃ bb : Bool, v51 = .bool bb ∧ Aside (PlS w g 2 s2 A2 m2 c2 e2 (n + 1) n4 (up || (q1 && !sx)) dn pl h kx sx vx ex mx dx wc))
      case first =>
        cases up with
        | true =>
          have HP3 := Lib.hid (HP2.out.set7 true)
          clear HP2
          go_wp2
          go_meet
          case rel => exact ⟨true, rfl, HP3.out⟩
        | false =>
          cases q1 with
          | true =>
            cases sx with
            | true =>
              have HP3 := Lib.hid (HP2.out.set7 false)
              clear HP2
              go_wp2
              go_meet
              case rel => exact ⟨false, rfl, HP3.out⟩
            | false =>
              have HP3 := Lib.hid (HP2.out.set7 true)
              clear HP2
              go_wp2
              go_meet
              case rel => exact ⟨true, rfl, HP3.out⟩
          | false =>
            have HP3 := Lib.hid (HP2.out.set7 false)
            clear HP2
            go_wp2
            go_meet
            case rel => exact ⟨false, rfl, HP3.out⟩
      case rest =>
        obtain ⟨b5, rfl, HP2⟩ := hcut
        clear g7 x0 x1 f7 k1
        obtain ⟨n5, en5⟩ : ∃ q, q = (up || (q1 && !sx)) := ⟨_, rfl⟩
        rw [← en5] at HP2
        have EN5 := Lib.hid en5
        clear en5
        obtain ⟨⟨-, -, -, -, -, -, -, -, g8, -⟩, ⟨x0, x1, -, -, -⟩, fz⟩ := HP2.out.cells
        have f8 := fz 8
        have k1 := K1.out
        clear fz
        go_upto_region 6 with (fail)
        go_cut [67] (fun v67 wc => ∃ bb : Bool, v67 = .bool bb ∧ Aside (PlS w g 2 s2 A2 m2 c2 e2 (n + 1) n4 n5 (dn || (q1 && sx)) pl h kx sx vx ex mx dx wc))
        case first =>
          cases dn with
          | true =>
            have HP3 := Lib.hid (HP2.out.set8 true)
            clear HP2
            go_wp2
            go_meet
            case rel => exact ⟨true, rfl, HP3.out⟩
          | false =>
            cases q1 with
            | true =>
              cases sx with
              | true =>
                have HP3 := Lib.hid (HP2.out.set8 true)
                clear HP2
                go_wp2
                go_meet
                case rel => exact ⟨true, rfl, HP3.out⟩
              | false =>
                have HP3 := Lib.hid (HP2.out.set8 false)
                clear HP2
                go_wp2
                go_meet
                case rel => exact ⟨false, rfl, HP3.out⟩
            | false =>
              have HP3 := Lib.hid (HP2.out.set8 false)
              clear HP2
              go_wp2
              go_meet
              case rel => exact ⟨false, rfl, HP3.out⟩
        case rest =>
          obtain ⟨b6, rfl, HP2⟩ := hcut
          clear g8 x0 x1 f8 k1
          obtain ⟨n6, en6⟩ : ∃ q, q = (dn || (q1 && sx)) := ⟨_, rfl⟩
          rw [← en6] at HP2
          have EN6 := Lib.hid en6
          clear en6
          obtain ⟨⟨-, -, -, -, -, -, -, -, -, g9⟩, -, fz⟩ := HP2.out.cells
          have f9 := fz 9
          have ka := HQA.out
          clear fz
          go_upto_region 7 with (fail)
          go_cut [78] (fun v78 wc => ∃ bb : Bool, v78 = .bool bb ∧ Aside (PlS w g 2 s2 A2 m2 c2 e2 (n + 1) n4 n5 n6 (pl || qa) h kx sx vx ex mx dx wc))
          case first =>
            cases pl with
            | true =>
              have HP3 := Lib.hid (HP2.out.set9 true)
              clear HP2
              go_wp2
              go_meet
              case rel => exact ⟨true, rfl, HP3.out⟩
            | false =>
              cases qa with
              | true =>
                have HP3 := Lib.hid (HP2.out.set9 true)
                clear HP2
                go_wp2
                go_meet
                case rel => exact ⟨true, rfl, HP3.out⟩
              | false =>
                have HP3 := Lib.hid (HP2.out.set9 false)
                clear HP2
                go_wp2
                go_meet
                case rel => exact ⟨false, rfl, HP3.out⟩
          case rest =>
            obtain ⟨b7, rfl, HP2⟩ := hcut
            clear g9 f9 ka
            obtain ⟨n7, en7⟩ : ∃ q, q = (pl || qa) := ⟨_, rfl⟩
            rw [← en7] at HP2
            have EN7 := Lib.hid en7
            clear en7
            have HFIN : Hid (∀ (W : World) (s3 : Bool) (A3 : Option Addr) (m3 c3 : Nat) (e3 : Int), PlS w g 2 s3 A3 m3 c3 e3 (n + 1) n4 n5 n6 n7 h kx sx vx ex mx dx W → len32 m3 ≤ c3 →
              (((q0 = true ∨ q1 = true ∨ isZ dx = true) ∧ s3 = s2 ∧ m3 = m2 ∧ e3 = e2) ∨ (q0 = false ∧ q1 = false ∧ plusD (.number s2 m2 e2) dx = .number s3 m3 e3)) →
              RsPost w g s2 m2 e2 (n + 1) (na || q0) (up || (q1 && !sg)) (dn || (q1 && sg)) (pl || qa) q0 q1 dx (.returned (.tuple #[])) W) := (show ∀ W s3 A3 m3 c3 e3, _ → _ → _ → _ from fun W s3 A3 m3 c3 e3 hp hc ho => by
              refine ⟨s3, A3, m3, c3, e3, ⟨rfl, hp.gr, ?_, hp.ro⟩, hc, ho⟩
              have h5 : (up || (q1 && !sg)) = n5 ∧ (dn || (q1 && sg)) = n6 := by
                rw [EN5.out, EN6.out]
                cases hq : q1
                · exact ⟨rfl, rfl⟩
                · rw [K2.out hq]; exact ⟨rfl, rfl⟩
              rw [h5.1, h5.2, ← EN4.out, ← EN7.out]
              exact hp.bl)
            clear EN4 EN5 EN6 EN7 K2
            have k3 := K3.out
            cases q0 with
            | true =>
              have HE := Lib.hid (HFIN.out wc _ _ _ _ _ HP2.out HC2.out (.inl ⟨.inl rfl, rfl, rfl, rfl⟩))
              have k4 : (kx == 2) = false := k3
              obtain ⟨-, ⟨x0, -⟩, -⟩ := HP2.out.cells
              clear HFIN k3 HP2
              go_wp2
              go_end0
              exact HE.out
            | false =>
              cases q1 with
              | true =>
                have HE := Lib.hid (HFIN.out wc _ _ _ _ _ HP2.out HC2.out (.inl ⟨.inr (.inl rfl), rfl, rfl, rfl⟩))
                have k4 : (kx == 2) = false := k3
                obtain ⟨-, ⟨x0, -⟩, -⟩ := HP2.out.cells
                clear HFIN k3 HP2
                go_wp2
                go_end0
                exact HE.out
              | false =>
                have k4 : (kx == 2) = true := k3
                have k5 : kx = 2 := by rwa [beq_iff_eq] at k4
                subst k5
                obtain ⟨zb, ezb⟩ : ∃ z, z = isZ dx := ⟨_, rfl⟩
                have HZC := Lib.hid (zero_calls dx _ wc HP2.out.nx)
                rw [← ezb] at HZC HFIN
                clear ezb
                obtain ⟨-, ⟨x0, x1, x2, x3, x4⟩, -⟩ := HP2.out.cells
                cases zb with
                | true =>
                  have HE : Hid (∀ w3, Below wc.heap.size wc w3 → _) := (show ∀ w3, _ → _ from fun w3 hb => HFIN.out w3 _ _ _ _ _ (HP2.out.below hb) HC2.out (.inl ⟨.inr (.inr rfl), rfl, rfl, rfl⟩))
                  clear HFIN k3 k4 HP2
                  go_wp2_with (go_at_call 93; refine HZC.out.mono ?_; rintro e1 w3 ⟨rfl, hbel⟩; have HE2 := Lib.hid (HE.out _ hbel); clear hbel)
                  go_end0
                  exact HE2.out
                | false =>
                  have EDX : Hid (∃ t q f, dx = .number t q f) := (show ∃ t q f, _ from by
                    cases hdx : dx with
                    | nan s t => have := EQ0.out; rw [hdx] at this; cases this
                    | infinity s => have := EQ1.out; rw [hdx] at this; cases this
                    | number t q f => exact ⟨t, q, f, rfl⟩)
                  obtain ⟨s3, m3, e3, EPL⟩ : ∃ s3 m3 e3, Hid (plusD (.number s2 m2 e2) dx = .number s3 m3 e3) := by
                    obtain ⟨t, q, f, h⟩ := EDX.out
                    rw [h]
                    exact ⟨_, _, _, rfl⟩
                  have HPL : Hid (∀ W, PlS w g 2 s2 A2 m2 c2 e2 (n + 1) n4 n5 n6 n7 h 2 sx vx ex mx dx W → Calls Try.prog 90 #[.agg #[.int .i64 2, .bool s2, .slice A2 (len32 m2) c2, .int .i64 e2, .bool false], .agg #[.int .i64 2, .bool sx, vx, .int .i64 ex, .bool mx]] W fun e w' => ∃ A3 c3, e = .returned (.agg #[.int .i64 2, .bool s3, .slice A3 (len32 m3) c3, .int .i64 e3, .bool false]) ∧ len32 m3 ≤ c3 ∧ PlS w g 2 s2 A2 m2 c2 e2 (n + 1) n4 n5 n6 n7 h 2 sx vx ex mx dx w' ∧ PlS w g 2 s3 A3 m3 c3 e3 (n + 1) n4 n5 n6 n7 h 2 sx vx ex mx dx (put5 w' g (.int .i64 2) (.bool s3) (.slice A3 (len32 m3) c3) (.int .i64 e3) (.bool false))) := (show ∀ W, _ → _ from fun W hW =>
                    (plusNum_calls (.number s2 m2 e2) dx _ _ W ⟨A2, c2, rfl, A2, c2, rfl, HC2.out, hW.ro⟩ hW.nx HSM.out HSD.out).mono fun e w' ⟨u, he, hu, hb⟩ => by
                      rw [EPL.out] at hu
                      obtain ⟨A3, c3, rfl, A', c', e', hc3, hr3⟩ := hu
                      injection e' with e1 e2 e3
                      subst e1 e3
                      exact ⟨A3, c3, he, hc3, hW.below hb, (hW.below hb).putNum 2 s3 e3 hr3⟩)
                  clear k3 k4 EDX
                  go_upto_region 9 with (go_at_call 93; refine HZC.out.mono ?_; rintro e1 w3 ⟨rfl, hbel⟩; have HP3 := Lib.hid (HP2.out.below hbel); clear hbel)
                  obtain ⟨⟨g0, g1, g2, g3, g4, -⟩, ⟨y0, y1, y2, y3, y4⟩, fz⟩ := HP3.out.drew.cells
                  have fz0 := fz 0
                  clear fz
                  go_region_with ((go_at_call 90; refine (HPL.out _ HP3.out.drew).mono ?_; rintro e1 w4 ⟨A3, c3, rfl, hc3, hp4, hp5⟩; have HC3 := Lib.hid hc3; have HP5 := Lib.hid hp5; obtain ⟨⟨q0, q1, q2, q3, q4, -⟩, -, fz⟩ := hp4.cells; have fa0 := fz 0; have fa1 := fz 1; have fa2 := fz 2; have fa3 := fz 3; have fa4 := fz 4; clear hc3 hp4 hp5 fz))
                  all_goals
                    unfold Go.Proofs.Ytmeifciagepmpaa.put5 at HP5
                    go_end0
                    exact HFIN.out _ s3 A3 m3 c3 e3 HP5.out HC3.out (.inr (by first | exact ⟨rfl, rfl, EPL.out⟩ | exact ⟨trivial, trivial, EPL.out⟩))
end Go.Proofs.Ytmeifciagepmpaa
