/- halidelaw28.known: its numbers. halidelaw28.known: the walk. -/
import Derived.Test.YtdcpeeolfgohmaaWmZN
import Derived.Test.YtdcpeeolfgohmaaWmY
import Derived.Test.YtdcpeeolfgohmaaWords
namespace Go.Proofs.Ytdcpeeolfgohmaa
open Go.RowKit Go.Proofs.YtdcpeeolfgohmaaW.PrintWords
set_option linter.unusedSimpArgs false
set_option linter.unusedVariables false

def wUx (l : List Nat) : Nat → Nat := fun k => l.getD k 0
def wHalf : Wp := ⟨1, 0, 1, 0, 2, 0, 2⟩
def wSkew : Wp := ⟨1, 1, 0, 1, 1, 0, 1⟩
def kX : Nat → Nat := wUx [0, 1065353216, 1082130432]
def kLin (i : Nat) : List Spt := match i with
  | 0 => [⟨0, 0, 32768⟩, ⟨1, 0, 32768⟩]
  | 1 => [⟨1, 0, 65536⟩]
  | 2 => [⟨1, 0, 32768⟩, ⟨2, 0, 32768⟩]
  | 3 => [⟨2, 0, 65536⟩]
  | _ => [⟨2, 0, 32768⟩, ⟨2, 0, 32768⟩]
def kRes (i : Nat) : Nat → Int := fun k => shOf (wt4 2 (((i : Int) + 1) % 2) 0) 4 k
theorem kSh (i : Nat) (hi : i < 5) : IsShared (wt4 2 (((i : Int) + 1) % 2) 0) 4 (kRes i) := by
  refine ⟨fun _ => false, ⟨?_, fun a b _ _ h _ => by cases h⟩, fun k _ => ?_⟩
  · rcases (show i = 0 ∨ i = 1 ∨ i = 2 ∨ i = 3 ∨ i = 4 by omega) with rfl | rfl | rfl | rfl | rfl <;> decide
  · have : sumTo (wt4 2 (((i : Int) + 1) % 2) 0) 4 = 4 := by rw [wt4_sum]; rfl
    rw [this]
    simp [kRes]
theorem kSpots (i : Nat) (hi : i < 5) : IsSpots 2 1 wHalf 3 1 ((i : Int) % 5) ((i : Int) / 5) (kLin i) := by
  refine .inr ⟨by decide, kRes i, ?_, ?_⟩
  · rcases (show i = 0 ∨ i = 1 ∨ i = 2 ∨ i = 3 ∨ i = 4 by omega) with rfl | rfl | rfl | rfl | rfl
    · exact kSh 0 (by decide)
    · exact kSh 1 (by decide)
    · exact kSh 2 (by decide)
    · exact kSh 3 (by decide)
    · exact kSh 4 (by decide)
  · rcases (show i = 0 ∨ i = 1 ∨ i = 2 ∨ i = 3 ∨ i = 4 by omega) with rfl | rfl | rfl | rfl | rfl <;> rfl
def kOut : Nat → Nat := wUx [1056964608, 1065353216, 1075838976, 1082130432, 1082130432]
def kDot (i : Nat) : Nat := dotB (spN (kLin i)) (spX kX 3 (kLin i)) (kLin i).length
theorem kDot_0 : kDot 0 = 4602678819172646912 := by decide +kernel
theorem kDot_1 : kDot 1 = 4607182418800017408 := by decide +kernel
theorem kDot_2 : kDot 2 = 4612811918334230528 := by decide +kernel
theorem kDot_3 : kDot 3 = 4616189618054758400 := by decide +kernel
theorem kDot_4 : kDot 4 = 4616189618054758400 := by decide +kernel
theorem kOutOk (i : Nat) (hi : i < 5) : NarrowOk (kDot i) ∧ told32 (rd64 (kDot i)) = kOut i := by
  rcases (show i = 0 ∨ i = 1 ∨ i = 2 ∨ i = 3 ∨ i = 4 by omega) with rfl | rfl | rfl | rfl | rfl
  · rw [kDot_0]; exact ⟨fun s m p _ => by decide +kernel, by decide +kernel⟩
  · rw [kDot_1]; exact ⟨fun s m p _ => by decide +kernel, by decide +kernel⟩
  · rw [kDot_2]; exact ⟨fun s m p _ => by decide +kernel, by decide +kernel⟩
  · rw [kDot_3]; exact ⟨fun s m p _ => by decide +kernel, by decide +kernel⟩
  · rw [kDot_4]; exact ⟨fun s m p _ => by decide +kernel, by decide +kernel⟩
theorem kPx (i s : Nat) (hi : i < 5) (h : IsPx 2 1 wHalf 3 1 kX 5 i s) : s = kOut i :=
  h.unique ⟨kLin i, kSpots i hi, by unfold pxOf; rw [if_neg (by decide)]; exact (kOutOk i hi).2.symm⟩
theorem kOk (i : Nat) (L : List Spt) (hi : (i : Int) < 5 * 1) (h : IsSpots 2 1 wHalf 3 1 ((i : Int) % 5) ((i : Int) / 5) L) : NarrowOk (dotB (spN L) (spX kX 3 L) L.length) := by
  rw [h.unique (kSpots i (by omega))]
  exact (kOutOk i (by omega)).1
def kOutN : Nat → Nat := wUx [1065353216, 1065353216, 1082130432, 1082130432, 1082130432]
theorem kPxN (i s : Nat) (hi : i < 5) (h : IsPx 1 1 wHalf 3 1 kX 5 i s) : s = kOutN i := by
  obtain ⟨L, hL, hs⟩ := h
  rcases hL with ⟨_, h2⟩ | ⟨h1, _⟩
  · rw [hs, h2]
    rcases (show i = 0 ∨ i = 1 ∨ i = 2 ∨ i = 3 ∨ i = 4 by omega) with rfl | rfl | rfl | rfl | rfl <;> rfl
  · exact absurd rfl h1
theorem kBack : backW wHalf = (⟨2, 0, -1, 0, 1, 0, 1⟩, 0) := by kernel_rfl
theorem kSkew : (backW wSkew).2 = 283 := by decide +kernel
attribute [local go_sem] Oper.semAt_some

set_option maxRecDepth 100000 in
theorem half_calls (w : World) : Calls Try.prog 56 #[] w fun e w' => WGives w (wpV wHalf) e w' := by
  unfold WGives wpV wpC wHalf
  go_enter Try.func56, Try.ntmps56
  go_wp2
  refine bodyPost_ret (results_cell_row rfl _ _ w.heap.size 32 _ (0, 0) _ rfl (heap_alloc_new w _) Try.underlying32 rfl (by kernel_rfl)) rfl ?_
  exact ⟨rfl, (Below.refl _ _).alloc (Nat.le_refl _) _⟩
/-- Plane, where all may be asked. -/
theorem plane_calls (W H : Int) (A : Option Addr) (np cp : Nat) (kind border : Int) (t : Wp) (w h : Int) (x : Nat → Nat) (w0 : World) (hnp : np ≤ 1000000000) (hrow : RowU w0 A np x) (hxb : ∀ k, k < np → x k < 4294967296) (HOK : ∀ (i : Nat) (L : List Spt), (i : Int) < w * h → kind ≠ 1 → IsSpots kind border t W H ((i : Int) % w) ((i : Int) / w) L → NarrowOk (dotB (spN L) (spX x W L) L.length)) (he : plE W H np = 0) (hr : rightE kind border t W H = 0) (hs : sizeB w h = true) :
    Calls Try.prog 31 #[.agg (plC W H A np cp), .int .i64 kind, .int .i64 border, wpV t, .int .i64 w, .int .i64 h] w0 fun e w' => PlaneEnd w0 kind border t W H x w h e w' :=
  (callsIn_wide (n := 9)).1 (plane_in W H A np cp kind border t w h x w0 hnp hrow hxb HOK he hr hs)
/-- A made row, as a comparison reads it. -/
theorem px_rowU {w' : World} {kind border : Int} {t : Wp} {W H : Int} {x : Nat → Nat} {w1 : Int} {v : Value} {cs : List Value} {base n : Nat} (h : OwnC w' base 65 v cs) (hp : PxRow kind border t W H x w1 cs) (hl : cs.length = n) {y : Nat → Nat} (hy : ∀ i s, i < n → IsPx kind border t W H x w1 i s → s = y i) : ∃ A c, v = .slice A n c ∧ RowU w' A n y := by
  obtain ⟨A, c, e, hc, -, hr⟩ := h.row
  rw [hl] at e hr
  refine ⟨A, c, e, fun hn => ?_⟩
  obtain ⟨ad, eA, hcl⟩ := hr hn
  refine ⟨ad, eA, fun i hi => hcl i _ ?_⟩
  obtain ⟨s, h1, h2⟩ := hp i (by omega)
  rw [h1, hy i s hi h2]

theorem wbelow_of_alloc {w w' : World} {o : Obj} (h : Below (w.alloc o).heap.size (w.alloc o) w') : Below w.heap.size w w' := ujoin ((Below.refl _ _).alloc (Nat.le_refl _) o) h
theorem below_drew {w w' : World} (h : Below w.drew.heap.size w.drew w') : Below w.heap.size w w' := ⟨h.os, h.tape, h.output, h.size, h.block⟩
/-- What a plane's call leaves: the row of samples, made behind the call. -/
def PlaneGot (w0 : World) (y : Nat → Nat) (e : Ending) (w' : World) : Prop := ∃ A c, e = .returned (.tuple #[.agg #[.int .i64 5, .int .i64 1, .slice A 5 c], .int .i64 0]) ∧ RowU w' A 5 y ∧ (∀ ad, A = some ad → w0.heap.size ≤ ad.block) ∧ Below w0.heap.size w0 w'
theorem plane_got {kind : Int} {y : Nat → Nat} {w0 w' : World} {e : Ending} (hy : ∀ i s, i < 5 → IsPx kind 1 wHalf 3 1 kX 5 i s → s = y i) (h : PlaneEnd w0 kind 1 wHalf 3 1 kX 5 1 e w') : PlaneGot w0 y e w' := by
  obtain ⟨v, cs, rfl, ho, hl, hp, hb⟩ := h
  obtain ⟨A, c, rfl, hr⟩ := px_rowU (n := 5) ho hp (by omega) (y := y) hy
  exact ⟨A, c, rfl, hr, fun ad e => (ho.lt ad.block (by rw [e]; rfl)).1, hb⟩
theorem kX_lt : ∀ k, k < 3 → kX k < 4294967296 := fun k hk => by
  rcases (show k = 0 ∨ k = 1 ∨ k = 2 by omega) with rfl | rfl | rfl <;> decide
theorem plane_lin (w0 : World) (g c : Nat) (hrow : RowU w0 (some ⟨g, 0, none⟩) 3 kX) :
    Calls Try.prog 31 #[.agg #[.int .i64 3, .int .i64 1, .slice (some ⟨g, 0, none⟩) 3 c], .int .i64 2, .int .i64 1, wpV wHalf, .int .i64 5, .int .i64 1] w0 fun e w' => PlaneGot w0 kOut e w' :=
  (plane_calls 3 1 (some ⟨g, 0, none⟩) 3 c 2 1 wHalf 5 1 kX w0 (by decide) hrow kX_lt (fun i L hi _ h => kOk i L hi h) (by decide) (by decide) (by decide)).mono fun e w' h => plane_got (fun i s hi h => kPx i s hi h) h
theorem plane_near (w0 : World) (g c : Nat) (hrow : RowU w0 (some ⟨g, 0, none⟩) 3 kX) :
    Calls Try.prog 31 #[.agg #[.int .i64 3, .int .i64 1, .slice (some ⟨g, 0, none⟩) 3 c], .int .i64 1, .int .i64 1, wpV wHalf, .int .i64 5, .int .i64 1] w0 fun e w' => PlaneGot w0 kOutN e w' :=
  (plane_calls 3 1 (some ⟨g, 0, none⟩) 3 c 1 1 wHalf 5 1 kX w0 (by decide) hrow kX_lt (fun i L hi h => absurd rfl h) (by decide) (by decide) (by decide)).mono fun e w' h => plane_got (fun i s hi h => kPxN i s hi h) h
theorem RowU.far {w : World} {A : Option Addr} {n : Nat} {x : Nat → Nat} (h : RowU w A n x) (p : Addr) (v : Value) (hf : ∀ ad, A = some ad → ad.block ≠ p.block) : RowU (w.setCell p v) A n x := fun hn => by
  obtain ⟨ad, e, hc⟩ := h hn
  refine ⟨ad, e, fun i hi => ?_⟩
  have hb : (ad.add i).block = ad.block := by unfold Addr.add; split <;> rfl
  rw [World.cell?_setCell_far _ _ _ _ (by rw [hb]; exact (hf ad e).symm)]
  exact hc i hi
/-- A store of three cells into a box. -/
theorem st3 {w : World} {g : Nat} {t : TypeId} {a b c : Value} (h : w.heap[g]? = some (.cells #[a, b, c] t (0, 0))) (x y : Value) :
    w.cell? ⟨g, 0, none⟩ = some a ∧ w.frozen? ⟨g, 0, none⟩ = false ∧ (w.setCell ⟨g, 0, none⟩ x).cell? ⟨g, 1, none⟩ = some b ∧ (w.setCell ⟨g, 0, none⟩ x).frozen? ⟨g, 1, none⟩ = false ∧ ((w.setCell ⟨g, 0, none⟩ x).setCell ⟨g, 1, none⟩ y).cell? ⟨g, 2, none⟩ = some c ∧ ((w.setCell ⟨g, 0, none⟩ x).setCell ⟨g, 1, none⟩ y).frozen? ⟨g, 2, none⟩ = false := by
  have q3 := blk_put h 0 x rfl
  have q4 := blk_put q3 1 y rfl
  exact ⟨ucell h 0, ufree h 0, ucell q3 1, ufree q3 1, ucell q4 2, ufree q4 2⟩
theorem st3_end {w : World} {g : Nat} {t : TypeId} {a b c x y z : Value} (h : w.heap[g]? = some (.cells #[a, b, c] t (0, 0))) : (((w.setCell ⟨g, 0, none⟩ x).setCell ⟨g, 1, none⟩ y).setCell ⟨g, 2, none⟩ z).heap[g]? = some (.cells #[x, y, z] t (0, 0)) :=
  blk_put (blk_put (blk_put h 0 x rfl) 1 y rfl) 2 z rfl
theorem st3_row {w : World} {g : Nat} {x y z : Value} {A : Option Addr} {n : Nat} {r : Nat → Nat} (h : RowU w A n r) (hf : ∀ ad, A = some ad → g < ad.block) : RowU (((w.setCell ⟨g, 0, none⟩ x).setCell ⟨g, 1, none⟩ y).setCell ⟨g, 2, none⟩ z) A n r :=
  ((h.far _ _ fun ad e => by have := hf ad e; show ad.block ≠ g; omega).far _ _ fun ad e => by have := hf ad e; show ad.block ≠ g; omega).far _ _ fun ad e => by have := hf ad e; show ad.block ≠ g; omega
theorem st3_below {w0 w : World} {g : Nat} {x y z : Value} (hb : Below w0.heap.size w0 w) (hg : w0.heap.size ≤ g) : Below w0.heap.size w0 (((w.setCell ⟨g, 0, none⟩ x).setCell ⟨g, 1, none⟩ y).setCell ⟨g, 2, none⟩ z) :=
  ((hb.setCell (by exact hg) _).setCell (by exact hg) _).setCell (by exact hg) _
/-- The world in which a region begins, and all that lie above it: the plane's box, the plane's row. -/
structure KnW (w : World) (g0 g1 : Nat) (W : World) : Prop where
  be : Below w.heap.size w W
  bx : W.heap[g1]? = some (.cells #[.int .i64 3, .int .i64 1, .slice (some ⟨g0, 0, none⟩) 3 3] 55)
  rw : RowU W (some ⟨g0, 0, none⟩) 3 kX
theorem KnW.below {w : World} {g0 g1 : Nat} {W W' : World} (h : KnW w g0 g1 W) (hb : Below W.heap.size W W') : KnW w g0 g1 W' := ⟨ujoin h.be hb, (hb.block _ (heap_lt' h.bx)).trans h.bx, h.rw.below hb⟩
theorem KnW.start (w : World) : KnW w w.heap.size (w.heap.size + 1) ((w.alloc (.cells #[.int .u32 0, .int .u32 1065353216, .int .u32 1082130432] 65)).alloc (.cells #[.int .i64 3, .int .i64 1, .slice (some ⟨w.heap.size, 0, none⟩) 3 3] 55)) := by
  have q1 := heap_alloc_new w (.cells #[.int .u32 0, .int .u32 1065353216, .int .u32 1082130432] 65)
  have b1 := (Below.refl w.heap.size w).alloc (Nat.le_refl _) (.cells #[.int .u32 0, .int .u32 1065353216, .int .u32 1082130432] 65)
  have q2 := heap_alloc_new (w.alloc (.cells #[.int .u32 0, .int .u32 1065353216, .int .u32 1082130432] 65)) (.cells #[.int .i64 3, .int .i64 1, .slice (some ⟨w.heap.size, 0, none⟩) 3 3] 55)
  have b2 := (Below.refl _ (w.alloc (.cells #[.int .u32 0, .int .u32 1065353216, .int .u32 1082130432] 65))).alloc (Nat.le_refl _) (.cells #[.int .i64 3, .int .i64 1, .slice (some ⟨w.heap.size, 0, none⟩) 3 3] 55)
  rw [World.size_alloc] at q2
  refine ⟨ujoin b1 b2, q2, ?_⟩
  refine RowU.below (fun _ => ⟨_, rfl, fun i hi => ?_⟩) b2
  rw [add_plain, ucell q1]
  rcases (show i = 0 ∨ i = 1 ∨ i = 2 by omega) with rfl | rfl | rfl <;> rfl
/-- What a call of Plane in known leaves behind. -/
def KnEnd (W2 : World) (y : Nat → Nat) (v2 v3 : Value) (wc : World) : Prop := ∃ g A c, v2 = .pointer (some ⟨g, 0, none⟩) ∧ v3 = .int .i64 0 ∧ wc.heap[g]? = some (.cells #[.int .i64 5, .int .i64 1, .slice A 5 c] 55) ∧ RowU wc A 5 y ∧ Below W2.heap.size W2 wc
theorem knEnd_a {W2 w4 : World} {y : Nat → Nat} {A : Option Addr} {c : Nat} (hb : Below W2.heap.size W2 w4) (hr : RowU w4 A 5 y) : KnEnd W2 y (.pointer (some ⟨w4.heap.size, 0, none⟩)) (.int .i64 0) (w4.alloc (.cells #[.int .i64 5, .int .i64 1, .slice A 5 c] 55)) :=
  ⟨_, A, c, rfl, rfl, heap_alloc_new w4 _, hr.below ((Below.refl _ _).alloc (Nat.le_refl _) _), ujoin hb ((Below.refl _ _).alloc (Nat.le_refl _) _)⟩
theorem knEnd_b {W2 w4 : World} {y : Nat → Nat} {A : Option Addr} {c g : Nat} {a b d : Value} (hb : Below W2.heap.size W2 w4) (hr : RowU w4 A 5 y) (hz : w4.heap[g]? = some (.cells #[a, b, d] 55 (0, 0))) (hg : W2.heap.size ≤ g) (hf : ∀ ad, A = some ad → g < ad.block) : KnEnd W2 y (.pointer (some ⟨g, 0, none⟩)) (.int .i64 0) (((w4.setCell ⟨g, 0, none⟩ (.int .i64 5)).setCell ⟨g, 1, none⟩ (.int .i64 1)).setCell ⟨g, 2, none⟩ (.slice A 5 c)) :=
  ⟨g, A, c, rfl, rfl, st3_end hz, st3_row hr hf, st3_below hb hg⟩
theorem eqA_Warp (d : Nat) (w : World) (x0 x1 x2 x3 x4 x5 x6 y0 y1 y2 y3 y4 y5 y6 : Int) :
    (Op.equalIn (d + 2) 32 (.agg #[.int .i64 x0, .int .i64 x1, .int .i64 x2, .int .i64 x3, .int .i64 x4, .int .i64 x5, .int .i64 x6]) (.agg #[.int .i64 y0, .int .i64 y1, .int .i64 y2, .int .i64 y3, .int .i64 y4, .int .i64 y5, .int .i64 y6])).run Try.prog w = .ok (x0 == y0 && (x1 == y1 && (x2 == y2 && (x3 == y3 && (x4 == y4 && (x5 == y5 && (x6 == y6))))))) w := by
  refine eqA_of Try.underlying32 (by kernel_rfl) ?_
  refine eqf_cons (by rfl) (by go_simp; rfl) (by go_simp; rfl) (by go_simp) ?_
  refine eqf_cons (by rfl) (by go_simp; rfl) (by go_simp; rfl) (by go_simp) ?_
  refine eqf_cons (by rfl) (by go_simp; rfl) (by go_simp; rfl) (by go_simp) ?_
  refine eqf_cons (by rfl) (by go_simp; rfl) (by go_simp; rfl) (by go_simp) ?_
  refine eqf_cons (by rfl) (by go_simp; rfl) (by go_simp; rfl) (by go_simp) ?_
  refine eqf_cons (by rfl) (by go_simp; rfl) (by go_simp; rfl) (by go_simp) ?_
  exact eqf_last (by rfl) (by go_simp; rfl) (by go_simp; rfl) (by go_simp)
attribute [local go_sem high] eqA_Warp
theorem kSkewW : backW wSkew = (wpZ, 283) := by kernel_rfl
/-- A plane that was handed back, in its box. -/
structure KnR (g : Nat) (A : Option Addr) (c : Nat) (y : Nat → Nat) (W : World) : Prop where
  bx : W.heap[g]? = some (.cells #[.int .i64 5, .int .i64 1, .slice A 5 c] 55)
  rw : RowU W A 5 y
theorem KnR.below {g : Nat} {A : Option Addr} {c : Nat} {y : Nat → Nat} {W W' : World} (h : KnR g A c y W) (hb : Below W.heap.size W W') : KnR g A c y W' := ⟨(hb.block _ (heap_lt' h.bx)).trans h.bx, h.rw.below hb⟩
theorem KnR.cell {g : Nat} {A : Option Addr} {c : Nat} {y : Nat → Nat} {W : World} (h : KnR g A c y W) : W.cell? ⟨g, 2, none⟩ = some (.slice A 5 c) := ucell h.bx 2
theorem words5 (W : World) (A : Option Addr) (c a0 b0 c0 d0 e0 : Nat) (W0 : World) (h : RowU W0 A 5 (wUx [a0, b0, c0, d0, e0])) (hb : Below W0.heap.size W0 W) (hl : RowU (W.alloc (.cells #[.int .u32 (a0 : Int), .int .u32 (b0 : Int), .int .u32 (c0 : Int), .int .u32 (d0 : Int), .int .u32 (e0 : Int)] 65)) (some ⟨W.heap.size, 0, none⟩) 5 (wUx [a0, b0, c0, d0, e0])) :
    Calls Try.prog 57 #[.slice A 5 c, .slice (some ⟨W.heap.size, 0, none⟩) 5 5] (W.alloc (.cells #[.int .u32 (a0 : Int), .int .u32 (b0 : Int), .int .u32 (c0 : Int), .int .u32 (d0 : Int), .int .u32 (e0 : Int)] 65)) fun e w' => e = .returned (.bool true) ∧ Below W0.heap.size W0 w' :=
  (words_yes _ A _ 5 c 5 _ _ ((h.below hb).below ((Below.refl _ _).alloc (Nat.le_refl _) _)) hl (by decide) (fun k _ => rfl)).mono fun e w' h => ⟨h.1, ujoin hb (wbelow_of_alloc h.2.below)⟩
theorem lit5 (w : World) (a b c d e : Nat) : RowU (w.alloc (.cells #[.int .u32 (a : Int), .int .u32 (b : Int), .int .u32 (c : Int), .int .u32 (d : Int), .int .u32 (e : Int)] 65)) (some ⟨w.heap.size, 0, none⟩) 5 (wUx [a, b, c, d, e]) := fun _ => ⟨_, rfl, fun i hi => by
  rw [add_plain, ucell (heap_alloc_new w _)]
  rcases (show i = 0 ∨ i = 1 ∨ i = 2 ∨ i = 3 ∨ i = 4 by omega) with rfl | rfl | rfl | rfl | rfl <;> rfl⟩
set_option maxHeartbeats 3200000 in
set_option maxRecDepth 100000 in
theorem known28_calls (w : World) : Calls Try.prog 16 #[] w fun e w' => WGives w (.bool true) e w' := by
  have HS := Lib.hid (KnW.start w)
  have HHF := Lib.hid fun W => half_calls W
  have HLI := Lib.hid fun W (h : RowU W (some ⟨w.heap.size, 0, none⟩) 3 kX) => plane_lin W w.heap.size 3 h
  have HNE := Lib.hid fun W (h : RowU W (some ⟨w.heap.size, 0, none⟩) 3 kX) => plane_near W w.heap.size 3 h
  have HBK := Lib.hid fun W => back_calls W wHalf
  have HBS := Lib.hid fun W => back_calls W wSkew
  unfold wpV wpC WGives at HHF
  unfold wpV wpC at HLI HNE HBK HBS
  dsimp only [wHalf] at HHF HLI HNE HBK
  dsimp only [wSkew] at HBS
  unfold WGives
  go_enter Try.func16, Try.ntmps16
  go_upto_region 2 with (fail)
  generalize (w.alloc (.cells #[.int .u32 0, .int .u32 1065353216, .int .u32 1082130432] 65)).alloc (.cells #[.int .i64 3, .int .i64 1, .slice (some ⟨w.heap.size, 0, none⟩) 3 3] 55) = W2 at HS ⊢
  have HK : Hid (∀ W, Below W2.heap.size W2 W → KnW w w.heap.size (w.heap.size + 1) W) := (show ∀ W, _ → _ from fun W h => HS.out.below h)
  go_cut [2, 3] (fun v2 v3 wc => ∃ W, W = wc ∧ KnEnd W2 kOut v2 v3 W)
  case first =>
    have c0 : W2.cell? ⟨w.heap.size + 1, 0, none⟩ = some (.int .i64 3) := ucell HS.out.bx 0
    have c1 : W2.cell? ⟨w.heap.size + 1, 1, none⟩ = some (.int .i64 1) := ucell HS.out.bx 1
    have c2 : W2.cell? ⟨w.heap.size + 1, 2, none⟩ = some (.slice (some ⟨w.heap.size, 0, none⟩) 3 3) := ucell HS.out.bx 2
    have a0 : ∀ o, (W2.alloc o).cell? ⟨w.heap.size + 1, 0, none⟩ = some (.int .i64 3) := fun o => ucell (HK.out _ ((Below.refl _ _).alloc (Nat.le_refl _) o)).bx 0
    have a1 : ∀ o, (W2.alloc o).cell? ⟨w.heap.size + 1, 1, none⟩ = some (.int .i64 1) := fun o => ucell (HK.out _ ((Below.refl _ _).alloc (Nat.le_refl _) o)).bx 1
    have a2 : ∀ o, (W2.alloc o).cell? ⟨w.heap.size + 1, 2, none⟩ = some (.slice (some ⟨w.heap.size, 0, none⟩) 3 3) := fun o => ucell (HK.out _ ((Below.refl _ _).alloc (Nat.le_refl _) o)).bx 2
    have HPL := HLI
    clear HLI HNE
    go_region_with (first
      | (go_at_call 56; refine (HHF.out _).mono ?_; rintro e1 w3 ⟨rfl, hb⟩; (have HB3 : Hid (Below W2.heap.size W2 w3) := (show Below _ _ _ from by first | exact below_drew hb | exact wbelow_of_alloc (below_drew hb))); (try (have hz3 : w3.heap[W2.heap.size]? = some (.cells #[.int .i64 0, .int .i64 0, .slice none 0 0] 55 (0, 0)) := (((below_drew hb).block _ (by simp)).trans (heap_alloc_new W2 _)))); (have d0 : w3.cell? ⟨w.heap.size + 1, 0, none⟩ = some (.int .i64 3) := ucell (HK.out _ HB3.out).bx 0); (have d1 : w3.cell? ⟨w.heap.size + 1, 1, none⟩ = some (.int .i64 1) := ucell (HK.out _ HB3.out).bx 1); (have d2 : w3.cell? ⟨w.heap.size + 1, 2, none⟩ = some (.slice (some ⟨w.heap.size, 0, none⟩) 3 3) := ucell (HK.out _ HB3.out).bx 2); (have b0 : ∀ o, (w3.alloc o).cell? ⟨w.heap.size + 1, 0, none⟩ = some (.int .i64 3) := fun o => ucell (HK.out _ (ujoin HB3.out ((Below.refl _ _).alloc (Nat.le_refl _) o))).bx 0); (have b1 : ∀ o, (w3.alloc o).cell? ⟨w.heap.size + 1, 1, none⟩ = some (.int .i64 1) := fun o => ucell (HK.out _ (ujoin HB3.out ((Below.refl _ _).alloc (Nat.le_refl _) o))).bx 1); (have b2 : ∀ o, (w3.alloc o).cell? ⟨w.heap.size + 1, 2, none⟩ = some (.slice (some ⟨w.heap.size, 0, none⟩) 3 3) := fun o => ucell (HK.out _ (ujoin HB3.out ((Below.refl _ _).alloc (Nat.le_refl _) o))).bx 2); clear hb)
      | (go_at_call 31; refine (HPL.out _ (by first | exact (HK.out _ HB3.out).rw | exact ((HK.out _ HB3.out).below ((Below.refl _ _).alloc (Nat.le_refl _) _)).rw)).mono ?_; rintro e2 w4 ⟨A, c, rfl, hr, hlo, hb⟩; (have HB4 : Hid (Below W2.heap.size W2 w4) := (show Below _ _ _ from by first | exact ujoin HB3.out hb | exact ujoin HB3.out (wbelow_of_alloc hb))); have HR4 := Lib.hid hr; have HLO := Lib.hid hlo; (try (have hz4 : w4.heap[W2.heap.size]? = some (.cells #[.int .i64 0, .int .i64 0, .slice none 0 0] 55 (0, 0)) := ((hb.block _ (heap_lt' hz3)).trans hz3); have hz5 : Hid (∀ ad, A = some ad → W2.heap.size < ad.block) := (show ∀ ad, _ → _ from fun ad e => by have := hlo ad e; have := heap_lt' hz3; omega); obtain ⟨z1, z2, z3, z4, z5, z6⟩ := st3 hz4 (.int .i64 5) (.int .i64 1))); (try (have hz4 : w4.heap[w3.heap.size]? = some (.cells #[.int .i64 0, .int .i64 0, .slice none 0 0] 55 (0, 0)) := ((hb.block _ (by simp)).trans (heap_alloc_new w3 _)); have hz5 : Hid (∀ ad, A = some ad → w3.heap.size < ad.block) := (show ∀ ad, _ → _ from fun ad e => by have := hlo ad e; simp at this; omega); obtain ⟨z1, z2, z3, z4, z5, z6⟩ := st3 hz4 (.int .i64 5) (.int .i64 1))); clear hb hr hlo))
    all_goals (go_wp2; go_meet; case rel => exact ⟨_, rfl, by first | exact knEnd_a HB4.out HR4.out | exact knEnd_b HB4.out HR4.out hz4 (by first | exact Nat.le_refl _ | exact HB3.out.size) hz5.out⟩)
  case rest =>
    obtain ⟨W5, rfl, gq, Aq, cq, rfl, rfl, hq1, hq2, hq3⟩ := hcut
    have HQ : Hid (KnR gq Aq cq kOut W5) := (show KnR _ _ _ _ _ from ⟨hq1, hq2⟩)
    have HS5 := Lib.hid (HK.out _ hq3)
    have HK5 : Hid (∀ W, Below W5.heap.size W5 W → KnW w w.heap.size (w.heap.size + 1) W) := (show ∀ W, _ → _ from fun W h => HS5.out.below h)
    clear hq1 hq2 hq3 HK HS
    go_upto_region 3 with (fail)
    go_cut [4, 5] (fun v4 v5 wc => ∃ W, W = wc ∧ KnEnd W5 kOutN v4 v5 W)
    case first =>
      have c0 : W5.cell? ⟨w.heap.size + 1, 0, none⟩ = some (.int .i64 3) := ucell HS5.out.bx 0
      have c1 : W5.cell? ⟨w.heap.size + 1, 1, none⟩ = some (.int .i64 1) := ucell HS5.out.bx 1
      have c2 : W5.cell? ⟨w.heap.size + 1, 2, none⟩ = some (.slice (some ⟨w.heap.size, 0, none⟩) 3 3) := ucell HS5.out.bx 2
      have a0 : ∀ o, (W5.alloc o).cell? ⟨w.heap.size + 1, 0, none⟩ = some (.int .i64 3) := fun o => ucell (HK5.out _ ((Below.refl _ _).alloc (Nat.le_refl _) o)).bx 0
      have a1 : ∀ o, (W5.alloc o).cell? ⟨w.heap.size + 1, 1, none⟩ = some (.int .i64 1) := fun o => ucell (HK5.out _ ((Below.refl _ _).alloc (Nat.le_refl _) o)).bx 1
      have a2 : ∀ o, (W5.alloc o).cell? ⟨w.heap.size + 1, 2, none⟩ = some (.slice (some ⟨w.heap.size, 0, none⟩) 3 3) := fun o => ucell (HK5.out _ ((Below.refl _ _).alloc (Nat.le_refl _) o)).bx 2
      have HPL := HNE
      clear HLI HNE
      go_region_with (first
        | (go_at_call 56; refine (HHF.out _).mono ?_; rintro e1 w3 ⟨rfl, hb⟩; (have HB3 : Hid (Below W5.heap.size W5 w3) := (show Below _ _ _ from by first | exact below_drew hb | exact wbelow_of_alloc (below_drew hb))); (try (have hz3 : w3.heap[W5.heap.size]? = some (.cells #[.int .i64 0, .int .i64 0, .slice none 0 0] 55 (0, 0)) := (((below_drew hb).block _ (by simp)).trans (heap_alloc_new W5 _)))); (have d0 : w3.cell? ⟨w.heap.size + 1, 0, none⟩ = some (.int .i64 3) := ucell (HK5.out _ HB3.out).bx 0); (have d1 : w3.cell? ⟨w.heap.size + 1, 1, none⟩ = some (.int .i64 1) := ucell (HK5.out _ HB3.out).bx 1); (have d2 : w3.cell? ⟨w.heap.size + 1, 2, none⟩ = some (.slice (some ⟨w.heap.size, 0, none⟩) 3 3) := ucell (HK5.out _ HB3.out).bx 2); (have b0 : ∀ o, (w3.alloc o).cell? ⟨w.heap.size + 1, 0, none⟩ = some (.int .i64 3) := fun o => ucell (HK5.out _ (ujoin HB3.out ((Below.refl _ _).alloc (Nat.le_refl _) o))).bx 0); (have b1 : ∀ o, (w3.alloc o).cell? ⟨w.heap.size + 1, 1, none⟩ = some (.int .i64 1) := fun o => ucell (HK5.out _ (ujoin HB3.out ((Below.refl _ _).alloc (Nat.le_refl _) o))).bx 1); (have b2 : ∀ o, (w3.alloc o).cell? ⟨w.heap.size + 1, 2, none⟩ = some (.slice (some ⟨w.heap.size, 0, none⟩) 3 3) := fun o => ucell (HK5.out _ (ujoin HB3.out ((Below.refl _ _).alloc (Nat.le_refl _) o))).bx 2); clear hb)
        | (go_at_call 31; refine (HPL.out _ (by first | exact (HK5.out _ HB3.out).rw | exact ((HK5.out _ HB3.out).below ((Below.refl _ _).alloc (Nat.le_refl _) _)).rw)).mono ?_; rintro e2 w4 ⟨A, c, rfl, hr, hlo, hb⟩; (have HB4 : Hid (Below W5.heap.size W5 w4) := (show Below _ _ _ from by first | exact ujoin HB3.out hb | exact ujoin HB3.out (wbelow_of_alloc hb))); have HR4 := Lib.hid hr; have HLO := Lib.hid hlo; (try (have hz4 : w4.heap[W5.heap.size]? = some (.cells #[.int .i64 0, .int .i64 0, .slice none 0 0] 55 (0, 0)) := ((hb.block _ (heap_lt' hz3)).trans hz3); have hz5 : Hid (∀ ad, A = some ad → W5.heap.size < ad.block) := (show ∀ ad, _ → _ from fun ad e => by have := hlo ad e; have := heap_lt' hz3; omega); obtain ⟨z1, z2, z3, z4, z5, z6⟩ := st3 hz4 (.int .i64 5) (.int .i64 1))); (try (have hz4 : w4.heap[w3.heap.size]? = some (.cells #[.int .i64 0, .int .i64 0, .slice none 0 0] 55 (0, 0)) := ((hb.block _ (by simp)).trans (heap_alloc_new w3 _)); have hz5 : Hid (∀ ad, A = some ad → w3.heap.size < ad.block) := (show ∀ ad, _ → _ from fun ad e => by have := hlo ad e; simp at this; omega); obtain ⟨z1, z2, z3, z4, z5, z6⟩ := st3 hz4 (.int .i64 5) (.int .i64 1))); clear hb hr hlo))
      all_goals (go_wp2; go_meet; case rel => exact ⟨_, rfl, by first | exact knEnd_a HB4.out HR4.out | exact knEnd_b HB4.out HR4.out hz4 (by first | exact Nat.le_refl _ | exact HB3.out.size) hz5.out⟩)
    case rest =>
      obtain ⟨W6, rfl, gn, An, cn, rfl, rfl, hn1, hn2, hn3⟩ := hcut
      have HQ6 := Lib.hid (HQ.out.below hn3)
      have HN6 : Hid (KnR gn An cn kOutN W6) := (show KnR _ _ _ _ _ from ⟨hn1, hn2⟩)
      have HB6 := Lib.hid (HK5.out _ hn3).be
      clear hn1 hn2 hn3 HK5 HS5 HQ HLI HNE
      have HBK2 : Hid (∀ W, Calls Try.prog 23 #[.agg #[.int .i64 1, .int .i64 0, .int .i64 1, .int .i64 0, .int .i64 2, .int .i64 0, .int .i64 2]] W fun e w' => e = .returned (.tuple #[.agg #[.int .i64 2, .int .i64 0, .int .i64 (-1), .int .i64 0, .int .i64 1, .int .i64 0, .int .i64 1], .int .i64 0]) ∧ Below W.heap.size W w') := (show ∀ W, _ from fun W => (HBK.out W).mono fun e w' h => ⟨h.1.trans (congrArg (fun x => Ending.returned (wtV x)) kBack), h.2⟩)
      have HBS2 : Hid (∀ W, Calls Try.prog 23 #[.agg #[.int .i64 1, .int .i64 1, .int .i64 0, .int .i64 1, .int .i64 1, .int .i64 0, .int .i64 1]] W fun e w' => e = .returned (.tuple #[.agg #[.int .i64 0, .int .i64 0, .int .i64 0, .int .i64 0, .int .i64 0, .int .i64 0, .int .i64 0], .int .i64 283]) ∧ Below W.heap.size W w') := (show ∀ W, _ from fun W => (HBS.out W).mono fun e w' h => ⟨h.1.trans (congrArg (fun x => Ending.returned (wtV x)) kSkewW), h.2⟩)
      clear HBK HBS
      go_upto_region 6 with (first
        | (go_at_call 56; refine (HHF.out _).mono ?_; rintro e1 w7 ⟨rfl, hb⟩; have HB7 := Lib.hid (ujoin HB6.out hb); have HQ7 := Lib.hid (HQ6.out.below hb); have HN7 := Lib.hid (HN6.out.below hb); clear hb HB6 HQ6 HN6)
        | (go_at_call 23; (with_reducible refine (HBK2.out _).mono ?_); rintro e1 w8 ⟨rfl, hb⟩; have HB8 := Lib.hid (ujoin HB7.out hb); have HQ8 := Lib.hid (HQ7.out.below hb); have HN8 := Lib.hid (HN7.out.below hb); clear hb HB7 HQ7 HN7)
        | (go_at_call 23; (with_reducible refine (HBS2.out _).mono ?_); rintro e1 w9 ⟨rfl, hb0⟩; have hb := wbelow_of_alloc hb0; have HZ9 := Lib.hid ((hb0.block _ (by simp)).trans (heap_alloc_new w8 _)); have HB9 := Lib.hid (ujoin HB8.out hb); have HQ9 := Lib.hid (HQ8.out.below hb); have HN9 := Lib.hid (HN8.out.below hb); clear hb hb0 HB8 HQ8 HN8))
      clear HHF HBK2 HBS2
      have k0 : ∀ o, (w9.alloc o).cell? ⟨w8.heap.size, 0, none⟩ = some (.int .i64 2) := fun o => ucell ((Below.heap_alloc w9 o _ (heap_lt' HZ9.out)).trans HZ9.out) 0
      have k1 : ∀ o, (w9.alloc o).cell? ⟨w8.heap.size, 1, none⟩ = some (.int .i64 0) := fun o => ucell ((Below.heap_alloc w9 o _ (heap_lt' HZ9.out)).trans HZ9.out) 1
      have k2 : ∀ o, (w9.alloc o).cell? ⟨w8.heap.size, 2, none⟩ = some (.int .i64 (-1)) := fun o => ucell ((Below.heap_alloc w9 o _ (heap_lt' HZ9.out)).trans HZ9.out) 2
      have k3 : ∀ o, (w9.alloc o).cell? ⟨w8.heap.size, 3, none⟩ = some (.int .i64 0) := fun o => ucell ((Below.heap_alloc w9 o _ (heap_lt' HZ9.out)).trans HZ9.out) 3
      have k4 : ∀ o, (w9.alloc o).cell? ⟨w8.heap.size, 4, none⟩ = some (.int .i64 1) := fun o => ucell ((Below.heap_alloc w9 o _ (heap_lt' HZ9.out)).trans HZ9.out) 4
      have k5 : ∀ o, (w9.alloc o).cell? ⟨w8.heap.size, 5, none⟩ = some (.int .i64 0) := fun o => ucell ((Below.heap_alloc w9 o _ (heap_lt' HZ9.out)).trans HZ9.out) 5
      have k6 : ∀ o, (w9.alloc o).cell? ⟨w8.heap.size, 6, none⟩ = some (.int .i64 1) := fun o => ucell ((Below.heap_alloc w9 o _ (heap_lt' HZ9.out)).trans HZ9.out) 6
      have kq : ∀ o, (w9.alloc o).cell? ⟨gq, 2, none⟩ = some (.slice Aq 5 cq) := fun o => (HQ9.out.below ((Below.refl _ w9).alloc (Nat.le_refl _) o)).cell
      have HW1 : Hid (∀ o, Calls Try.prog 57 #[.slice Aq 5 cq, .slice (some ⟨w9.heap.size + 1, 0, none⟩) 5 5] ((w9.alloc o).alloc (.cells #[.int .u32 1056964608, .int .u32 1065353216, .int .u32 1075838976, .int .u32 1082130432, .int .u32 1082130432] 65)) fun e w' => e = .returned (.bool true) ∧ Below w9.heap.size w9 w') := (show ∀ o, _ from fun o => by
        have h5 := words5 (w9.alloc o) Aq cq 1056964608 1065353216 1075838976 1082130432 1082130432 w9 HQ9.out.rw ((Below.refl _ w9).alloc (Nat.le_refl _) o) (lit5 _ _ _ _ _ _)
        rw [World.size_alloc] at h5
        exact h5)
      have HW2 : Hid (∀ W, RowU W An 5 kOutN → Calls Try.prog 57 #[.slice An 5 cn, .slice (some ⟨W.heap.size, 0, none⟩) 5 5] (W.alloc (.cells #[.int .u32 1065353216, .int .u32 1065353216, .int .u32 1082130432, .int .u32 1082130432, .int .u32 1082130432] 65)) fun e w' => e = .returned (.bool true) ∧ Below W.heap.size W w') := (show ∀ W, _ from fun W h => words5 W An cn 1065353216 1065353216 1082130432 1082130432 1082130432 W h (Below.refl _ _) (lit5 _ _ _ _ _ _))
      go_wp2_with (first
        | (go_at_call 57; (with_reducible refine (HW1.out _).mono ?_); rintro e1 w10 ⟨rfl, hb⟩; have HB10 := Lib.hid (ujoin HB9.out hb); have HN10 := Lib.hid (HN9.out.below hb); have kn := HN10.out.cell; clear hb k0 k1 k2 k3 k4 k5 k6 kq)
        | (go_at_call 57; (with_reducible refine (HW2.out _ HN10.out.rw).mono ?_); rintro e1 w11 ⟨rfl, hb⟩; have HB11 := Lib.hid (ujoin HB10.out hb); clear hb))
      go_ret
      exact ⟨rfl, HB11.out⟩
end Go.Proofs.Ytdcpeeolfgohmaa
