/- (warp.way).spots: the iterator's contract. (warp.way).spots at the nearest pixel. (warp.way).spots by the four around. -/
import Derived.Test.YtdcpeeolfgohmaaWmT
import Derived.Test.YtdcpeeolfgohmaaShareBC
import Derived.Test.YtdcpeeolfgohmaaRfGH
import Derived.Test.YtdcpeeolfgohmaaU
import Derived.RangeFuncBound
import Derived.Shelf.Abstract
import Derived.Shelf.RegionOpen
import Derived.WalkKit
import Derived.OwnWalkIn
import Derived.TacticsInMore
import Derived.LoopNIn
import Derived.LoopIn
namespace Go.Proofs.Ytdcpeeolfgohmaa
open Go.RowKit Go.Proofs.YtdcpeeolfgohmaaW.PrintWords
set_option linter.unusedSimpArgs false
set_option linter.unusedVariables false
attribute [local go_sem] Oper.semAt_some

theorem wgrowB {B : Nat → Prop} {W W' : World} (h : Below W.heap.size W W') : GrowB B W W' := ⟨h.os, h.tape, h.output, h.size, fun k hk _ => h.block k hk⟩
theorem wcell_same {W W' : World} {b : Nat} {v : Value} (h : W'.heap[b]? = W.heap[b]?) {i : Nat} (hc : W.cell? ⟨b, i, none⟩ = some v) : W'.cell? ⟨b, i, none⟩ = some v := (World.cell?_of_block (a := ⟨b, i, none⟩) h).trans hc
/-- What the shares of weights are. -/
def IsShared (x : Nat → Int) (n : Nat) (res : Nat → Int) : Prop :=
  ∃ S : Nat → Bool, TopSet (keyOf x (sumTo x n)) n (65536 - sumTo (shOf x (sumTo x n)) n).toNat S ∧ ∀ k, k < n → res k = shOf x (sumTo x n) k + ((S k).toNat : Int)
theorem IsShared.same {x : Nat → Int} {n : Nat} {r r' : Nat → Int} (h : IsShared x n r) (h' : IsShared x n r') : ∀ k, k < n → r k = r' k := fun k hk => by
  obtain ⟨S, h1, h2⟩ := h
  obtain ⟨T, h3, h4⟩ := h'
  rw [h2 k hk, h4 k hk, h1.unique h3 k hk]

/-- spots' value: a function over three boxes of its own. -/
def SpotsTold (w : World) (kind border : Int) (t : Wp) (pw' ph x y : Int) (e : Ending) (w' : World) : Prop := ∃ b, e = .returned (.func (.func 102) #[] #[.pointer (some ⟨b, 0, none⟩), .pointer (some ⟨b + 1, 0, none⟩), .pointer (some ⟨b + 2, 0, none⟩)]) ∧
  w.heap.size ≤ b ∧ b + 3 ≤ w'.heap.size ∧ w'.heap[b]? = some (.cells (wayC kind border t pw' ph) 115) ∧ w'.cell? ⟨b + 1, 0, none⟩ = some (.int .i64 x) ∧ w'.cell? ⟨b + 2, 0, none⟩ = some (.int .i64 y) ∧ Below w.heap.size w w'
theorem spots_boxes (w : World) (kind border : Int) (t : Wp) (pw' ph x y : Int) : SpotsTold w kind border t pw' ph x y (.returned (.func (.func 102) #[] #[.pointer (some ⟨w.heap.size, 0, none⟩), .pointer (some ⟨w.heap.size + 1, 0, none⟩), .pointer (some ⟨w.heap.size + 1 + 1, 0, none⟩)])) (((w.alloc (.cells (wayC kind border t pw' ph) 115)).alloc (.cells #[.int .i64 x] 3)).alloc (.cells #[.int .i64 y] 3)) := by
  obtain ⟨w1, e1⟩ : ∃ w1, w1 = w.alloc (.cells (wayC kind border t pw' ph) 115) := ⟨_, rfl⟩
  obtain ⟨w2, e2⟩ : ∃ w2, w2 = w1.alloc (.cells #[.int .i64 x] 3) := ⟨_, rfl⟩
  obtain ⟨w3, e3⟩ : ∃ w3, w3 = w2.alloc (.cells #[.int .i64 y] 3) := ⟨_, rfl⟩
  have s1 : w1.heap.size = w.heap.size + 1 := by rw [e1]; simp
  have s2 : w2.heap.size = w.heap.size + 1 + 1 := by rw [e2]; simp [s1]
  have s3 : w3.heap.size = w.heap.size + 1 + 1 + 1 := by rw [e3]; simp [s2]
  have b1 : Below w.heap.size w w1 := by rw [e1]; exact (Below.refl _ _).alloc (Nat.le_refl _) _
  have b2 : Below w1.heap.size w1 w2 := by rw [e2]; exact (Below.refl _ _).alloc (Nat.le_refl _) _
  have b3 : Below w2.heap.size w2 w3 := by rw [e3]; exact (Below.refl _ _).alloc (Nat.le_refl _) _
  have c1 : w1.heap[w.heap.size]? = some (.cells (wayC kind border t pw' ph) 115) := by rw [e1]; exact heap_alloc_new w _
  have c2 : w2.cell? ⟨w.heap.size + 1, 0, none⟩ = some (.int .i64 x) := by rw [← s1, e2]; exact ucell (heap_alloc_new w1 _) 0
  have c3 : w3.cell? ⟨w.heap.size + 1 + 1, 0, none⟩ = some (.int .i64 y) := by rw [← s2, e3]; exact ucell (heap_alloc_new w2 _) 0
  rw [← e1, ← e2, ← e3]
  refine ⟨w.heap.size, rfl, Nat.le_refl _, by omega, ?_, ?_, c3, ujoin (ujoin b1 b2) b3⟩
  · exact (b3.block w.heap.size (by omega)).trans ((b2.block w.heap.size (by omega)).trans c1)
  · exact (b3.cell (p := ⟨w.heap.size + 1, 0, none⟩) (by simp; omega)).trans c2
set_option maxRecDepth 100000 in
theorem spots_calls (w : World) (kind border : Int) (t : Wp) (pw' ph x y : Int) :
    Calls Try.prog 68 #[wayV kind border t pw' ph, .int .i64 x, .int .i64 y] w fun e w' => SpotsTold w kind border t pw' ph x y e w' := by
  have HB := Lib.hid (spots_boxes w kind border t pw' ph x y)
  unfold wayV
  unfold wayC at HB ⊢
  go_enter Try.func68, Try.ntmps68
  go_wp2
  go_ret
  exact HB.out

/-- One spot. -/
structure Spt where
  X : Int
  Y : Int
  N : Int
def sptC (s : Spt) : Array Value := #[.int .i64 s.X, .int .i64 s.Y, .int .i64 s.N]
def encS (s : Spt) : Array Value := #[.agg (sptC s)]
def sptAt (border pw' ph i j n : Int) : Spt := ⟨borderV border pw' i, borderV border ph j, n⟩
/-- The weights of the four around. -/
def wt4 (q f g : Int) : Nat → Int
  | 0 => (q - f) * (q - g)
  | 1 => f * (q - g)
  | 2 => (q - f) * g
  | _ => f * g
def spotsTo (border pw' ph i j : Int) (res : Nat → Int) : Nat → List Spt
  | 0 => []
  | k + 1 => if res k = 0 then spotsTo border pw' ph i j res k else spotsTo border pw' ph i j res k ++ [sptAt border pw' ph (i + (k % 2 : Nat)) (j + (k / 2 : Nat)) (res k)]
/-- Which spots a place takes. -/
def IsSpots (kind border : Int) (t : Wp) (pw' ph x y : Int) (L : List Spt) : Prop :=
  (kind = 1 ∧ L = [sptAt border pw' ph ((2 * fromU t x y + t.Q) / (2 * t.Q)) ((2 * fromV t x y + t.Q) / (2 * t.Q)) 65536]) ∨
  (kind ≠ 1 ∧ ∃ res, IsShared (wt4 t.Q (fromU t x y % t.Q) (fromV t x y % t.Q)) 4 res ∧ L = spotsTo border pw' ph (fromU t x y / t.Q) (fromV t x y / t.Q) res 4)
def SpotR (kind border : Int) (t : Wp) (pw' ph x y : Int) (B : Nat → Prop) (pre : List Spt) (s : Spt) (W : World) : Prop := ∃ L, IsSpots kind border t pw' ph x y L ∧ (pre ++ [s]) <+: L

theorem spotsTo_len (border pw' ph i j : Int) (res : Nat → Int) : ∀ k, (spotsTo border pw' ph i j res k).length ≤ k
  | 0 => Nat.le_refl _
  | k + 1 => by
    unfold spotsTo
    have := spotsTo_len border pw' ph i j res k
    split
    · omega
    · rw [List.length_append]; simp; omega
theorem spotsTo_pre (border pw' ph i j : Int) (res : Nat → Int) (k : Nat) : ∀ m, k ≤ m → spotsTo border pw' ph i j res k <+: spotsTo border pw' ph i j res m
  | 0, h => by have : k = 0 := by omega
               subst this; exact List.prefix_refl _
  | m + 1, h => by
    rcases Nat.lt_or_ge m k with h1 | h1
    · have : k = m + 1 := by omega
      subst this; exact List.prefix_refl _
    · refine (spotsTo_pre border pw' ph i j res k m h1).trans ?_
      conv => rhs; unfold spotsTo
      split
      · exact List.prefix_refl _
      · exact List.prefix_append _ _
theorem spotsTo_same (border pw' ph i j : Int) {res res' : Nat → Int} : ∀ k, (∀ a, a < k → res a = res' a) → spotsTo border pw' ph i j res k = spotsTo border pw' ph i j res' k
  | 0, _ => rfl
  | k + 1, h => by
    unfold spotsTo
    rw [h k (by omega), spotsTo_same border pw' ph i j k fun a ha => h a (by omega)]
theorem IsSpots.unique {kind border : Int} {t : Wp} {pw' ph x y : Int} {L M : List Spt} (h : IsSpots kind border t pw' ph x y L) (k : IsSpots kind border t pw' ph x y M) : L = M := by
  rcases h with ⟨h1, h2⟩ | ⟨h1, r, h2, h3⟩
  · rcases k with ⟨k1, k2⟩ | ⟨k1, _⟩
    · rw [h2, k2]
    · exact absurd h1 k1
  · rcases k with ⟨k1, k2⟩ | ⟨k1, r', k2, k3⟩
    · exact absurd k1 h1
    · rw [h3, k3]; exact spotsTo_same _ _ _ _ _ 4 (h2.same k2)
theorem IsSpots.len {kind border : Int} {t : Wp} {pw' ph x y : Int} {L : List Spt} (h : IsSpots kind border t pw' ph x y L) : L.length ≤ 4 := by
  rcases h with ⟨_, h2⟩ | ⟨_, r, _, h3⟩
  · rw [h2]; simp
  · rw [h3]; exact spotsTo_len _ _ _ _ _ _ 4
theorem wt4_sum (q f g : Int) : sumTo (wt4 q f g) 4 = q * q := by
  simp only [sumTo, wt4]
  grind
theorem mulq (x y : Int) (hx : 0 ≤ x ∧ x ≤ 4096) (hy : 0 ≤ y ∧ y ≤ 4096) : ∃ p, x * y = p ∧ IntKind.i64.wrap (x * y) = p ∧ (0 ≤ p ∧ p ≤ 16777216) := by
  have h1 := Int.mul_nonneg hx.1 hy.1
  have h2 : x * y ≤ 4096 * 4096 := Int.mul_le_mul hx.2 hy.2 hy.1 (by omega)
  exact ⟨_, rfl, IntWalk.i64_in _ (by omega), h1, by omega⟩
theorem fromU_bd {t : Wp} (ht : WpIn t 16777216) {x y : Int} (hx : 0 ≤ x ∧ x ≤ 1024) (hy : 0 ≤ y ∧ y ≤ 1024) : (-34376515584 ≤ fromU t x y ∧ fromU t x y ≤ 34376515584) ∧ (-34376515584 ≤ fromV t x y ∧ fromV t x y ≤ 34376515584) := by
  have key : ∀ a z : Int, -16777216 ≤ a ∧ a ≤ 16777216 → 0 ≤ z ∧ z ≤ 1024 → -17179869184 ≤ a * z ∧ a * z ≤ 17179869184 := fun a z ha hz => by
    have h1 : a * z ≤ 16777216 * z := Int.mul_le_mul_of_nonneg_right ha.2 hz.1
    have h2 : -16777216 * z ≤ a * z := Int.mul_le_mul_of_nonneg_right ha.1 hz.1
    omega
  have a1 := key _ _ ht.A hx
  have a2 := key _ _ ht.B hy
  have a3 := key _ _ ht.D hx
  have a4 := key _ _ ht.E hy
  have c := ht.C
  have f := ht.F
  unfold fromU fromV
  omega
attribute [local go_sem] Oper.semAt_some

theorem wayC_cells {W : World} {b : Nat} {kind border : Int} {t : Wp} {pw' ph : Int} (h : W.heap[b]? = some (.cells (wayC kind border t pw' ph) 115)) :
    W.cell? ⟨b, 0, none⟩ = some (.int .i64 kind) ∧ W.cell? ⟨b, 1, none⟩ = some (.int .i64 border) ∧ W.cell? ⟨b, 2, none⟩ = some (.int .i64 t.A) ∧ W.cell? ⟨b, 3, none⟩ = some (.int .i64 t.B) ∧ W.cell? ⟨b, 4, none⟩ = some (.int .i64 t.C) ∧ W.cell? ⟨b, 5, none⟩ = some (.int .i64 t.D) ∧ W.cell? ⟨b, 6, none⟩ = some (.int .i64 t.E) ∧ W.cell? ⟨b, 7, none⟩ = some (.int .i64 t.F) ∧ W.cell? ⟨b, 8, none⟩ = some (.int .i64 t.Q) ∧ W.cell? ⟨b, 9, none⟩ = some (.int .i64 pw') ∧ W.cell? ⟨b, 10, none⟩ = some (.int .i64 ph) :=
  ⟨ucell h 0, ucell h 1, ucell h 2, ucell h 3, ucell h 4, ucell h 5, ucell h 6, ucell h 7, ucell h 8, ucell h 9, ucell h 10⟩

/-- The three boxes still lie as they lay. -/
structure Boxes (b : Nat) (kind border : Int) (t : Wp) (pw' ph x y : Int) (W : World) : Prop where
  k : W.heap[b]? = some (.cells (wayC kind border t pw' ph) 115)
  x : W.cell? ⟨b + 1, 0, none⟩ = some (.int .i64 x)
  y : W.cell? ⟨b + 2, 0, none⟩ = some (.int .i64 y)
theorem Boxes.below {b : Nat} {kind border : Int} {t : Wp} {pw' ph x y : Int} {W W' : World} (h : Boxes b kind border t pw' ph x y W) {N : Nat} (hN : W.heap.size ≤ N) (hb : Below N W W') : Boxes b kind border t pw' ph x y W' :=
  ⟨(hb.block b (Nat.lt_of_lt_of_le (Array.getElem?_eq_some_iff.1 h.k).1 hN)).trans h.k, (hb.cell (p := ⟨b + 1, 0, none⟩) (Nat.lt_of_lt_of_le (World.block_lt_of_cell? _ _ h.x) hN)).trans h.x, (hb.cell (p := ⟨b + 2, 0, none⟩) (Nat.lt_of_lt_of_le (World.block_lt_of_cell? _ _ h.y) hN)).trans h.y⟩
theorem Boxes.keep {B : Nat → Prop} {b : Nat} {kind border : Int} {t : Wp} {pw' ph x y : Int} {W W' : World} (h : Boxes b kind border t pw' ph x y W) (hk : KeepB (fun k => B k ∨ (k = b ∨ k = b + 1 ∨ k = b + 2)) W W') : Boxes b kind border t pw' ph x y W' :=
  ⟨(hk.same b (.inr (.inl rfl))).trans h.k, wcell_same (hk.same (b + 1) (.inr (.inr (.inl rfl)))) h.x, wcell_same (hk.same (b + 2) (.inr (.inr (.inr rfl)))) h.y⟩

/-- What is handed on, and when one stops. -/
def SpotSeq (n : Nat) (b : Nat) (kind border : Int) (t : Wp) (pw' ph x y : Int) (w : World) : Prop :=
    SeqG Fence.wide n Try.prog 102 #[.pointer (some ⟨b, 0, none⟩), .pointer (some ⟨b + 1, 0, none⟩), .pointer (some ⟨b + 2, 0, none⟩)] encS (SpotR kind border t pw' ph x y) (IsSpots kind border t pw' ph x y) (fun pre => 1 ≤ pre.length ∧ ∃ L, IsSpots kind border t pw' ph x y L ∧ pre <+: L) 4 (fun k => k = b ∨ k = b + 1 ∨ k = b + 2) w

set_option maxHeartbeats 3200000 in
set_option maxRecDepth 100000 in
theorem spots_near (border : Int) (t : Wp) (pw' ph x y : Int) (w : World) (b : Nat) (hb : Boxes b 1 border t pw' ph x y w) (ht : WpIn t 16777216) (hq : 1 ≤ t.Q ∧ t.Q ≤ 4096) (hx : 0 ≤ x ∧ x ≤ 1024) (hy : 0 ≤ y ∧ y ≤ 1024) (h1 : borderE border pw' = 0) (h2 : borderE border ph = 0) (n : Nat) (hn : 1 ≤ n) :
    SpotSeq n b 1 border t pw' ph x y w := fun l J Jx W hW hJ hJx hY h0 => by
  have hbx := hb.below (Nat.le_refl _) hW
  have HY := Lib.hid hY
  have HJ := Lib.hid hJ
  have H0 := Lib.hid h0
  obtain ⟨⟨u1, u2⟩, v1, v2⟩ := fromU_bd ht hx hy
  have HFR := Lib.hid fun W => from_calls W 1 border t pw' ph x y ht hx hy
  unfold wayV at HFR
  obtain ⟨u, eu⟩ : ∃ u, u = fromU t x y := ⟨_, rfl⟩
  obtain ⟨v, ev⟩ : ∃ u, u = fromV t x y := ⟨_, rfl⟩
  rw [← eu] at HFR u1 u2
  rw [← ev] at HFR v1 v2
  obtain ⟨q, eq⟩ : ∃ q, q = t.Q := ⟨_, rfl⟩
  rw [← eq] at hq
  obtain ⟨hq1, hq2⟩ := hq
  have W1 : IntKind.i64.wrap (2 * u) = 2 * u := IntWalk.i64_in _ (by omega)
  have W2 : IntKind.i64.wrap (2 * u + q) = 2 * u + q := IntWalk.i64_in _ (by omega)
  have W3 : IntKind.i64.wrap (2 * v) = 2 * v := IntWalk.i64_in _ (by omega)
  have W4 : IntKind.i64.wrap (2 * v + q) = 2 * v + q := IntWalk.i64_in _ (by omega)
  have W5 : IntKind.i64.wrap (2 * q) = 2 * q := IntWalk.i64_in _ (by omega)
  have HU1 := Lib.hid fun W => under_calls W (2 * u + q) (2 * q) (by omega) (by omega) (by omega)
  have HU2 := Lib.hid fun W => under_calls W (2 * v + q) (2 * q) (by omega) (by omega) (by omega)
  have g1 : ((2 * u + q) / (2 * q)).natAbs ≤ (2 * u + q).natAbs := Int.natAbs_ediv_le_natAbs _ _
  have g2 : ((2 * v + q) / (2 * q)).natAbs ≤ (2 * v + q).natAbs := Int.natAbs_ediv_le_natAbs _ _
  obtain ⟨i, ei⟩ : ∃ i, i = (2 * u + q) / (2 * q) := ⟨_, rfl⟩
  obtain ⟨j, ej⟩ : ∃ i, i = (2 * v + q) / (2 * q) := ⟨_, rfl⟩
  obtain ⟨r1, er1⟩ : ∃ i, i = (2 * u + q) % (2 * q) := ⟨_, rfl⟩
  obtain ⟨r2, er2⟩ : ∃ i, i = (2 * v + q) % (2 * q) := ⟨_, rfl⟩
  rw [← ei] at g1 HU1
  rw [← ej] at g2 HU2
  rw [← er1] at HU1
  rw [← er2] at HU2
  have HAT := Lib.hid fun W => spotat_calls W 1 border t pw' ph i j 65536 h1 h2 (by omega) (by omega)
  unfold wayV WGives at HAT
  have HS : Hid (IsSpots 1 border t pw' ph x y [sptAt border pw' ph i j 65536]) := (show IsSpots _ _ _ _ _ _ _ _ from .inl ⟨rfl, by rw [ei, ej, eu, ev, eq]⟩)
  obtain ⟨s, es⟩ : ∃ s, s = sptAt border pw' ph i j 65536 := ⟨_, rfl⟩
  have HAT2 : Hid (∀ W, Calls Try.prog 105 #[.agg (wayC 1 border t pw' ph), .int .i64 i, .int .i64 j, .int .i64 65536] W fun e w' => e = .returned (.agg (sptC s)) ∧ Below W.heap.size W w') := (show ∀ W, _ from fun W => by rw [es]; exact HAT.out W)
  rw [← es] at HS
  have x1 := hbx.x
  have x2 := hbx.y
  obtain ⟨c0, c1, c2, c3, c4, c5, c6, c7, c8, c9, c10⟩ := wayC_cells hbx.k
  rw [← eq] at c8
  have HBX := Lib.hid hbx
  clear hY hJ hJx h0 hW hb hbx eu ev ei ej er1 er2 es HAT g1 g2 h1 h2 ht hx hy
  unfold wayC at HFR HAT2
  rw [← eq] at HFR HAT2
  have HEQ := Lib.hid eq
  clear eq
  refine callsIn_of_wp Try.func102 rfl trivial ?_ rfl
  simp only [Try.ntmps102, List.size_toArray, List.length_cons, List.length_nil, Nat.reduceAdd, Nat.reduceSub, Array.replicate_succ, Array.replicate_zero, List.push_toArray, List.append_toArray, List.nil_append, List.cons_append]
  gi_wp2_with (first
    | ((refine ⟨trivial, ?_⟩); gi_at_call 103; (with_reducible refine (callsIn_wide.2 (HFR.out _)).mono ?_); rintro e1 w1 ⟨rfl, hbl⟩; have HB1 := Lib.hid hbl; have HBX1 := Lib.hid (HBX.out.below (Nat.le_refl _) hbl); have z1 := HBX1.out.x; have z2 := HBX1.out.y; obtain ⟨d0, d1, d2, d3, d4, d5, d6, d7, d8, d9, d10⟩ := wayC_cells HBX1.out.k; rw [← HEQ.out] at d8; clear hbl)
    | ((refine ⟨trivial, ?_⟩); gi_at_call 104; (with_reducible refine (callsIn_wide.2 (HU1.out _)).mono ?_); rintro e1 w2 ⟨rfl, rfl⟩)
    | ((refine ⟨trivial, ?_⟩); gi_at_call 104; (with_reducible refine (callsIn_wide.2 (HU2.out _)).mono ?_); rintro e1 w2 ⟨rfl, rfl⟩)
    | ((refine ⟨trivial, ?_⟩); gi_at_call 105; (with_reducible refine (callsIn_wide.2 (HAT2.out _)).mono ?_); rintro e1 w3 ⟨rfl, hbl⟩; have HB3 := Lib.hid (ujoin HB1.out hbl); obtain ⟨fn, tmps, asg, bdy, hy, hR⟩ := HY.out _ [] s w3 (HJ.out _ _ _ _ H0.out (wgrowB HB3.out)) ⟨_, HS.out, List.prefix_refl _⟩ (by simp); unfold encS at hy; clear hbl))
  refine hR.mono ?_
  rintro e W3 (⟨rfl, hJ3, hk3⟩ | ⟨rfl, hx3⟩)
  · have HX := Lib.hid hJ3
    clear hJ3 hk3 hy hR
    gi_wp2
    refine bodyPost_ret (results_none rfl _ _ _) rfl ?_
    exact ⟨⟨_, rfl⟩, .inl ⟨_, _, HS.out, HX.out⟩⟩
  · have HX := Lib.hid hx3
    clear hx3 hy hR
    gi_wp2
    refine bodyPost_ret (results_none rfl _ _ _) rfl ?_
    exact ⟨⟨_, rfl⟩, .inr ⟨_, _, ⟨by simp, _, HS.out, List.prefix_refl _⟩, HX.out⟩⟩
attribute [local go_sem] Oper.semAt_some

theorem share4_calls (q f g : Int) (hq : 1 ≤ q ∧ q ≤ 4096) (hf : 0 ≤ f ∧ f < q) (hg : 0 ≤ g ∧ g < q) (W : World) (ad : Addr) (hr : ∀ i, i < 4 → W.cell? (ad.add i) = some (.int .i64 (wt4 q f g i))) :
    Calls Try.prog 48 #[.slice (some ad) 4 4] W fun e w' => ∃ bo res, e = .returned (.tuple #[.slice (some ⟨bo, 0, none⟩) 4 4, .int .i64 0]) ∧ W.heap.size ≤ bo ∧ w'.heap[bo]? = some (.cells (arrI 4 res) 3 (0, 0)) ∧ IsShared (wt4 q f g) 4 res ∧ Below W.heap.size W w' := by
  obtain ⟨_, _, _, a1, a2⟩ := mulq (q - f) (q - g) (by omega) (by omega)
  obtain ⟨_, _, _, b1, b2⟩ := mulq f (q - g) (by omega) (by omega)
  obtain ⟨_, _, _, c1, c2⟩ := mulq (q - f) g (by omega) (by omega)
  obtain ⟨_, _, _, d1, d2⟩ := mulq f g (by omega) (by omega)
  have hok : ShareOk (wt4 q f g) 4 := by
    refine ⟨by omega, by omega, ?_, ?_⟩
    · intro i hi
      have : i = 0 ∨ i = 1 ∨ i = 2 ∨ i = 3 := by omega
      rcases this with rfl | rfl | rfl | rfl <;> simp only [wt4] <;> omega
    · rw [wt4_sum]
      have := Int.mul_le_mul hq.1 hq.1 (by omega) (by omega)
      omega
  refine (kShare_calls W 4 4 (wt4 q f g) (some ad) (fun _ => ⟨ad, rfl, hr⟩) (by omega)).mono ?_
  rintro e w' (⟨_, bo, S, rfl, hS⟩ | ⟨hno, _⟩)
  · exact ⟨bo, fun k => shOf (wt4 q f g) (sumTo (wt4 q f g) 4) k + ((S k).toNat : Int), rfl, hS.lo, hS.io, ⟨S, hS.ts, fun k _ => rfl⟩, hS.be⟩
  · exact absurd hok hno

set_option maxHeartbeats 3200000 in
set_option maxRecDepth 100000 in
theorem spots_linear (border : Int) (t : Wp) (pw' ph x y : Int) (w : World) (b : Nat) (hb : Boxes b 2 border t pw' ph x y w) (ht : WpIn t 16777216) (hq : 1 ≤ t.Q ∧ t.Q ≤ 4096) (hx : 0 ≤ x ∧ x ≤ 1024) (hy : 0 ≤ y ∧ y ≤ 1024) (h1 : borderE border pw' = 0) (h2 : borderE border ph = 0) (n : Nat) (hn : 1 ≤ n) :
    SpotSeq n b 2 border t pw' ph x y w := fun l J Jx W hW hJ hJx hY h0 => by
  have hbx := hb.below (Nat.le_refl _) hW
  have HY := Lib.hid hY
  have HJ := Lib.hid hJ
  have H0 := Lib.hid h0
  obtain ⟨⟨u1, u2⟩, v1, v2⟩ := fromU_bd ht hx hy
  have HFR := Lib.hid fun W => from_calls W 2 border t pw' ph x y ht hx hy
  unfold wayV at HFR
  obtain ⟨u, eu⟩ : ∃ u, u = fromU t x y := ⟨_, rfl⟩
  obtain ⟨v, ev⟩ : ∃ u, u = fromV t x y := ⟨_, rfl⟩
  rw [← eu] at HFR u1 u2
  rw [← ev] at HFR v1 v2
  obtain ⟨q, eq⟩ : ∃ q, q = t.Q := ⟨_, rfl⟩
  rw [← eq] at hq
  obtain ⟨hq1, hq2⟩ := hq
  have HU1 := Lib.hid fun W => under_calls W u q (by omega) (by omega) (by omega)
  have HU2 := Lib.hid fun W => under_calls W v q (by omega) (by omega) (by omega)
  have g1 : (u / q).natAbs ≤ u.natAbs := Int.natAbs_ediv_le_natAbs _ _
  have g2 : (v / q).natAbs ≤ v.natAbs := Int.natAbs_ediv_le_natAbs _ _
  have f1 := Int.emod_nonneg u (b := q) (by omega)
  have f2 := Int.emod_lt_of_pos u (b := q) (by omega)
  have f3 := Int.emod_nonneg v (b := q) (by omega)
  have f4 := Int.emod_lt_of_pos v (b := q) (by omega)
  obtain ⟨i, ei⟩ : ∃ i, i = u / q := ⟨_, rfl⟩
  obtain ⟨j, ej⟩ : ∃ i, i = v / q := ⟨_, rfl⟩
  obtain ⟨f, ef⟩ : ∃ i, i = u % q := ⟨_, rfl⟩
  obtain ⟨g, eg⟩ : ∃ i, i = v % q := ⟨_, rfl⟩
  rw [← ei] at g1 HU1
  rw [← ej] at g2 HU2
  rw [← ef] at f1 f2 HU1
  rw [← eg] at f3 f4 HU2
  have W1 : IntKind.i64.wrap (q - f) = q - f := IntWalk.i64_in _ (by omega)
  have W2 : IntKind.i64.wrap (q - g) = q - g := IntWalk.i64_in _ (by omega)
  obtain ⟨p1, e1, M1, a1⟩ := mulq (q - f) (q - g) (by omega) (by omega)
  obtain ⟨p2, e2, M2, a2⟩ := mulq f (q - g) (by omega) (by omega)
  obtain ⟨p3, e3, M3, a3⟩ := mulq (q - f) g (by omega) (by omega)
  obtain ⟨p4, e4, M4, a4⟩ := mulq f g (by omega) (by omega)
  have HSH : Hid (∀ (W : World) (ad : Addr), (W.cell? (ad.add 0) = some (.int .i64 p1) ∧ W.cell? (ad.add 1) = some (.int .i64 p2) ∧ W.cell? (ad.add 2) = some (.int .i64 p3) ∧ W.cell? (ad.add 3) = some (.int .i64 p4)) → Calls Try.prog 48 #[.slice (some ad) 4 4] W fun e w' => ∃ bo res, e = .returned (.tuple #[.slice (some ⟨bo, 0, none⟩) 4 4, .int .i64 0]) ∧ W.heap.size ≤ bo ∧ w'.heap[bo]? = some (.cells (arrI 4 res) 3 (0, 0)) ∧ IsShared (wt4 q f g) 4 res ∧ Below W.heap.size W w') := (show ∀ W ad, _ → _ from fun W ad hc => share4_calls q f g (by omega) (by omega) (by omega) W ad fun k hk => by
    have hk4 : k = 0 ∨ k = 1 ∨ k = 2 ∨ k = 3 := by omega
    rcases hk4 with rfl | rfl | rfl | rfl
    · rw [hc.1]; simp only [wt4, e1]
    · rw [hc.2.1]; simp only [wt4, e2]
    · rw [hc.2.2.1]; simp only [wt4, e3]
    · rw [hc.2.2.2]; simp only [wt4, e4])
  have HS : Hid (∀ res, IsShared (wt4 q f g) 4 res → IsSpots 2 border t pw' ph x y (spotsTo border pw' ph i j res 4)) := (show ∀ _, _ from fun res hres => .inr ⟨by decide, res, by rw [← eq, ← eu, ← ev, ← ef, ← eg]; exact hres, by rw [ei, ej, eu, ev, eq]⟩)
  have HAT : Hid (∀ W (a c r : Int), (-34376515584 ≤ a ∧ a ≤ 34376515585) → (-34376515584 ≤ c ∧ c ≤ 34376515585) → Calls Try.prog 105 #[.agg (wayC 2 border t pw' ph), .int .i64 a, .int .i64 c, .int .i64 r] W fun e w' => e = .returned (.agg (sptC (sptAt border pw' ph a c r))) ∧ Below W.heap.size W w') := (show ∀ _ _ _ _, _ → _ → _ from fun W a c r ha hc => spotat_calls W 2 border t pw' ph a c r h1 h2 (by omega) (by omega))
  have x1 := hbx.x
  have x2 := hbx.y
  obtain ⟨c0, c1, c2, c3, c4, c5, c6, c7, c8, c9, c10⟩ := wayC_cells hbx.k
  rw [← eq] at c8
  have HBX := Lib.hid hbx
  have i1 : -34376515584 ≤ i ∧ i ≤ 34376515584 := by omega
  have j1 : -34376515584 ≤ j ∧ j ≤ 34376515584 := by omega
  clear hY hJ hJx h0 hW hb hbx eu ev ei ej ef eg g1 g2 h1 h2 ht hx hy e1 e2 e3 e4 a1 a2 a3 a4 f1 f2 f3 f4
  unfold wayC at HFR HAT
  rw [← eq] at HFR HAT
  have HEQ := Lib.hid eq
  clear eq
  refine callsIn_of_wp Try.func102 rfl trivial ?_ rfl
  simp only [Try.ntmps102, List.size_toArray, List.length_cons, List.length_nil, Nat.reduceAdd, Nat.reduceSub, Array.replicate_succ, Array.replicate_zero, List.push_toArray, List.append_toArray, List.nil_append, List.cons_append]
  gi_wp2_with (first
    | ((refine ⟨trivial, ?_⟩); gi_at_call 103; (with_reducible refine (callsIn_wide.2 (HFR.out _)).mono ?_); rintro e1 w1 ⟨rfl, hbl⟩; have HB1 := Lib.hid hbl; have HBX1 := Lib.hid (HBX.out.below (Nat.le_refl _) hbl); have z1 := HBX1.out.x; have z2 := HBX1.out.y; obtain ⟨d0, d1, d2, d3, d4, d5, d6, d7, d8, d9, d10⟩ := wayC_cells HBX1.out.k; rw [← HEQ.out] at d8; clear hbl)
    | ((refine ⟨trivial, ?_⟩); gi_at_call 104; (with_reducible refine (callsIn_wide.2 (HU1.out _)).mono ?_); rintro e1 w2 ⟨rfl, rfl⟩)
    | ((refine ⟨trivial, ?_⟩); gi_at_call 104; (with_reducible refine (callsIn_wide.2 (HU2.out _)).mono ?_); rintro e1 w2 ⟨rfl, rfl⟩)
    | ((refine ⟨trivial, ?_⟩); gi_at_call 48; refine (callsIn_wide.2 (HSH.out _ _ ⟨ucell (heap_alloc_new w1 _) 0, ucell (heap_alloc_new w1 _) 1, ucell (heap_alloc_new w1 _) 2, ucell (heap_alloc_new w1 _) 3⟩)).mono ?_; rintro e1 w2 ⟨bo, res, rfl, hlo, hio, hres, hbl⟩; have HB2 := Lib.hid (ujoin (ujoin HB1.out ((Below.refl _ w1).alloc (Nat.le_refl _) _)) hbl); have HLO : Hid (W.heap.size ≤ bo) := (show _ ≤ _ from Nat.le_trans HB1.out.size (Nat.le_trans (by simp) hlo)); have HIO := Lib.hid hio; have HRES := Lib.hid hres; clear hlo hio hres hbl))
  clear HSH HFR HU1 HU2 M1 M2 M3 M4 z1 z2 d0 d1 d2 d3 d4 d5 d6 d7 d8 d9 d10 x1 x2 c0 c1 c2 c3 c4 c5 c6 c7 c8 c9 c10
  gi_loopw [98] (fun v wr => ∃ (k : Nat) (B : Nat → Prop), v = .int .i64 (k : Int) ∧ k ≤ 4 ∧ Hid (J B (spotsTo border pw' ph i j res k) wr) ∧ Hid (B bo) ∧ Hid (Boxes b 2 border t pw' ph x y wr) ∧ Hid (wr.heap[bo]? = some (.cells (arrI 4 res) 3 (0, 0)))) (fun v wr => 4 - (intOf v).toNat)
  case atStart => exact ⟨0, laterB (fun _ => False) W w2, rfl, by omega, HJ.out _ _ _ _ H0.out (wgrowB HB2.out), .inr ⟨HLO.out, (Array.getElem?_eq_some_iff.1 HIO.out).1⟩, HBX.out.below (Nat.le_refl _) HB2.out, HIO.out⟩
  case round =>
    clear HB1 HBX1 HB2 HBX H0 HIO HLO
    obtain ⟨k, B, rfl, hk, HJK, HBO, HBK, HRK⟩ := hrel
    by_cases hlt : k < 4
    · have hltz : (k : Int) < 4 := by omega
      obtain ⟨r, er⟩ : ∃ r, r = res k := ⟨_, rfl⟩
      have cr := (bcell HRK.out k).trans (arrI_get 4 res k hlt)
      rw [← er] at cr
      obtain ⟨c0, c1, c2, c3, c4, c5, c6, c7, c8, c9, c10⟩ := wayC_cells HBK.out.k
      rw [← HEQ.out] at c8
      by_cases hr : r = 0
      · subst hr
        have HE : Hid (spotsTo border pw' ph i j res (k + 1) = spotsTo border pw' ph i j res k) := (show _ = _ from by rw [spotsTo, if_pos er.symm])
        clear er
        gi_wp2
        refine ⟨trivial, ?_⟩
        gi_wp2
        refine ⟨fun _ h => (by cases h), ?_⟩
        gi_wp2
        go_roundw
        case rel => exact ⟨k + 1, B, by first | rfl | go_num, by omega, (show J _ _ _ from by rw [HE.out]; exact HJK.out), HBO.out, HBK.out, HRK.out⟩
        case measure => simp [intOf]; omega
      · have hr0 : (r != 0) = true := by rw [bne_iff_ne]; exact hr
        obtain ⟨m, em⟩ : ∃ m, m = ((k % 2 : Nat) : Int) := ⟨_, rfl⟩
        obtain ⟨d, ed⟩ : ∃ m, m = ((k / 2 : Nat) : Int) := ⟨_, rfl⟩
        have TM : (k : Int).tmod 2 = m := by rw [em]; rfl
        have TD : (k : Int).tdiv 2 = d := by rw [ed]; rfl
        have W3 : IntKind.i64.wrap m = m := IntWalk.i64_in _ (by omega)
        have W4 : IntKind.i64.wrap d = d := IntWalk.i64_in _ (by omega)
        have W5 : IntKind.i64.wrap (i + m) = i + m := IntWalk.i64_in _ (by omega)
        have W6 : IntKind.i64.wrap (j + d) = j + d := IntWalk.i64_in _ (by omega)
        have HA := Lib.hid fun W => HAT.out W (i + m) (j + d) r (by omega) (by omega)
        obtain ⟨s, es⟩ : ∃ s, s = sptAt border pw' ph (i + m) (j + d) r := ⟨_, rfl⟩
        rw [← es] at HA
        have HE : Hid (spotsTo border pw' ph i j res (k + 1) = spotsTo border pw' ph i j res k ++ [s]) := (show _ = _ from by rw [spotsTo, if_neg (fun h => hr (er.trans h)), es, em, ed, er])
        clear er em ed es hr
        gi_wp2_with (first
          | ((refine ⟨trivial, ?_⟩); gi_at_call 105; (with_reducible refine (callsIn_wide.2 (HA.out _)).mono ?_); rintro e1 w3 ⟨rfl, hbl⟩; have HB3 := Lib.hid hbl; obtain ⟨fn, tmps, asg, bdy, hy, hR⟩ := HY.out _ _ s w3 (HJ.out _ _ _ _ HJK.out (wgrowB HB3.out)) ⟨_, HS.out _ HRES.out, by rw [← HE.out]; exact spotsTo_pre _ _ _ _ _ _ _ 4 (by omega)⟩ (by have := spotsTo_len border pw' ph i j res k; omega); unfold encS at hy; clear hbl))
        refine hR.mono ?_
        rintro e W3 (⟨rfl, hJ3, hk3⟩ | ⟨rfl, hx3⟩)
        · rw [← HE.out] at hJ3
          have HJ3 := Lib.hid hJ3
          have HB4 : Hid (laterB B wr w3 bo) := (show laterB _ _ _ _ from .inl HBO.out)
          have HB5 : Hid (Boxes b 2 border t pw' ph x y W3) := (show Boxes _ _ _ _ _ _ _ _ _ from (HBK.out.below (Nat.le_refl _) HB3.out).keep hk3)
          have HB6 : Hid (W3.heap[bo]? = some (.cells (arrI 4 res) 3 (0, 0))) := (show _ = _ from (hk3.same bo (.inl HB4.out)).trans ((HB3.out.block bo (Array.getElem?_eq_some_iff.1 HRK.out).1).trans HRK.out))
          clear hJ3 hk3 hy hR HJK HBO HBK HRK HY HJ HAT HA
          gi_wp2
          go_roundw
          case rel => exact ⟨k + 1, _, by first | rfl | go_num, by omega, HJ3.out, HB4.out, HB5.out, HB6.out⟩
          case measure => simp [intOf]; omega
        · have HX := Lib.hid hx3
          have HP : Hid (spotsTo border pw' ph i j res k ++ [s] <+: spotsTo border pw' ph i j res 4) := (show _ <+: _ from by rw [← HE.out]; exact spotsTo_pre _ _ _ _ _ _ _ 4 (by omega))
          clear hx3 hy hR
          gi_wp2
          refine bodyPost_ret (results_none rfl _ _ _) rfl ?_
          exact ⟨⟨_, rfl⟩, .inr ⟨_, _, ⟨by simp, _, HS.out _ HRES.out, HP.out⟩, HX.out⟩⟩
    · have hltz : ¬ (k : Int) < 4 := by omega
      have e : k = 4 := by omega
      subst e
      clear HY HJ HAT
      gi_wp2
      go_end0
      exact ⟨⟨_, rfl⟩, .inl ⟨_, _, HS.out _ HRES.out, HJK.out⟩⟩
end Go.Proofs.Ytdcpeeolfgohmaa
