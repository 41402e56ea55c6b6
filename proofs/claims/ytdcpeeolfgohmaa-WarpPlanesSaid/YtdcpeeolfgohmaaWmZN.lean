/- warp.Plane: what its loop and its rounds hold. One spot more: the two rows of a place's spots, each one element longer, in whatever order. warp.Plane: the end of a place: its sample goes to the result. -/
import Derived.Test.YtdcpeeolfgohmaaWmXQ
import Derived.Test.YtdcpeeolfgohmaaPr
import Derived.Test.YtdcpeeolfgohmaaRgRK
import Derived.Test.YtdcpeeolfgohmaaDot
import Derived.Test.YtdcpeeolfgohmaaRfGH
import Derived.Lib.AppendZeros
import Derived.OwnWalkIn
namespace Go.Proofs.Ytdcpeeolfgohmaa
open Go.RowKit Go.Proofs.YtdcpeeolfgohmaaW.PrintWords
set_option linter.unusedSimpArgs false
set_option linter.unusedVariables false

/-! ### A place's sample -/
def pxIdx (W : Int) (s : Spt) : Nat := (s.Y * W + s.X).toNat
def spN (L : List Spt) (k : Nat) : Int := (L.getD k ⟨0, 0, 0⟩).N
def spX (x : Nat → Nat) (W : Int) (L : List Spt) (k : Nat) : Nat := x (pxIdx W (L.getD k ⟨0, 0, 0⟩))
def pxOf (kind : Int) (x : Nat → Nat) (W : Int) (L : List Spt) : Nat := if kind = 1 then spX x W L 0 else dotOf (spN L) (spX x W L) L.length
def IsPx (kind border : Int) (t : Wp) (W H : Int) (x : Nat → Nat) (w : Int) (i s : Nat) : Prop := ∃ L, IsSpots kind border t W H ((i : Int) % w) ((i : Int) / w) L ∧ s = pxOf kind x W L
theorem IsPx.unique {kind border : Int} {t : Wp} {W H : Int} {x : Nat → Nat} {w : Int} {i s s' : Nat} (h : IsPx kind border t W H x w i s) (h' : IsPx kind border t W H x w i s') : s = s' := by
  obtain ⟨L, h1, h2⟩ := h
  obtain ⟨M, h3, h4⟩ := h'
  rw [h2, h4, h1.unique h3]
def valN (s : Spt) : Value := .int .i64 s.N
def valX (x : Nat → Nat) (W : Int) (s : Spt) : Value := .int .u32 ((x (pxIdx W s) : Nat) : Int)

/-! ### Rows -/
theorem OwnC.same {W W' : World} {base : Nat} {e : TypeId} {v : Value} {cs : List Value} (h : OwnC W base e v cs) (hs : ∀ k, v.ownBlock = some k → W'.heap[k]? = W.heap[k]?) : OwnC W' base e v cs := by
  obtain ⟨hl, h⟩ := h
  rcases h with ⟨rfl, h0⟩ | ⟨g, cap, cur, rfl, hbg, hg, hr⟩
  · exact ⟨hl, .inl ⟨rfl, h0⟩⟩
  · exact ⟨hl, .inr ⟨g, cap, cur, rfl, hbg, (hs g rfl).trans hg, hr⟩⟩
theorem OwnC.lt {W : World} {base : Nat} {e : TypeId} {v : Value} {cs : List Value} (h : OwnC W base e v cs) : ∀ k, v.ownBlock = some k → base ≤ k ∧ k < W.heap.size := World.ownsRow.lt h
theorem OwnC.obj {W : World} {base : Nat} {e : TypeId} {v : Value} {cs : List Value} (h : OwnC W base e v cs) : ∀ k, v.ownBlock = some k → ∃ cu, W.heap[k]? = some (.cells cu e (0, 0)) := by
  obtain ⟨hl, h⟩ := h
  rcases h with ⟨rfl, h0⟩ | ⟨g, cap, cur, rfl, hbg, hg, hr⟩
  · intro k hk; cases hk
  · intro k hk
    simp only [Value.ownBlock, Option.some.injEq] at hk
    subst hk
    exact ⟨cur, hg⟩
theorem wfree_same {W W' : World} {b : Nat} (h : W'.heap[b]? = W.heap[b]?) (i : Nat) : W'.frozen? ⟨b, i, none⟩ = W.frozen? ⟨b, i, none⟩ := World.frozen?_of_block (a := ⟨b, i, none⟩) h

/-! ### The boxes -/
/-- The boxes at Plane's start: the plane, the warp, the result. -/
structure PlB (g : Nat) (W H : Int) (A : Option Addr) (np cp : Nat) (t : Wp) (V : World) : Prop where
  k0 : V.heap[g]? = some (.cells (plC W H A np cp) 55)
  k1 : V.heap[g + 1]? = some (.cells (wpC t) 32)
  k2 : V.heap[g + 2]? = some (.cells (plC 0 0 none 0 0) 55)
theorem PlB.keep {g : Nat} {W H : Int} {A : Option Addr} {np cp : Nat} {t : Wp} {V V' : World} (h : PlB g W H A np cp t V) (hs : ∀ k, g ≤ k → k < g + 3 → V'.heap[k]? = V.heap[k]?) : PlB g W H A np cp t V' :=
  ⟨(hs _ (by omega) (by omega)).trans h.k0, (hs _ (by omega) (by omega)).trans h.k1, (hs _ (by omega) (by omega)).trans h.k2⟩
theorem PlB.size {g : Nat} {W H : Int} {A : Option Addr} {np cp : Nat} {t : Wp} {V : World} (h : PlB g W H A np cp t V) : g + 3 ≤ V.heap.size := (Array.getElem?_eq_some_iff.1 h.k2).1
theorem PlB.below {g : Nat} {W H : Int} {A : Option Addr} {np cp : Nat} {t : Wp} {V V' : World} (h : PlB g W H A np cp t V) (hb : Below V.heap.size V V') : PlB g W H A np cp t V' := h.keep fun k _ hk => hb.block k (by have := h.size; omega)
theorem PlB.start (W H : Int) (A : Option Addr) (np cp : Nat) (t : Wp) (w : World) : PlB w.heap.size W H A np cp t (((w.alloc (.cells (plC W H A np cp) 55)).alloc (.cells (wpC t) 32)).alloc (.cells (plC 0 0 none 0 0) 55)) ∧
    Below w.heap.size w (((w.alloc (.cells (plC W H A np cp) 55)).alloc (.cells (wpC t) 32)).alloc (.cells (plC 0 0 none 0 0) 55)) := by
  obtain ⟨w1, e1⟩ : ∃ w1, w1 = w.alloc (.cells (plC W H A np cp) 55) := ⟨_, rfl⟩
  obtain ⟨w2, e2⟩ : ∃ w2, w2 = w1.alloc (.cells (wpC t) 32) := ⟨_, rfl⟩
  obtain ⟨w3, e3⟩ : ∃ w3, w3 = w2.alloc (.cells (plC 0 0 none 0 0) 55) := ⟨_, rfl⟩
  have s1 : w1.heap.size = w.heap.size + 1 := by rw [e1]; simp
  have s2 : w2.heap.size = w.heap.size + 1 + 1 := by rw [e2]; simp [s1]
  have b1 : Below w.heap.size w w1 := by rw [e1]; exact (Below.refl _ _).alloc (Nat.le_refl _) _
  have b2 : Below w1.heap.size w1 w2 := by rw [e2]; exact (Below.refl _ _).alloc (Nat.le_refl _) _
  have b3 : Below w2.heap.size w2 w3 := by rw [e3]; exact (Below.refl _ _).alloc (Nat.le_refl _) _
  have c1 : w1.heap[w.heap.size]? = some (.cells (plC W H A np cp) 55) := by rw [e1]; exact heap_alloc_new w _
  have c2 : w2.heap[w.heap.size + 1]? = some (.cells (wpC t) 32) := by rw [← s1, e2]; exact heap_alloc_new w1 _
  have c3 : w3.heap[w.heap.size + 2]? = some (.cells (plC 0 0 none 0 0) 55) := by rw [show w.heap.size + 2 = w2.heap.size by omega, e3]; exact heap_alloc_new w2 _
  rw [← e1, ← e2, ← e3]
  exact ⟨⟨(b3.block _ (by omega)).trans ((b2.block _ (by omega)).trans c1), (b3.block _ (by omega)).trans c2, c3⟩, ujoin (ujoin b1 b2) b3⟩
theorem wpC_cells {V : World} {g : Nat} {t : Wp} (h : V.heap[g]? = some (.cells (wpC t) 32)) :
    V.cell? ⟨g, 0, none⟩ = some (.int .i64 t.A) ∧ V.cell? ⟨g, 1, none⟩ = some (.int .i64 t.B) ∧ V.cell? ⟨g, 2, none⟩ = some (.int .i64 t.C) ∧ V.cell? ⟨g, 3, none⟩ = some (.int .i64 t.D) ∧ V.cell? ⟨g, 4, none⟩ = some (.int .i64 t.E) ∧ V.cell? ⟨g, 5, none⟩ = some (.int .i64 t.F) ∧ V.cell? ⟨g, 6, none⟩ = some (.int .i64 t.Q) :=
  ⟨ucell h 0, ucell h 1, ucell h 2, ucell h 3, ucell h 4, ucell h 5, ucell h 6⟩
theorem plC_cells {V : World} {g : Nat} {W H : Int} {A : Option Addr} {np cp : Nat} (h : V.heap[g]? = some (.cells (plC W H A np cp) 55)) :
    V.cell? ⟨g, 0, none⟩ = some (.int .i64 W) ∧ V.cell? ⟨g, 1, none⟩ = some (.int .i64 H) ∧ V.cell? ⟨g, 2, none⟩ = some (.slice A np cp) := ⟨ucell h 0, ucell h 1, ucell h 2⟩

/-- What lies behind some rounds of Plane: the boxes, the samples made, the marks. -/
structure PlL (n0 g1 g2 : Nat) (w0 : World) (W H : Int) (A : Option Addr) (np cp : Nat) (kind border : Int) (t : Wp) (w h : Int) (Ds : List Nat) (v : Value) (cs : List Value) (V : World) : Prop where
  pb : PlB n0 W H A np cp t V
  wy : V.heap[g1]? = some (.cells (wayC kind border t W H) 115)
  ou : V.heap[g2]? = some (.cells #[.int .i64 w, .int .i64 h, v] 55)
  ow : OwnC V n0 65 v cs
  bl : Below n0 w0 V
  ms : Marks n0 Ds V
  o1 : n0 + 3 ≤ g1
  o2 : g1 < g2
  o3 : n0 = w0.heap.size
  na : v.ownBlock ≠ some g1 ∧ v.ownBlock ≠ some g2 ∧ ∀ k, v.ownBlock = some k → n0 + 3 ≤ k
section
variable {n0 g1 g2 : Nat} {w0 : World} {W H : Int} {A : Option Addr} {np cp : Nat} {kind border : Int} {t : Wp} {w h : Int} {Ds : List Nat} {v : Value} {cs : List Value} {V V' : World}
theorem PlL.sz (h1 : PlL n0 g1 g2 w0 W H A np cp kind border t w h Ds v cs V) : n0 + 3 ≤ V.heap.size ∧ g1 < V.heap.size ∧ g2 < V.heap.size ∧ (∀ k, v.ownBlock = some k → k < V.heap.size) ∧ ∀ D, D ∈ Ds → D < V.heap.size :=
  ⟨h1.pb.size, (Array.getElem?_eq_some_iff.1 h1.wy).1, (Array.getElem?_eq_some_iff.1 h1.ou).1, fun k hk => (h1.ow.lt k hk).2, fun D hD => (Array.getElem?_eq_some_iff.1 (h1.ms.mem D hD).2).1⟩
/-- Kept, where all blocks below N are, and it speaks of these alone. -/
theorem PlL.keep (h1 : PlL n0 g1 g2 w0 W H A np cp kind border t w h Ds v cs V) {N : Nat} (hN : n0 + 3 ≤ N ∧ g2 < N ∧ (∀ k, v.ownBlock = some k → k < N) ∧ ∀ D, D ∈ Ds → D < N) (hs : ∀ k, k < N → V'.heap[k]? = V.heap[k]?) (hb : Below n0 w0 V') : PlL n0 g1 g2 w0 W H A np cp kind border t w h Ds v cs V' where
  pb := h1.pb.keep fun k _ hk => hs k (by omega)
  wy := (hs _ (by have := h1.o2; omega)).trans h1.wy
  ou := (hs _ hN.2.1).trans h1.ou
  ow := h1.ow.same fun k hk => hs k (hN.2.2.1 k hk)
  bl := hb
  ms := h1.ms.same fun k hk => hs k (hN.2.2.2 k hk)
  o1 := h1.o1
  o2 := h1.o2
  o3 := h1.o3
  na := h1.na
theorem PlL.below (h1 : PlL n0 g1 g2 w0 W H A np cp kind border t w h Ds v cs V) (hb : Below V.heap.size V V') : PlL n0 g1 g2 w0 W H A np cp kind border t w h Ds v cs V' :=
  h1.keep (N := V.heap.size) ⟨h1.sz.1, h1.sz.2.2.1, h1.sz.2.2.2⟩ (fun k hk => hb.block k hk) (h1.bl.trans (hb.mono (by have := h1.sz.1; omega)))
end

/-! ### A round: the rows of the place's spots -/
/-- Between two spots. -/
structure PlR (N n0 g1 g2 g3 g4 : Nat) (w0 : World) (W H : Int) (A : Option Addr) (np cp : Nat) (kind border : Int) (t : Wp) (w h : Int) (Ds : List Nat) (v : Value) (cs : List Value) (x : Nat → Nat) (v1 v2 : Value) (B : Nat → Prop) (pre : List Spt) (V : World) : Prop where
  pl : PlL n0 g1 g2 w0 W H A np cp kind border t w h Ds v cs V
  c3 : V.cell? ⟨g3, 0, none⟩ = some v1
  c4 : V.cell? ⟨g4, 0, none⟩ = some v2
  f3 : V.frozen? ⟨g3, 0, none⟩ = false
  f4 : V.frozen? ⟨g4, 0, none⟩ = false
  r1 : OwnC V N 3 v1 (pre.map valN)
  r2 : OwnC V N 65 v2 (pre.map (valX x W))
  ne : v1.ownBlock = none ∨ v2.ownBlock = none ∨ v1.ownBlock ≠ v2.ownBlock
  sep : ∀ k, B k → N ≤ k ∧ k < V.heap.size ∧ v1.ownBlock ≠ some k ∧ v2.ownBlock ≠ some k
  sz : N ≤ V.heap.size
/-- What is known of the blocks' order: all that the loop speaks of lies below N. -/
structure PlN (N n0 g2 g3 g4 : Nat) (Ds : List Nat) (v : Value) : Prop where
  a : n0 + 3 ≤ N ∧ g2 < N ∧ (∀ k, v.ownBlock = some k → k < N) ∧ ∀ D, D ∈ Ds → D < N
  l3 : g3 < N
  l4 : g4 < N
  g34 : g3 ≠ g4
  n3 : n0 + 3 ≤ g3 ∧ n0 + 3 ≤ g4
  g23 : g2 < g3 ∧ g2 < g4
  gd : ∀ D, D ∈ Ds → D ≠ g3 ∧ D ≠ g4
  gv : ∀ k, v.ownBlock = some k → k ≠ g3 ∧ k ≠ g4
theorem PlN.more {N N' n0 g2 g3 g4 : Nat} {Ds : List Nat} {v : Value} (h : PlN N n0 g2 g3 g4 Ds v) (hN : N ≤ N') : PlN N' n0 g2 g3 g4 Ds v :=
  ⟨⟨Nat.le_trans h.a.1 hN, Nat.lt_of_lt_of_le h.a.2.1 hN, fun k hk => Nat.lt_of_lt_of_le (h.a.2.2.1 k hk) hN, fun D hD => Nat.lt_of_lt_of_le (h.a.2.2.2 D hD) hN⟩, Nat.lt_of_lt_of_le h.l3 hN, Nat.lt_of_lt_of_le h.l4 hN, h.g34, h.n3, h.g23, h.gd, h.gv⟩
section
variable {N n0 g1 g2 g3 g4 : Nat} {w0 : World} {W H : Int} {A : Option Addr} {np cp : Nat} {kind border : Int} {t : Wp} {w h : Int} {Ds : List Nat} {v : Value} {cs : List Value} {x : Nat → Nat} {v1 v2 : Value} {B B' : Nat → Prop} {pre : List Spt} {V V' : World}
theorem PlR.keep (hN : PlN N n0 g2 g3 g4 Ds v) (h1 : PlR N n0 g1 g2 g3 g4 w0 W H A np cp kind border t w h Ds v cs x v1 v2 B pre V) (hs : ∀ k, k < N ∨ v1.ownBlock = some k ∨ v2.ownBlock = some k → V'.heap[k]? = V.heap[k]?) (hb : Below n0 w0 V') (hz : V.heap.size ≤ V'.heap.size) (hB : ∀ k, B' k → B k ∨ (V.heap.size ≤ k ∧ k < V'.heap.size)) : PlR N n0 g1 g2 g3 g4 w0 W H A np cp kind border t w h Ds v cs x v1 v2 B' pre V' where
  pl := h1.pl.keep hN.a (fun k hk => hs k (.inl hk)) hb
  c3 := wcell_same (hs _ (.inl hN.l3)) h1.c3
  c4 := wcell_same (hs _ (.inl hN.l4)) h1.c4
  f3 := (wfree_same (hs _ (.inl hN.l3)) 0).trans h1.f3
  f4 := (wfree_same (hs _ (.inl hN.l4)) 0).trans h1.f4
  r1 := h1.r1.same fun k hk => hs k (.inr (.inl hk))
  r2 := h1.r2.same fun k hk => hs k (.inr (.inr hk))
  ne := h1.ne
  sep := fun k hk => by
    rcases hB k hk with hk | ⟨k1, k2⟩
    · obtain ⟨s1, s2, s3⟩ := h1.sep k hk
      exact ⟨s1, Nat.lt_of_lt_of_le s2 hz, s3⟩
    · have := h1.sz
      exact ⟨by omega, k2, fun e => by have := (h1.r1.lt k e).2; omega, fun e => by have := (h1.r2.lt k e).2; omega⟩
  sz := Nat.le_trans h1.sz hz
end
/-- The state as the law of the range wants it. -/
def PlI (N n0 g1 g2 g3 g4 : Nat) (w0 : World) (W H : Int) (A : Option Addr) (np cp : Nat) (kind border : Int) (t : Wp) (w h : Int) (Ds : List Nat) (v : Value) (cs : List Value) (x : Nat → Nat) (B : Nat → Prop) (pre : List Spt) (V : World) : Prop :=
  ∃ v1 v2, PlR N n0 g1 g2 g3 g4 w0 W H A np cp kind border t w h Ds v cs x v1 v2 B pre V
section
variable {N n0 g1 g2 g3 g4 : Nat} {w0 : World} {W H : Int} {A : Option Addr} {np cp : Nat} {kind border : Int} {t : Wp} {w h : Int} {Ds : List Nat} {v : Value} {cs : List Value} {x : Nat → Nat} {B : Nat → Prop} {pre : List Spt} {V V' : World}
theorem plI_own (hN : PlN N n0 g2 g3 g4 Ds v) : OwnB N (PlI N n0 g1 g2 g3 g4 w0 W H A np cp kind border t w h Ds v cs x) where
  ab := fun B s V V' ⟨v1, v2, h1⟩ hg => by
    have same : ∀ k, k < N ∨ v1.ownBlock = some k ∨ v2.ownBlock = some k → V'.heap[k]? = V.heap[k]? := fun k hk => by
      refine hg.block k ?_ (fun hb => ?_)
      · rcases hk with hk | hk | hk
        · exact Nat.lt_of_lt_of_le hk h1.sz
        · exact (h1.r1.lt k hk).2
        · exact (h1.r2.lt k hk).2
      · obtain ⟨s1, s2, s3, s4⟩ := h1.sep k hb
        rcases hk with hk | hk | hk
        · omega
        · exact s3 hk
        · exact s4 hk
    have hbl := h1.pl.bl
    have h0 := h1.pl.sz.1
    exact ⟨v1, v2, h1.keep hN same ⟨hg.os.trans hbl.os, hg.tape.trans hbl.tape, hg.output.trans hbl.output, Nat.le_trans hbl.size hg.size, fun k hk => (same k (.inl (by have := hN.a.1; omega))).trans (hbl.block k hk)⟩ hg.size (fun k hk => hk)⟩
  alloc := fun B s V o ⟨v1, v2, h1⟩ => by
    have hz := h1.sz
    exact ⟨v1, v2, h1.keep hN (fun k hk => Below.heap_alloc V o k (by
      rcases hk with hk | hk | hk
      · omega
      · exact (h1.r1.lt k hk).2
      · exact (h1.r2.lt k hk).2)) (h1.pl.bl.alloc (by have := h1.pl.sz.1; omega) o) (by simp) (fun k hk => .inl hk)⟩
  put := fun B s V r o o' ⟨v1, v2, h1⟩ hr ho hc => by
    have hz := h1.sz
    have hne : ∀ k, k < N ∨ v1.ownBlock = some k ∨ v2.ownBlock = some k → k ≠ r := fun k hk e => by
      subst e
      rcases hk with hk | hk | hk
      · omega
      · obtain ⟨cu, hcu⟩ := h1.r1.obj k hk
        rw [hcu] at ho
        injection ho with ho
        rw [← ho] at hc
        cases hc
      · obtain ⟨cu, hcu⟩ := h1.r2.obj k hk
        rw [hcu] at ho
        injection ho with ho
        rw [← ho] at hc
        cases hc
    exact ⟨v1, v2, h1.keep hN (fun k hk => World.putObj_heap_other (hne k hk)) (h1.pl.bl.grown (grownBy_putObj' V r o') (by have := h1.pl.sz.1; omega) (fun k e => by cases e; have := hN.a.1; omega)) (by simp) (fun k hk => .inl hk)⟩
end

/-- Behind world W2, where the rows were v1 and v2, they are x1 and x2; nothing else there was changed. -/
structure TwoR (N : Nat) (W2 : World) (v1 v2 x1 : Value) (cs1 : List Value) (x2 : Value) (cs2 : List Value) (W : World) : Prop where
  a : OwnC W N 3 x1 cs1
  b : OwnC W N 65 x2 cs2
  ne : x1.ownBlock = none ∨ x2.ownBlock = none ∨ x1.ownBlock ≠ x2.ownBlock
  os : W.os = W2.os
  tp : W.tape = W2.tape
  ou : W.output = W2.output
  sz : W2.heap.size ≤ W.heap.size
  sm : ∀ k, k < W2.heap.size → v1.ownBlock ≠ some k → v2.ownBlock ≠ some k → W.heap[k]? = W2.heap[k]?
  o1 : x1.ownBlock = v1.ownBlock ∨ ∃ k, x1.ownBlock = some k ∧ W2.heap.size ≤ k
  o2 : x2.ownBlock = v2.ownBlock ∨ ∃ k, x2.ownBlock = some k ∧ W2.heap.size ≤ k
  sN : N ≤ W2.heap.size
section
variable {N : Nat} {W2 W W' : World} {v1 v2 x1 x2 : Value} {cs1 cs2 : List Value}
theorem TwoR.start (h1 : OwnC W2 N 3 v1 cs1) (h2 : OwnC W2 N 65 v2 cs2) (ne : v1.ownBlock = none ∨ v2.ownBlock = none ∨ v1.ownBlock ≠ v2.ownBlock) (hN : N ≤ W2.heap.size) : TwoR N W2 v1 v2 v1 cs1 v2 cs2 W2.drew :=
  ⟨h1.same fun k _ => rfl, h2.same fun k _ => rfl, ne, rfl, rfl, rfl, Nat.le_refl _, fun k _ _ _ => rfl, .inl rfl, .inl rfl, hN⟩
theorem TwoR.alloc (h : TwoR N W2 v1 v2 x1 cs1 x2 cs2 W) (o : Obj) : TwoR N W2 v1 v2 x1 cs1 x2 cs2 (W.alloc o) :=
  ⟨h.a.same fun k hk => Below.heap_alloc W o k (h.a.lt k hk).2, h.b.same fun k hk => Below.heap_alloc W o k (h.b.lt k hk).2, h.ne, h.os, h.tp, h.ou, by have := h.sz; simp; omega, fun k hk n1 n2 => (Below.heap_alloc W o k (Nat.lt_of_lt_of_le hk h.sz)).trans (h.sm k hk n1 n2), h.o1, h.o2, h.sN⟩
/-- What else is kept by a push: every block that is there and is not the row's. -/
theorem TwoR.push1 (h : TwoR N W2 v1 v2 x1 cs1 x2 cs2 W) (ty : TypeId) (hlen : cs1.length ≤ 1000000000) (g : Nat) (z : Int) (hg : W.heap[g]? = some (.cells #[.int .i64 z] 3 (0, 0))) :
    ∃ x W', (Builtin.append_ #[93, 93] ty #[x1, .slice (some ⟨g, 0, none⟩) 1 1]).run Try.prog W = .ok x W' ∧ TwoR N W2 v1 v2 x (cs1 ++ [.int .i64 z]) x2 cs2 W' ∧ ∀ k, k < W.heap.size → x1.ownBlock ≠ some k → W'.heap[k]? = W.heap[k]? := by
  have hz := h.sz
  have hN := h.sN
  obtain ⟨x, W', k1, k2, k3, k4⟩ := own_push oneInt ty W N x1 cs1 h.a (by omega) hlen ⟨g, 0, none⟩ (.int .i64 z) (ucell hg 0) rfl
  refine ⟨x, W', k1, ⟨k2, h.b.same fun k hk => k3.block k (h.b.lt k hk).2 (fun e => ?_), ?_, k3.os.trans h.os, k3.tape.trans h.tp, k3.output.trans h.ou, Nat.le_trans hz k3.size, fun k hk n1 n2 => ?_, ?_, h.o2, hN⟩, fun k hk n1 => k3.block k hk (fun e => n1 e.symm)⟩
  · rcases h.ne with q | q | q
    · rw [q] at e; cases e
    · rw [q] at hk; cases hk
    · exact q (e.symm.trans hk.symm)
  · rcases k4 with k4 | k4
    · rw [k4]; exact h.ne
    · cases hx : x2.ownBlock with
      | none => exact .inr (.inl rfl)
      | some q =>
        have := (h.b.lt q hx).2
        right; right; rw [k4]; intro e; injection e with e; omega
  · have hk' := Nat.lt_of_lt_of_le hk hz
    refine (k3.block k hk' (fun e => ?_)).trans (h.sm k hk n1 n2)
    rcases h.o1 with q | ⟨q, q1, q2⟩
    · rw [q] at e; exact n1 e.symm
    · rw [q1] at e; injection e with e; omega
  · rcases k4 with k4 | k4
    · rw [k4]; exact h.o1
    · exact .inr ⟨_, k4, hz⟩
theorem TwoR.push2 (h : TwoR N W2 v1 v2 x1 cs1 x2 cs2 W) (ty : TypeId) (hlen : cs2.length ≤ 1000000000) (g : Nat) (z : Int) (hg : W.heap[g]? = some (.cells #[.int .u32 z] 65 (0, 0))) :
    ∃ x W', (Builtin.append_ #[53, 53] ty #[x2, .slice (some ⟨g, 0, none⟩) 1 1]).run Try.prog W = .ok x W' ∧ TwoR N W2 v1 v2 x1 cs1 x (cs2 ++ [.int .u32 z]) W' ∧ ∀ k, k < W.heap.size → x2.ownBlock ≠ some k → W'.heap[k]? = W.heap[k]? := by
  have hz := h.sz
  have hN := h.sN
  obtain ⟨x, W', k1, k2, k3, k4⟩ := own_push oneU32 ty W N x2 cs2 h.b (by omega) hlen ⟨g, 0, none⟩ (.int .u32 z) (ucell hg 0) rfl
  refine ⟨x, W', k1, ⟨h.a.same fun k hk => k3.block k (h.a.lt k hk).2 (fun e => ?_), k2, ?_, k3.os.trans h.os, k3.tape.trans h.tp, k3.output.trans h.ou, Nat.le_trans hz k3.size, fun k hk n1 n2 => ?_, h.o1, ?_, hN⟩, fun k hk n1 => k3.block k hk (fun e => n1 e.symm)⟩
  · rcases h.ne with q | q | q
    · rw [q] at hk; cases hk
    · rw [q] at e; cases e
    · exact q (hk.trans e)
  · rcases k4 with k4 | k4
    · rw [k4]; exact h.ne
    · cases hx : x1.ownBlock with
      | none => exact .inl rfl
      | some q =>
        have := (h.a.lt q hx).2
        right; right; rw [k4]; intro e; injection e with e; omega
  · have hk' := Nat.lt_of_lt_of_le hk hz
    refine (k3.block k hk' (fun e => ?_)).trans (h.sm k hk n1 n2)
    rcases h.o2 with q | ⟨q, q1, q2⟩
    · rw [q] at e; exact n2 e.symm
    · rw [q1] at e; injection e with e; omega
  · rcases k4 with k4 | k4
    · rw [k4]; exact h.o2
    · exact .inr ⟨_, k4, hz⟩

theorem TwoR.sl1 (h : TwoR N W2 v1 v2 x1 cs1 x2 cs2 W) : ∃ A n c, x1 = .slice A n c := by
  obtain ⟨A, c, e, -⟩ := h.a.row
  exact ⟨A, _, c, e⟩
theorem TwoR.sl2 (h : TwoR N W2 v1 v2 x1 cs1 x2 cs2 W) : ∃ A n c, x2 = .slice A n c := by
  obtain ⟨A, c, e, -⟩ := h.b.row
  exact ⟨A, _, c, e⟩
/-- What the round's reads want. -/
structure SpRd (n0 g3 g4 g5 : Nat) (v1 v2 : Value) (X Y Z : Int) (pW : Int) (pv : Value) (ad : Addr) (u : Value) (W : World) : Prop where
  s3 : W.cell? ⟨g3, 0, none⟩ = some v1
  s4 : W.cell? ⟨g4, 0, none⟩ = some v2
  s50 : W.cell? ⟨g5, 0, none⟩ = some (.int .i64 X)
  s51 : W.cell? ⟨g5, 1, none⟩ = some (.int .i64 Y)
  s52 : W.cell? ⟨g5, 2, none⟩ = some (.int .i64 Z)
  s60 : W.cell? ⟨n0, 0, none⟩ = some (.int .i64 pW)
  s62 : W.cell? ⟨n0, 2, none⟩ = some pv
  sp : W.cell? ad = some u
  f3 : W.frozen? ⟨g3, 0, none⟩ = false
  f4 : W.frozen? ⟨g4, 0, none⟩ = false
theorem SpRd.two {n0 g3 g4 g5 : Nat} {X Y Z pW : Int} {pv : Value} {ad : Addr} {u : Value} (hr : SpRd n0 g3 g4 g5 v1 v2 X Y Z pW pv ad u W2) (hn : ∀ k, k = g3 ∨ k = g4 ∨ k = g5 ∨ k = n0 ∨ k = ad.block → v1.ownBlock ≠ some k ∧ v2.ownBlock ≠ some k) (h : TwoR N W2 v1 v2 x1 cs1 x2 cs2 W) : SpRd n0 g3 g4 g5 v1 v2 X Y Z pW pv ad u W := by
  have key : ∀ (p : Addr) (c : Value), W2.cell? p = some c → (p.block = g3 ∨ p.block = g4 ∨ p.block = g5 ∨ p.block = n0 ∨ p.block = ad.block) → W.cell? p = some c := fun p c hc hk =>
    (World.cell?_of_block (h.sm _ (World.block_lt_of_cell? _ _ hc) (hn _ hk).1 (hn _ hk).2)).trans hc
  exact ⟨key _ _ hr.s3 (.inl rfl), key _ _ hr.s4 (.inr (.inl rfl)), key _ _ hr.s50 (.inr (.inr (.inl rfl))), key _ _ hr.s51 (.inr (.inr (.inl rfl))), key _ _ hr.s52 (.inr (.inr (.inl rfl))), key _ _ hr.s60 (.inr (.inr (.inr (.inl rfl)))), key _ _ hr.s62 (.inr (.inr (.inr (.inl rfl)))), key _ _ hr.sp (.inr (.inr (.inr (.inr rfl)))),
    (wfree_same (h.sm _ (World.block_lt_of_cell? _ _ hr.s3) (hn _ (.inl rfl)).1 (hn _ (.inl rfl)).2) 0).trans hr.f3, (wfree_same (h.sm _ (World.block_lt_of_cell? _ _ hr.s4) (hn _ (.inr (.inl rfl))).1 (hn _ (.inr (.inl rfl))).2) 0).trans hr.f4⟩
end

section
variable {N n0 g1 g2 g3 g4 : Nat} {w0 : World} {W H : Int} {A : Option Addr} {np cp : Nat} {kind border : Int} {t : Wp} {w h : Int} {Ds : List Nat} {v : Value} {cs : List Value} {x : Nat → Nat} {v1 v2 x1 x2 : Value} {B : Nat → Prop} {pre : List Spt} {W2 V : World}
/-- The stores at the end of a round: what the law of the range wants. -/
theorem plR_next (hN : PlN N n0 g2 g3 g4 Ds v) (s : Spt) (hI : PlR N n0 g1 g2 g3 g4 w0 W H A np cp kind border t w h Ds v cs x v1 v2 B pre W2) (hT : TwoR N W2 v1 v2 x1 (pre.map valN ++ [valN s]) x2 (pre.map (valX x W) ++ [valX x W s]) V) (K0 : Nat → Prop) (hK : ∀ k, K0 k → k < N ∧ k ≠ g3 ∧ k ≠ g4) :
    KeepsFrom N W2 ((V.setCell ⟨g3, 0, none⟩ x1).setCell ⟨g4, 0, none⟩ x2) ∧ KeepB (fun b => B b ∨ K0 b) W2 ((V.setCell ⟨g3, 0, none⟩ x1).setCell ⟨g4, 0, none⟩ x2) ∧ PlI N n0 g1 g2 g3 g4 w0 W H A np cp kind border t w h Ds v cs x B (pre ++ [s]) ((V.setCell ⟨g3, 0, none⟩ x1).setCell ⟨g4, 0, none⟩ x2) := by
  have hst : ∀ k, k ≠ g3 → k ≠ g4 → ((V.setCell ⟨g3, 0, none⟩ x1).setCell ⟨g4, 0, none⟩ x2).heap[k]? = V.heap[k]? := fun k k3 k4 =>
    (Below.heap_setCell _ _ _ _ k4).trans (Below.heap_setCell _ _ _ _ k3)
  have hzz : ((V.setCell ⟨g3, 0, none⟩ x1).setCell ⟨g4, 0, none⟩ x2).heap.size = V.heap.size := by simp [World.setCell]
  have r1 := hI.r1.lt
  have r2 := hI.r2.lt
  have hz := hT.sz
  have hsz := hI.sz
  have l3 := hN.l3
  have l4 := hN.l4
  have low : ∀ k, k < N → V.heap[k]? = W2.heap[k]? := fun k hk => hT.sm k (by omega) (fun e => by have := (r1 k e).1; omega) (fun e => by have := (r2 k e).1; omega)
  have big : ∀ k, k < W2.heap.size → N ≤ k → v1.ownBlock ≠ some k → v2.ownBlock ≠ some k → ((V.setCell ⟨g3, 0, none⟩ x1).setCell ⟨g4, 0, none⟩ x2).heap[k]? = W2.heap[k]? := fun k hk hkN n1 n2 => (hst k (by omega) (by omega)).trans (hT.sm k hk n1 n2)
  have hBx : ∀ k, B k → ((V.setCell ⟨g3, 0, none⟩ x1).setCell ⟨g4, 0, none⟩ x2).heap[k]? = W2.heap[k]? := fun k hk => by
    obtain ⟨s1, s2, s3, s4⟩ := hI.sep k hk
    exact big k s2 s1 s3 s4
  have c3 : V.cell? ⟨g3, 0, none⟩ = some v1 := wcell_same (low g3 l3) hI.c3
  have c4 : V.cell? ⟨g4, 0, none⟩ = some v2 := wcell_same (low g4 l4) hI.c4
  refine ⟨⟨by rw [hzz]; exact hz, fun k o hkN hk ho => ?_⟩, ⟨by rw [hzz]; exact hz, fun k hk => ?_⟩, x1, x2, ?_⟩
  · have hk2 := (Array.getElem?_eq_some_iff.1 hk).1
    refine (big k hk2 hkN (fun e => ?_) (fun e => ?_)).trans hk
    · obtain ⟨cu, hcu⟩ := hI.r1.obj k e
      rw [hcu] at hk; injection hk with hk; rw [← hk] at ho; cases ho
    · obtain ⟨cu, hcu⟩ := hI.r2.obj k e
      rw [hcu] at hk; injection hk with hk; rw [← hk] at ho; cases ho
  · rcases hk with hk | hk
    · exact hBx k hk
    · obtain ⟨k1, k3, k4⟩ := hK k hk
      exact (hst k k3 k4).trans (low k k1)
  · have hbl := hI.pl.bl
    have hn3 := hN.n3
    have e3 : ((V.setCell ⟨g3, 0, none⟩ x1).setCell ⟨g4, 0, none⟩ x2).cell? ⟨g3, 0, none⟩ = some x1 := by
      rw [World.cell?_setCell_far _ _ _ _ (by simpa using hN.g34.symm)]
      exact World.cell?_setCell_same' _ _ _ (by rw [c3]; rfl)
    have e4 : ((V.setCell ⟨g3, 0, none⟩ x1).setCell ⟨g4, 0, none⟩ x2).cell? ⟨g4, 0, none⟩ = some x2 := by
      refine World.cell?_setCell_same' _ _ _ ?_
      rw [World.cell?_setCell_far _ _ _ _ (by simpa using hN.g34), c4]; rfl
    have f3 : ((V.setCell ⟨g3, 0, none⟩ x1).setCell ⟨g4, 0, none⟩ x2).frozen? ⟨g3, 0, none⟩ = false := by
      rw [World.frozen?_setCell, World.frozen?_setCell, wfree_same (low g3 l3)]; exact hI.f3
    have f4 : ((V.setCell ⟨g3, 0, none⟩ x1).setCell ⟨g4, 0, none⟩ x2).frozen? ⟨g4, 0, none⟩ = false := by
      rw [World.frozen?_setCell, World.frozen?_setCell, wfree_same (low g4 l4)]; exact hI.f4
    have pl : PlL n0 g1 g2 w0 W H A np cp kind border t w h Ds v cs ((V.setCell ⟨g3, 0, none⟩ x1).setCell ⟨g4, 0, none⟩ x2) := by
      have hb : Below n0 w0 ((V.setCell ⟨g3, 0, none⟩ x1).setCell ⟨g4, 0, none⟩ x2) := by
        have hb1 : Below n0 w0 V := ⟨hT.os.trans hbl.os, hT.tp.trans hbl.tape, hT.ou.trans hbl.output, Nat.le_trans hbl.size hz, fun k hk => (low k (by have := hN.a.1; omega)).trans (hbl.block k hk)⟩
        exact (hb1.setCell (by show n0 ≤ g3; omega) _).setCell (by show n0 ≤ g4; omega) _
      have hg2 := hN.g23
      have h12 := hI.pl.o2
      have ha := hN.a
      have hs : ∀ k, k < N → k ≠ g3 → k ≠ g4 → ((V.setCell ⟨g3, 0, none⟩ x1).setCell ⟨g4, 0, none⟩ x2).heap[k]? = W2.heap[k]? := fun k h1 h2 h3 => (hst k h2 h3).trans (low k h1)
      exact {
        pb := hI.pl.pb.keep fun k _ hk => hs k (by omega) (by omega) (by omega)
        wy := (hs _ (by omega) (by omega) (by omega)).trans hI.pl.wy
        ou := (hs _ (by omega) (by omega) (by omega)).trans hI.pl.ou
        ow := hI.pl.ow.same fun k hk => hs k (ha.2.2.1 k hk) (hN.gv k hk).1 (hN.gv k hk).2
        bl := hb
        ms := hI.pl.ms.same fun k hk => hs k (ha.2.2.2 k hk) (hN.gd k hk).1 (hN.gd k hk).2
        o1 := hI.pl.o1
        o2 := h12
        o3 := hI.pl.o3
        na := hI.pl.na }
    refine ⟨pl, e3, e4, f3, f4, ?_, ?_, hT.ne, fun k hk => ?_, by rw [hzz]; omega⟩
    · rw [List.map_append]
      exact hT.a.same fun k hk => hst k (by have := (hT.a.lt k hk).1; omega) (by have := (hT.a.lt k hk).1; omega)
    · rw [List.map_append]
      exact hT.b.same fun k hk => hst k (by have := (hT.b.lt k hk).1; omega) (by have := (hT.b.lt k hk).1; omega)
    · obtain ⟨s1, s2, s3, s4⟩ := hI.sep k hk
      refine ⟨s1, by rw [hzz]; omega, fun e => ?_, fun e => ?_⟩
      · rcases hT.o1 with q | ⟨q, q1, q2⟩
        · rw [q] at e; exact s3 e
        · rw [q1] at e; injection e with e; omega
      · rcases hT.o2 with q | ⟨q, q1, q2⟩
        · rw [q] at e; exact s4 e
        · rw [q1] at e; injection e with e; omega
end

theorem wpListIn_append_run' {F : Fence} {n : Nat} {P : Program} (w : World) {ops : Array Oper} {rest : List Oper} {o : Oper} {a : Act} {Q : Exit → Act → World → Prop} (hg : o.guard = none) (s x : Operand) (t tn : TypeId)
    (ho : o.op = .call { callee := .builtin .append, args := #[s, x], argTypes := #[t, tn] }) (vs vx : Value) (hs : a.eval s = vs) (hx : a.eval x = vx)
    (v' : Value) (w' : World) (hr : (Builtin.append_ #[t, tn] o.type #[vs, vx]).run P w = .ok v' w') (h : wpListIn F n P ops Q rest (a.put o.dst v') w') : wpListIn F n P ops Q (o :: rest) a w := by
  refine wpListIn_plain hg fun K hK' => ?_
  unfold Oper.wpIn
  refine ⟨?_, ?_⟩
  · simp [Oper.about, ho, resolve, Target.leads, Sem.run_pure]
  · rw [Oper.semAt_plain F _ _ (by rw [ho]; intro c hc'; cases hc')]
    simp [execOp, ho, resolve, invoke, builtin, hs, hx, hr, Result.andThen]
    exact hK' _ _ h
theorem own_push_c {t e : TypeId} {z : Value} {bytes : Nat} (ot : OneT t e z bytes) (ty : TypeId) (W : World) (base : Nat) (v : Value) (cs : List Value) (hown : OwnC W base e v cs) (hb : base ≤ W.heap.size) (hlen : cs.length ≤ 1000000000) (ad : Addr) (cc : Nat) (u : Value) (hu : W.cell? ad = some u) (h1 : u.oneCell' = true) :
    ∃ v' W', (Builtin.append_ #[t, t] ty #[v, .slice (some ad) 1 cc]).run Try.prog W = .ok v' W' ∧ OwnC W' base e v' (cs ++ [u]) ∧ W.grownBy W' v.ownBlock ∧ (v'.ownBlock = v.ownBlock ∨ v'.ownBlock = some W.heap.size) := by
  obtain ⟨i, hi, hz⟩ := Option.map_eq_some_iff.1 ot.nf
  simp only [Prod.mk.injEq] at hz
  have hc : ∀ j x, ([u] : List Value)[j]? = some x → W.cell? (ad.add j) = some x := fun j x h => by
    have h0 : j = 0 := by
      have := (List.getElem?_eq_some_iff.1 h).1
      simp at this
      exact this
    subst h0
    rw [show ad.add 0 = ad by unfold Addr.add; split <;> simp_all, hu]
    simpa using h
  have hby := ot.by8
  obtain ⟨v', W', hrun, h2, h3, _, h5⟩ := run_append_own_at (P := Try.prog) W base t ty e i z 1 bytes ot.ut hi hz.1 hz.2.1 hz.2.2 ot.zs (by decide) v cs.length cs hown ad 1 cc [u] rfl hc (fun x hx => by rw [List.mem_singleton.1 hx]; exact h1) (by unfold maxLen; omega) (by
    have := Nat.mul_le_mul (show cs.length + 1 ≤ 1000000001 by omega) hby
    omega) hb
  refine ⟨v', W', hrun, ?_, h3, h5⟩
  unfold OwnC
  rw [List.length_append]
  exact h2

theorem OwnC.sl {W : World} {base : Nat} {e : TypeId} {v : Value} {cs : List Value} (h : OwnC W base e v cs) : ∃ A n c, v = .slice A n c := by
  obtain ⟨A, c, e, -⟩ := h.row
  exact ⟨A, _, c, e⟩
theorem ret_plane {fn : Func} {p u : Tmp} (h : fn.results = #[.cell p 55, .tmp u]) (tmps : Array Value) (w : World) (g : Nat) (cs : Array Value) (hp : tmps.getD p undef = .pointer (some ⟨g, 0, none⟩)) (hg : w.heap[g]? = some (.cells cs 55 (0, 0))) (hi : cs.size = 3) :
    (results fn tmps).run Try.prog w = .ok (.tuple #[.agg cs, tmps.getD u undef]) w := by
  have hs : (Try.prog.info? 55).map (·.size) = some 3 := by kernel_rfl
  have hl := run_loadVar_row (P := Try.prog) w g 55 55 cs (0, 0) _ hg Try.underlying55 rfl (by rw [hi]; exact hs)
  rw [results_cell_tmp h, hp]
  simp [asAddr, hl, Result.andThen]
/-- The samples made so far. -/
def PxRow (kind border : Int) (t : Wp) (W H : Int) (x : Nat → Nat) (w : Int) (cs : List Value) : Prop := ∀ j, j < cs.length → ∃ s : Nat, cs[j]? = some (.int .u32 ((s : Nat) : Int)) ∧ IsPx kind border t W H x w j s
theorem PxRow.nil (kind border : Int) (t : Wp) (W H : Int) (x : Nat → Nat) (w : Int) : PxRow kind border t W H x w [] := fun j h => by simp at h
theorem PxRow.next {kind border : Int} {t : Wp} {W H : Int} {x : Nat → Nat} {w : Int} {cs : List Value} (h : PxRow kind border t W H x w cs) {s : Nat} (hs : IsPx kind border t W H x w cs.length s) : PxRow kind border t W H x w (cs ++ [.int .u32 ((s : Nat) : Int)]) := fun j hj => by
  rcases Nat.lt_or_ge j cs.length with h1 | h1
  · obtain ⟨s', h2, h3⟩ := h j h1
    exact ⟨s', by rw [List.getElem?_append_left h1]; exact h2, h3⟩
  · have : j = cs.length := by simp at hj; omega
    subst this
    exact ⟨s, by simp, hs⟩
/-- What a plane warped is. -/
def PlaneEnd (w0 : World) (kind border : Int) (t : Wp) (W H : Int) (x : Nat → Nat) (w h : Int) (e : Ending) (w' : World) : Prop := ∃ v cs, e = .returned (.tuple #[.agg #[.int .i64 w, .int .i64 h, v], .int .i64 0]) ∧ OwnC w' w0.heap.size 65 v cs ∧ (cs.length : Int) = w * h ∧ PxRow kind border t W H x w cs ∧ Below w0.heap.size w0 w'
section
variable {n0 g1 g2 : Nat} {w0 : World} {W H : Int} {A : Option Addr} {np cp : Nat} {kind border : Int} {t : Wp} {w h : Int} {Ds : List Nat} {v v' : Value} {cs cs' : List Value} {V V' : World}
theorem PlL.mark (h1 : PlL n0 g1 g2 w0 W H A np cp kind border t w h Ds v cs V) {D : Nat} (hD : n0 ≤ D) (hd : V.heap[D]? = some (.deferred (some []))) (hn : D ∉ Ds) : PlL n0 g1 g2 w0 W H A np cp kind border t w h (D :: Ds) v cs V :=
  ⟨h1.pb, h1.wy, h1.ou, h1.ow, h1.bl, ⟨hD, hd, hn, h1.ms⟩, h1.o1, h1.o2, h1.o3, h1.na⟩
theorem PlL.push (h1 : PlL n0 g1 g2 w0 W H A np cp kind border t w h Ds v cs V) (ho : OwnC V' n0 65 v' cs') (hg : V.grownBy V' v.ownBlock) (hb : v'.ownBlock = v.ownBlock ∨ v'.ownBlock = some V.heap.size) : PlL n0 g1 g2 w0 W H A np cp kind border t w h Ds v' cs' (V'.setCell ⟨g2, 2, none⟩ v') := by
  have hz := h1.sz
  have hna := h1.na
  have o1 := h1.o1
  have o2 := h1.o2
  have st : ∀ k, k ≠ g2 → (V'.setCell ⟨g2, 2, none⟩ v').heap[k]? = V'.heap[k]? := fun k hk => Below.heap_setCell _ _ _ _ hk
  have sm : ∀ k, k < V.heap.size → v.ownBlock ≠ some k → V'.heap[k]? = V.heap[k]? := fun k hk hn => hg.block k hk (fun e => hn e.symm)
  have hg2 : V'.heap[g2]? = some (.cells #[.int .i64 w, .int .i64 h, v] 55) := (sm g2 hz.2.2.1 hna.2.1).trans h1.ou
  have hvn : v'.ownBlock ≠ some g1 ∧ v'.ownBlock ≠ some g2 ∧ ∀ k, v'.ownBlock = some k → n0 + 3 ≤ k := by
    rcases hb with e | e
    · rw [e]; exact hna
    · rw [e]
      refine ⟨fun q => ?_, fun q => ?_, fun k q => ?_⟩
      · injection q with q; omega
      · injection q with q; omega
      · injection q with q; omega
  exact {
    pb := h1.pb.keep fun k _ hk => (st k (by omega)).trans (sm k (by omega) (fun e => by have := hna.2.2 k e; omega))
    wy := (st g1 (by omega)).trans ((sm g1 hz.2.1 hna.1).trans h1.wy)
    ou := blk_put hg2 2 v' rfl
    ow := ho.same fun k hk => st k (fun e => by subst e; exact hvn.2.1 hk)
    bl := ((h1.bl.grown hg (by omega) (fun k e => by have := hna.2.2 k (by rw [e]); omega))).setCell (by show n0 ≤ g2; omega) _
    ms := h1.ms.same fun k hk => by
      obtain ⟨m1, m2⟩ := h1.ms.mem k hk
      refine (st k (fun e => ?_)).trans (sm k (hz.2.2.2.2 k hk) (fun e => ?_))
      · rw [e, h1.ou] at m2; injection m2 with m2; cases m2
      · obtain ⟨cu, hcu⟩ := h1.ow.obj k e
        rw [hcu] at m2; injection m2 with m2; cases m2
    o1 := o1
    o2 := o2
    o3 := h1.o3
    na := hvn }
end
/-- A row of spots' numbers, as the sum of products reads it. -/
theorem rowN_of {V : World} {N : Nat} {v : Value} {L : List Spt} (h : OwnC V N 3 v (L.map valN)) : ∃ A c, v = .slice A L.length c ∧ L.length ≤ c ∧ RowZ V A L.length (spN L) := by
  obtain ⟨A, c, e, hc, -, hr⟩ := h.row
  rw [List.length_map] at e hc hr
  refine ⟨A, c, e, hc, fun hn => ?_⟩
  obtain ⟨ad, eA, hcl⟩ := hr hn
  refine ⟨ad, eA, fun i hi => hcl i _ ?_⟩
  rw [List.getElem?_map, List.getElem?_eq_getElem hi]
  simp [valN, spN, hi]
theorem rowX_of {V : World} {N : Nat} {v : Value} {x : Nat → Nat} {W : Int} {L : List Spt} (h : OwnC V N 65 v (L.map (valX x W))) : ∃ A c, v = .slice A L.length c ∧ L.length ≤ c ∧ RowU V A L.length (spX x W L) := by
  obtain ⟨A, c, e, hc, -, hr⟩ := h.row
  rw [List.length_map] at e hc hr
  refine ⟨A, c, e, hc, fun hn => ?_⟩
  obtain ⟨ad, eA, hcl⟩ := hr hn
  refine ⟨ad, eA, fun i hi => hcl i _ ?_⟩
  rw [List.getElem?_map, List.getElem?_eq_getElem hi]
  simp [valX, spX, hi]
theorem spots_dot {kind border : Int} {t : Wp} {W H X Y : Int} {x : Nat → Nat} {np : Nat} {L : List Spt} (hr : RightIn kind border t W H) (hn : (np : Int) = W * H) (hx : ∀ k, k < np → x k < 4294967296) (h : IsSpots kind border t W H X Y L) : (∀ k, k < L.length → spX x W L k < 4294967296) ∧ ∀ k, k < L.length → -268435456 ≤ spN L k ∧ spN L k ≤ 268435456 := by
  have key : ∀ k (hk : k < L.length), L.getD k ⟨0, 0, 0⟩ ∈ L := fun k hk => by
    rw [List.getD_eq_getElem?_getD, List.getElem?_eq_getElem hk]
    exact List.getElem_mem hk
  refine ⟨fun k hk => ?_, fun k hk => ?_⟩
  · obtain ⟨a1, a2, a3⟩ := spots_in hr h _ (key k hk)
    exact hx _ (idx_in hr.sz hn a1 a2).2.2.2.2
  · obtain ⟨a1, a2, a3⟩ := spots_in hr h _ (key k hk)
    unfold spN
    omega
end Go.Proofs.Ytdcpeeolfgohmaa
