/- plane.maker.made: the samples that a function tells, row by row. -/
import Derived.Test.YtdcpeeolfgohmaaMkA
import Derived.Test.YtdcpeeolfgohmaaWmKL
import Derived.Test.YtdcpeeolfgohmaaNatAF
namespace Go.Proofs.Ytdcpeeolfgohmaa
open Go.RowKit Go.Proofs.YtdcpeeolfgohmaaW.PrintWords
set_option linter.unusedSimpArgs false
set_option linter.unusedVariables false
attribute [local go_sem] Oper.semAt_some

def mkRow (z : Nat → Nat → Nat) (wn k : Nat) : List Value := (List.range k).map fun i => .int .u32 ((z (i % wn) (i / wn) : Nat) : Int)
theorem mkRow_len (z : Nat → Nat → Nat) (wn k : Nat) : (mkRow z wn k).length = k := by simp [mkRow]
theorem mkRow_next (z : Nat → Nat → Nat) (wn y x : Nat) (hx : x < wn) : mkRow z wn (y * wn + (x + 1)) = mkRow z wn (y * wn + x) ++ [.int .u32 ((z x y : Nat) : Int)] := by
  unfold mkRow
  rw [show y * wn + (x + 1) = (y * wn + x) + 1 by omega, List.range_succ, List.map_append, List.map_cons, List.map_nil]
  rw [show (y * wn + x) % wn = x by rw [Nat.add_comm, Nat.add_mul_mod_self_right, Nat.mod_eq_of_lt hx], show (y * wn + x) / wn = y by rw [Nat.add_comm, Nat.add_mul_div_right _ _ (by omega), Nat.div_eq_of_lt hx, Nat.zero_add]]
theorem mkRow_get (z : Nat → Nat → Nat) (wn n k : Nat) (hk : k < n) : (mkRow z wn n)[k]? = some (.int .u32 ((z (k % wn) (k / wn) : Nat) : Int)) := by
  unfold mkRow
  rw [List.getElem?_map, List.getElem?_range hk]
  rfl
theorem pl_make (n : Nat) (hn : n ≤ 1000000000) (W : World) :
    (Instr.makeSlice 53 (.int .i64 0) (.int .i64 (n : Int))).run Try.prog W = .ok (.slice (some ⟨W.heap.size, 0, none⟩) 0 n) (W.alloc (.cells (madeCells #[.int .u32 0] n) 65)) := by
  obtain ⟨i, hi, hz⟩ := Option.map_eq_some_iff.1 u_info
  simp only [Prod.mk.injEq] at hz
  have h := run_make (P := Try.prog) W 53 65 i (.int .u32 0) Try.underlying53 hi hz.1 .i64 .i64 0 n (by omega) (by omega) (by rw [hz.2.2]; omega) (by omega)
  rw [hz.2.1] at h
  simpa [Value.cells] using h
/-- A maker at work: its own box, the answer's, the plane's; the row made so far. -/
structure MkL (w0 : World) (w h : Int) (F : Value) (g1 g2 g3 : Nat) (v : Value) (cs : List Value) (W : World) : Prop where
  mb : W.heap[g1]? = some (.cells #[.int .i64 w, .int .i64 h, F] 132 (0, 0))
  ou : W.heap[g2]? = some (.cells #[.int .i64 0, .int .i64 0, .slice none 0 0] 55 (0, 0))
  pb : W.heap[g3]? = some (.cells #[.int .i64 w, .int .i64 h, v] 55 (0, 0))
  ro : OwnC W w0.heap.size 65 v cs
  be : Below w0.heap.size w0 W
  l1 : w0.heap.size ≤ g1
  l2 : w0.heap.size ≤ g2
  l3 : w0.heap.size ≤ g3
  n1 : g1 ≠ g3
  n2 : g2 ≠ g3
  na : v.ownBlock ≠ some g1 ∧ v.ownBlock ≠ some g2 ∧ v.ownBlock ≠ some g3
section
variable {w0 : World} {w h : Int} {F : Value} {g1 g2 g3 : Nat} {v v' : Value} {cs cs' : List Value} {V V' : World}
theorem MkL.below (h1 : MkL w0 w h F g1 g2 g3 v cs V) (hb : Below V.heap.size V V') : MkL w0 w h F g1 g2 g3 v cs V' :=
  { mb := (hb.block g1 (heap_lt' h1.mb)).trans h1.mb
    ou := (hb.block g2 (heap_lt' h1.ou)).trans h1.ou
    pb := (hb.block g3 (heap_lt' h1.pb)).trans h1.pb
    ro := h1.ro.below hb
    be := ujoin h1.be hb
    l1 := h1.l1, l2 := h1.l2, l3 := h1.l3, n1 := h1.n1, n2 := h1.n2, na := h1.na }
theorem MkL.push (h1 : MkL w0 w h F g1 g2 g3 v cs V) (ho : OwnC V' w0.heap.size 65 v' cs') (hg : V.grownBy V' v.ownBlock) (hb : v'.ownBlock = v.ownBlock ∨ v'.ownBlock = some V.heap.size) (hlt : ∀ k, v.ownBlock = some k → w0.heap.size ≤ k) : MkL w0 w h F g1 g2 g3 v' cs' (V'.setCell ⟨g3, 2, none⟩ v') := by
  have z1 := heap_lt' h1.mb
  have z2 := heap_lt' h1.ou
  have z3 := heap_lt' h1.pb
  have hna := h1.na
  have st : ∀ k, k ≠ g3 → (V'.setCell ⟨g3, 2, none⟩ v').heap[k]? = V'.heap[k]? := fun k hk => Below.heap_setCell _ _ _ _ hk
  have sm : ∀ k, k < V.heap.size → v.ownBlock ≠ some k → V'.heap[k]? = V.heap[k]? := fun k hk hn => hg.block k hk (fun e => hn e.symm)
  have hg3 : V'.heap[g3]? = some (.cells #[.int .i64 w, .int .i64 h, v] 55) := (sm g3 z3 hna.2.2).trans h1.pb
  have hvn : v'.ownBlock ≠ some g1 ∧ v'.ownBlock ≠ some g2 ∧ v'.ownBlock ≠ some g3 := by
    rcases hb with e | e
    · rw [e]; exact hna
    · rw [e]
      refine ⟨fun q => ?_, fun q => ?_, fun q => ?_⟩ <;> (injection q with q; omega)
  exact {
    mb := (st g1 h1.n1).trans ((sm g1 z1 hna.1).trans h1.mb)
    ou := (st g2 h1.n2).trans ((sm g2 z2 hna.2.1).trans h1.ou)
    pb := blk_put hg3 2 v' rfl
    ro := ho.same fun k hk => st k (fun e => by subst e; exact hvn.2.2 hk)
    be := (h1.be.grown hg h1.be.size (fun k e => hlt k (by first | exact e | exact e.symm))).setCell h1.l3 _
    l1 := h1.l1, l2 := h1.l2, l3 := h1.l3, n1 := h1.n1, n2 := h1.n2, na := hvn }
end
/-- A row made, not yet begun. -/
theorem own_made (W : World) (base n : Nat) (hb : base ≤ W.heap.size) (hn : n ≤ 1000000000) : OwnC (W.alloc (.cells (madeCells #[.int .u32 0] n) 65)) base 65 (.slice (some ⟨W.heap.size, 0, none⟩) 0 n) [] :=
  ⟨rfl, .inr ⟨W.heap.size, n, _, rfl, hb, heap_alloc_new W _, Nat.zero_le _, by unfold maxLen; omega, by rw [arrU_made, arrU]; simp, rfl⟩⟩
/-- What a maker makes. -/
def MadeEnd (w0 : World) (w h : Int) (z : Nat → Nat → Nat) (e : Ending) (w' : World) : Prop := ∃ A c, e = .returned (.agg (plC w h A (w * h).toNat c)) ∧ RowU w' A (w * h).toNat (fun k => z (k % w.toNat) (k / w.toNat)) ∧ (∀ ad, A = some ad → w0.heap.size ≤ ad.block) ∧ Below w0.heap.size w0 w'

theorem na_of {g a b c n m : Nat} (h1 : g ≠ a) (h2 : g ≠ b) (h3 : g ≠ c) : (Value.slice (some ⟨g, 0, none⟩) n m).ownBlock ≠ some a ∧ (Value.slice (some ⟨g, 0, none⟩) n m).ownBlock ≠ some b ∧ (Value.slice (some ⟨g, 0, none⟩) n m).ownBlock ≠ some c :=
  ⟨fun e => h1 (Option.some.inj e), fun e => h2 (Option.some.inj e), fun e => h3 (Option.some.inj e)⟩
theorem mk_start1 {w0 w2 : World} {w h : Int} {F : Value} {N : Nat} (hN : N ≤ 65536) (h0 : w2.heap[w0.heap.size]? = some (.cells #[.int .i64 w, .int .i64 h, F] 132 (0, 0)) ∧ w2.heap[w0.heap.size + 1]? = some (.cells #[.int .i64 0, .int .i64 0, .slice none 0 0] 55 (0, 0)) ∧ Below w0.heap.size w0 w2 ∧ w2.heap.size = w0.heap.size + 2) :
    MkL w0 w h F w0.heap.size (w0.heap.size + 1) (w2.heap.size + 1) (.slice (some ⟨w2.heap.size, 0, none⟩) 0 N) [] ((w2.alloc (.cells (madeCells #[.int .u32 0] N) 65)).alloc (.cells #[.int .i64 w, .int .i64 h, .slice (some ⟨w2.heap.size, 0, none⟩) 0 N] 55)).drew := by
  obtain ⟨h1, h2, h3, h4⟩ := h0
  have o1 := own_made w2 w0.heap.size N (by omega) (by omega)
  obtain ⟨w3, e3⟩ : ∃ w3, w3 = w2.alloc (.cells (madeCells #[.int .u32 0] N) 65) := ⟨_, rfl⟩
  have b3 : Below w2.heap.size w2 w3 := by rw [e3]; exact (Below.refl _ _).alloc (Nat.le_refl _) _
  have s3 : w3.heap.size = w2.heap.size + 1 := by rw [e3, World.size_alloc]
  rw [← e3] at o1 ⊢
  have q := heap_alloc_new w3 (.cells #[.int .i64 w, .int .i64 h, .slice (some ⟨w2.heap.size, 0, none⟩) 0 N] 55)
  rw [s3] at q
  obtain ⟨w4, e4⟩ : ∃ w4, w4 = w3.alloc (.cells #[.int .i64 w, .int .i64 h, .slice (some ⟨w2.heap.size, 0, none⟩) 0 N] 55) := ⟨_, rfl⟩
  have b4 : Below w3.heap.size w3 w4 := by rw [e4]; exact (Below.refl _ _).alloc (Nat.le_refl _) _
  rw [← e4] at q ⊢
  have bd : Below w4.heap.size w4 w4.drew := (Below.refl _ _).drew
  refine MkL.below ?_ bd
  exact {
    mb := (b4.block _ (by omega)).trans ((b3.block _ (by omega)).trans h1)
    ou := (b4.block _ (by omega)).trans ((b3.block _ (by omega)).trans h2)
    pb := q
    ro := o1.below b4
    be := ujoin (ujoin h3 b3) b4
    l1 := Nat.le_refl _, l2 := by omega, l3 := by omega, n1 := by omega, n2 := by omega
    na := na_of (by omega) (by omega) (by omega) }
theorem mk_start2 {w0 w2 : World} {w h : Int} {F : Value} {N : Nat} (hN : N ≤ 65536) (h0 : w2.heap[w0.heap.size]? = some (.cells #[.int .i64 w, .int .i64 h, F] 132 (0, 0)) ∧ w2.heap[w0.heap.size + 1]? = some (.cells #[.int .i64 0, .int .i64 0, .slice none 0 0] 55 (0, 0)) ∧ Below w0.heap.size w0 w2 ∧ w2.heap.size = w0.heap.size + 2) :
    MkL w0 w h F w0.heap.size (w0.heap.size + 1) w2.heap.size (.slice (some ⟨w2.heap.size + 1, 0, none⟩) 0 N) [] ((w2.alloc (.cells #[.int .i64 w, .int .i64 h, .slice (some ⟨w2.heap.size + 1, 0, none⟩) 0 N] 55)).alloc (.cells (madeCells #[.int .u32 0] N) 65)).drew := by
  obtain ⟨h1, h2, h3, h4⟩ := h0
  have q := heap_alloc_new w2 (.cells #[.int .i64 w, .int .i64 h, .slice (some ⟨w2.heap.size + 1, 0, none⟩) 0 N] 55)
  obtain ⟨w3, e3⟩ : ∃ w3, w3 = w2.alloc (.cells #[.int .i64 w, .int .i64 h, .slice (some ⟨w2.heap.size + 1, 0, none⟩) 0 N] 55) := ⟨_, rfl⟩
  have b3 : Below w2.heap.size w2 w3 := by rw [e3]; exact (Below.refl _ _).alloc (Nat.le_refl _) _
  have s3 : w3.heap.size = w2.heap.size + 1 := by rw [e3, World.size_alloc]
  rw [← e3] at q ⊢
  have o1 := own_made w3 w0.heap.size N (by omega) (by omega)
  rw [s3] at o1
  obtain ⟨w4, e4⟩ : ∃ w4, w4 = w3.alloc (.cells (madeCells #[.int .u32 0] N) 65) := ⟨_, rfl⟩
  have b4 : Below w3.heap.size w3 w4 := by rw [e4]; exact (Below.refl _ _).alloc (Nat.le_refl _) _
  rw [← e4] at o1 ⊢
  have bd : Below w4.heap.size w4 w4.drew := (Below.refl _ _).drew
  refine MkL.below ?_ bd
  exact {
    mb := (b4.block _ (by omega)).trans ((b3.block _ (by omega)).trans h1)
    ou := (b4.block _ (by omega)).trans ((b3.block _ (by omega)).trans h2)
    pb := (b4.block _ (by omega)).trans q
    ro := o1
    be := ujoin (ujoin h3 b3) b4
    l1 := Nat.le_refl _, l2 := by omega, l3 := by omega, n1 := by omega, n2 := by omega
    na := na_of (by omega) (by omega) (by omega) }
/-- What a round of a maker reads. -/
def MkS (g1 g3 : Nat) (F v : Value) (W : World) : Prop := W.cell? ⟨g3, 2, none⟩ = some v ∧ W.cell? ⟨g1, 2, none⟩ = some F
theorem made_end {w0 W : World} {wn hn : Nat} {F : Value} {g1 g2 g3 : Nat} {A : Option Addr} {n0 c0 : Nat} {z : Nat → Nat → Nat} (h : MkL w0 (wn : Int) (hn : Int) F g1 g2 g3 (.slice A n0 c0) (mkRow z wn (hn * wn)) W) :
    MadeEnd w0 (wn : Int) (hn : Int) z (.returned (.agg #[.int .i64 (wn : Int), .int .i64 (hn : Int), .slice A n0 c0])) (((W.setCell ⟨g2, 0, none⟩ (.int .i64 (wn : Int))).setCell ⟨g2, 1, none⟩ (.int .i64 (hn : Int))).setCell ⟨g2, 2, none⟩ (.slice A n0 c0)) := by
  obtain ⟨A', c', e, hc, hblk, hr⟩ := h.ro.row
  rw [mkRow_len] at e hr
  injection e with e1 e2 e3
  subst e1 e2 e3
  have eN : ((wn : Int) * (hn : Int)).toNat = hn * wn := by rw [← Int.natCast_mul, Int.toNat_natCast, Nat.mul_comm]
  have hl := h.ro.lt
  have hna := h.na
  unfold MadeEnd plC
  rw [eN, Int.toNat_natCast]
  refine ⟨A, c0, rfl, ?_, fun ad e => (hl ad.block (by rw [e]; rfl)).1, st3_below h.be h.l2⟩
  have hrow : RowU W A (hn * wn) (fun k => z (k % wn) (k / wn)) := fun hn1 => by
    obtain ⟨ad, e, hcl⟩ := hr hn1
    exact ⟨ad, e, fun i hi => hcl i _ (mkRow_get z wn _ i hi)⟩
  have hf : ∀ ad, A = some ad → ad.block ≠ g2 := fun ad e q => hna.2.1 (by rw [e, ← q]; rfl)
  exact ((hrow.far _ _ hf).far _ _ hf).far _ _ hf
end Go.Proofs.Ytdcpeeolfgohmaa
