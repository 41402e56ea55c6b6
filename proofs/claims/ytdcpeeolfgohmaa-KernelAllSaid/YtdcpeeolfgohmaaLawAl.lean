/- halidelaw9.KernelAll: the walk. -/
import Derived.Test.YtdcpeeolfgohmaaAllC
import Derived.Test.YtdcpeeolfgohmaaRefT
namespace Go.Proofs.Ytdcpeeolfgohmaa
open Go.RowKit Go.Proofs.YtdcpeeolfgohmaaW.PrintWords
set_option linter.unusedSimpArgs false
set_option linter.unusedVariables false
attribute [local go_sem] Oper.semAt_some

/-- The law's boxes. -/
structure AlB (b : Nat) (kind from' tt stop : Int) (W : World) : Prop where
  c0 : W.cell? ⟨b, 0, none⟩ = some (.int .i64 kind)
  c1 : W.cell? ⟨b + 1, 0, none⟩ = some (.int .i64 from')
  c2 : W.cell? ⟨b + 2, 0, none⟩ = some (.int .i64 tt)
  c3 : W.cell? ⟨b + 3, 0, none⟩ = some (.int .i64 stop)
  c4 : ∃ v, W.cell? ⟨b + 4, 0, none⟩ = some (.bool v)
  f4 : W.frozen? ⟨b + 4, 0, none⟩ = false
theorem AlB.keep {b : Nat} {kind from' tt stop : Int} {W W' : World} (h : AlB b kind from' tt stop W) (hs : ∀ k, b ≤ k → k < b + 5 → W'.heap[k]? = W.heap[k]?) : AlB b kind from' tt stop W' where
  c0 := cell_same (hs _ (by omega) (by omega)) h.c0
  c1 := cell_same (hs _ (by omega) (by omega)) h.c1
  c2 := cell_same (hs _ (by omega) (by omega)) h.c2
  c3 := cell_same (hs _ (by omega) (by omega)) h.c3
  c4 := by obtain ⟨v, h4⟩ := h.c4; exact ⟨v, cell_same (hs _ (by omega) (by omega)) h4⟩
  f4 := (World.frozen?_of_block (a := ⟨b + 4, 0, none⟩) (hs (b + 4) (by omega) (by omega))).trans h.f4
theorem AlB.size {b : Nat} {kind from' tt stop : Int} {W : World} (h : AlB b kind from' tt stop W) : b + 5 ≤ W.heap.size := by
  obtain ⟨v, h4⟩ := h.c4
  have := World.block_lt_of_cell? _ _ h4
  simp at this
  omega
theorem AlB.below {b : Nat} {kind from' tt stop : Int} {W W' : World} (h : AlB b kind from' tt stop W) (hb : Below W.heap.size W W') : AlB b kind from' tt stop W' := h.keep fun k _ hk => hb.block k (by have := h.size; omega)
theorem AlB.start (w : World) (kind from' tt stop : Int) : AlB w.heap.size kind from' tt stop (((((w.alloc (.cells #[.int .i64 kind] 3)).alloc (.cells #[.int .i64 from'] 3)).alloc (.cells #[.int .i64 tt] 3)).alloc (.cells #[.int .i64 stop] 3)).alloc (.cells #[.bool false] 4)) ∧
    Below w.heap.size w (((((w.alloc (.cells #[.int .i64 kind] 3)).alloc (.cells #[.int .i64 from'] 3)).alloc (.cells #[.int .i64 tt] 3)).alloc (.cells #[.int .i64 stop] 3)).alloc (.cells #[.bool false] 4)) := by
  obtain ⟨b, e1, -, hs, k1, k2, k3, hb⟩ := all_boxes w kind from' tt
  injection e1 with e1
  injection e1 with e1 e2 e3
  have e4 : b = w.heap.size := by injection e3 with e3; injection e3 with _ e3; injection e3 with e3; injection e3 with e3; injection e3 with e3; injection e3 with e3; exact e3.symm
  subst e4
  obtain ⟨w3, e5⟩ : ∃ w3, w3 = ((w.alloc (.cells #[.int .i64 kind] 3)).alloc (.cells #[.int .i64 from'] 3)).alloc (.cells #[.int .i64 tt] 3) := ⟨_, rfl⟩
  have s3 : w3.heap.size = w.heap.size + 3 := by rw [e5]; simp
  rw [← e5] at k1 k2 k3 hb ⊢
  obtain ⟨w4, e6⟩ : ∃ w4, w4 = w3.alloc (.cells #[.int .i64 stop] 3) := ⟨_, rfl⟩
  have s4 : w4.heap.size = w.heap.size + 4 := by rw [e6]; simp [s3]
  rw [← e6]
  have b4 : Below w3.heap.size w3 w4 := by rw [e6]; exact (Below.refl _ _).alloc (Nat.le_refl _) _
  have b5 : Below w4.heap.size w4 (w4.alloc (.cells #[.bool false] 4)) := (Below.refl _ _).alloc (Nat.le_refl _) _
  have k4 : w4.cell? ⟨w.heap.size + 3, 0, none⟩ = some (.int .i64 stop) := by rw [← s3, e6]; exact ucell (heap_alloc_new w3 _) 0
  have h5 := heap_alloc_new w4 (.cells #[.bool false] 4)
  rw [s4] at h5
  have tr : ∀ {k : Nat} {v : Value}, k < w.heap.size + 3 → w3.cell? ⟨k, 0, none⟩ = some v → (w4.alloc (.cells #[.bool false] 4)).cell? ⟨k, 0, none⟩ = some v := fun {k v} hk h => (b5.cell (p := ⟨k, 0, none⟩) (by simp; omega)).trans ((b4.cell (p := ⟨k, 0, none⟩) (by simp; omega)).trans h)
  exact ⟨⟨tr (by omega) k1, tr (by omega) k2, tr (by omega) k3, (b5.cell (p := ⟨w.heap.size + 3, 0, none⟩) (by simp; omega)).trans k4, ⟨false, ucell h5 0⟩, ufree h5 0⟩, ujoin (ujoin hb b4) b5⟩

/-- What holds between two rounds: s rounds are counted at nk. -/
structure AlH (g0 nf nk b : Nat) (kind from' tt stop er : Int) (D : Option Nat) (s : Nat) (W : World) : Prop where
  bx : AlB g0 kind from' tt stop W
  cf : W.cell? ⟨nf, 0, none⟩ = some (.int .i64 er)
  ck : W.cell? ⟨nk, 0, none⟩ = some (.int .i64 (s : Int))
  fk : W.frozen? ⟨nk, 0, none⟩ = false
  k0 : W.cell? ⟨b, 0, none⟩ = some (.int .i64 kind)
  k1 : W.cell? ⟨b + 1, 0, none⟩ = some (.int .i64 from')
  k2 : W.cell? ⟨b + 2, 0, none⟩ = some (.int .i64 tt)
  dd : ∀ d, D = some d → W.heap[d]? = some (.deferred (some []))
def AlO (g0 nf nk b : Nat) (D : Option Nat) (k : Nat) : Prop := (g0 ≤ k ∧ k < g0 + 5) ∨ k = nf ∨ k = nk ∨ (b ≤ k ∧ k < b + 3) ∨ D = some k
section
variable {g0 nf nk b : Nat} {kind from' tt stop er : Int} {D : Option Nat} {s : Nat} {W W' : World}
theorem AlH.keep (h : AlH g0 nf nk b kind from' tt stop er D s W) (hs : ∀ k, AlO g0 nf nk b D k → W'.heap[k]? = W.heap[k]?) : AlH g0 nf nk b kind from' tt stop er D s W' where
  bx := h.bx.keep fun k h1 h2 => hs k (.inl ⟨h1, h2⟩)
  cf := cell_same (hs _ (.inr (.inl rfl))) h.cf
  ck := cell_same (hs _ (.inr (.inr (.inl rfl)))) h.ck
  fk := (World.frozen?_of_block (a := ⟨nk, 0, none⟩) (hs nk (.inr (.inr (.inl rfl))))).trans h.fk
  k0 := cell_same (hs _ (.inr (.inr (.inr (.inl ⟨by omega, by omega⟩))))) h.k0
  k1 := cell_same (hs _ (.inr (.inr (.inr (.inl ⟨by omega, by omega⟩))))) h.k1
  k2 := cell_same (hs _ (.inr (.inr (.inr (.inl ⟨by omega, by omega⟩))))) h.k2
  dd := fun d e => (hs d (.inr (.inr (.inr (.inr e))))).trans (h.dd d e)
theorem AlH.put (h : AlH g0 nf nk b kind from' tt stop er D s W) (h1 : g0 + 5 ≤ nk) (h2 : nf < nk) (h3 : b + 3 ≤ nk) (h4 : ∀ d, D = some d → d < nk) (s' : Nat) : AlH g0 nf nk b kind from' tt stop er D s' (W.setCell ⟨nk, 0, none⟩ (.int .i64 (s' : Int))) := by
  have hs : ∀ k, k ≠ nk → (W.setCell ⟨nk, 0, none⟩ (.int .i64 (s' : Int))).heap[k]? = W.heap[k]? := fun k hk => Below.heap_setCell _ _ _ _ hk
  exact {
    bx := h.bx.keep fun k _ _ => hs k (by omega)
    cf := cell_same (hs _ (by omega)) h.cf
    ck := World.cell?_setCell_same' _ _ _ (by rw [h.ck]; rfl)
    fk := by rw [World.frozen?_setCell]; exact h.fk
    k0 := cell_same (hs _ (by omega)) h.k0
    k1 := cell_same (hs _ (by omega)) h.k1
    k2 := cell_same (hs _ (by omega)) h.k2
    dd := fun d e => (hs d (by have := h4 d e; omega)).trans (h.dd d e) }
end
theorem heap_lt' {W : World} {k : Nat} {o : Obj} (h : W.heap[k]? = some o) : k < W.heap.size := (Array.getElem?_eq_some_iff.1 h).1
theorem rowT_put {W : World} {A : Option Addr} {n : Nat} {p q : Nat → Int} (h : RowT W A n p q) {r : Nat} {o : Obj} (o' : Obj) (ho : W.heap[r]? = some o) (hc : o.isCells = false) : RowT (W.putObj r o') A n p q := fun hn => by
  obtain ⟨ad, e, hcl⟩ := h hn
  refine ⟨ad, e, fun i hi => ?_⟩
  obtain ⟨h1, h2⟩ := hcl i hi
  exact ⟨cell_kept h1 (grownBy_putObj' W r o') (fun k e => by cases e; exact ⟨o, ho, hc⟩), cell_kept h2 (grownBy_putObj' W r o') (fun k e => by cases e; exact ⟨o, ho, hc⟩)⟩
theorem tapR_put {kind from' tt : Int} {B : Nat → Prop} {pre : List TapX} {x : TapX} {W : World} (r : Nat) (o o' : Obj) (h : TapR kind from' tt B pre x W) (ho : W.heap[r]? = some o) (hc : o.isCells = false) : TapR kind from' tt B pre x (W.putObj r o') := ⟨h.1, h.2.1, h.2.2.1, rowT_put h.2.2.2 o' ho hc⟩

theorem al_ret {w W : World} {g D1 D2 : Nat} {v4 : Value} (c4 : W.cell? ⟨g, 0, none⟩ = some v4) (h2 : W.heap[D2]? = some (.deferred (some []))) (h1 : W.heap[D1]? = some (.deferred (some []))) (hne : D1 ≠ D2) (hb : Below w.heap.size w W) (hg : w.heap.size ≤ g) (hd1 : w.heap.size ≤ D1) (hd2 : w.heap.size ≤ D2) :
    (Instr.takeDeferred D2).run Try.prog (W.setCell ⟨g, 0, none⟩ (.bool true)) = .ok [] ((W.setCell ⟨g, 0, none⟩ (.bool true)).putObj D2 (.deferred none)) ∧
    (Instr.takeDeferred D1).run Try.prog ((W.setCell ⟨g, 0, none⟩ (.bool true)).putObj D2 (.deferred none)) = .ok [] (((W.setCell ⟨g, 0, none⟩ (.bool true)).putObj D2 (.deferred none)).putObj D1 (.deferred none)) ∧
    (((W.setCell ⟨g, 0, none⟩ (.bool true)).putObj D2 (.deferred none)).putObj D1 (.deferred none)).cell? ⟨g, 0, none⟩ = some (.bool true) ∧
    Below w.heap.size w (((W.setCell ⟨g, 0, none⟩ (.bool true)).putObj D2 (.deferred none)).putObj D1 (.deferred none)) := by
  have k2 := (KeepsOthers.setCell W ⟨g, 0, none⟩ (.bool true)).same D2 _ h2 rfl
  have k1 := (KeepsOthers.setCell W ⟨g, 0, none⟩ (.bool true)).same D1 _ h1 rfl
  have k1' : ((W.setCell ⟨g, 0, none⟩ (.bool true)).putObj D2 (.deferred none)).heap[D1]? = some (.deferred (some [])) := (World.putObj_heap_other hne).trans k1
  have hc := World.cell?_setCell_same' W ⟨g, 0, none⟩ (.bool true) (by rw [c4]; rfl)
  have hc2 := cell_kept hc (grownBy_putObj' _ D2 (.deferred none)) (fun r e => by cases e; exact ⟨_, k2, rfl⟩)
  have hc3 := cell_kept hc2 (grownBy_putObj' _ D1 (.deferred none)) (fun r e => by cases e; exact ⟨_, k1', rfl⟩)
  have hb1 := hb.setCell (p := ⟨g, 0, none⟩) hg (.bool true)
  have hb2 := hb1.grown (grownBy_putObj' _ D2 (.deferred none)) hb1.size (fun k e => by cases e; exact hd2)
  exact ⟨run_takeDeferred k2, run_takeDeferred k1', hc3, hb2.grown (grownBy_putObj' _ D1 (.deferred none)) hb2.size (fun k e => by cases e; exact hd1)⟩

set_option maxHeartbeats 6400000 in
set_option maxRecDepth 100000 in
theorem lawAll_in (kind from' tt stop : Int) (w : World) (htt : tt ≤ 200) :
    CallsIn Fence.wide 9 Try.prog 3 #[.int .i64 kind, .int .i64 from', .int .i64 tt, .int .i64 stop] w fun e w' => e = .returned (.bool true) ∧ Below w.heap.size w w' := by
  have hbz : ¬ (200 : Int) < tt := by omega
  have HKN := Lib.hid fun W => callsIn_wide (n := 9 - 1).2 (known_calls W)
  have HAL := Lib.hid fun W => callsIn_wide (n := 9 - 1).2 (all_calls W kind from' tt)
  have HRT := Lib.hid fun W => callsIn_wide (n := 9 - 1).2 (rTaps_told kind from' tt 0 W)
  refine callsIn_of_wp_marks Try.func3 rfl trivial ?_ rfl
  simp only [Try.ntmps3, List.size_toArray, List.length_cons, List.length_nil, Nat.reduceAdd, Nat.reduceSub, Array.replicate_succ, Array.replicate_zero, List.push_toArray, List.append_toArray, List.nil_append, List.cons_append]
  gi_wp2_with (first
    | (refine ⟨trivial, ?_⟩; gi_at_call 12; refine (HKN.out _).mono ?_; rintro e1 w1 ⟨rfl, hb⟩; have HX1 := Lib.hid ((AlB.start w kind from' tt stop).1.below hb); have HB1 := Lib.hid (ujoin (AlB.start w kind from' tt stop).2 hb); have x0 := HX1.out.c0; have x1 := HX1.out.c1; have x2 := HX1.out.c2; clear hb)
    | (refine ⟨trivial, ?_⟩; gi_at_call 13; refine (HAL.out _).mono ?_; rintro e2 w2 ⟨b, rfl, hb0, hb3, k1, k2, k3, hb⟩; have HX2 := Lib.hid (HX1.out.below hb); have HB2 := Lib.hid (ujoin HB1.out hb); have K := Lib.hid (And.intro hb0 (And.intro hb3 (And.intro k1 (And.intro k2 k3)))); clear x0 x1 x2 hb hb0 hb3 k1 k2 k3; have x0 := HX2.out.c0; have x1 := HX2.out.c1; have x2 := HX2.out.c2)
    | (refine ⟨trivial, ?_⟩; gi_at_call 14; refine (HRT.out _).mono ?_; rintro e3 w3 ⟨A0, l0, c0, rfl, -, -, hb⟩; have HX3 := Lib.hid (HX2.out.below hb); have HB3 := Lib.hid (ujoin HB2.out hb); have HBB := Lib.hid hb; clear x0 x1 x2 hb))
  have hk := K.out
  have hz1 := HX1.out.size
  have hz3 := HBB.out.size
  obtain ⟨er, eer⟩ : ∃ er, er = tapsErr kind from' tt 0 := ⟨_, rfl⟩
  have EER := Lib.hid eer
  rw [← eer]
  obtain ⟨nf, enf⟩ : ∃ nf, nf = w3.heap.size := ⟨_, rfl⟩
  have sz4 : ((w3.alloc (.cells #[.int .i64 er] 3)).alloc (.cells #[.int .i64 0] 3)).heap.size = nf + 1 + 1 := by rw [enf]; simp
  have hb34 : Below w3.heap.size w3 ((w3.alloc (.cells #[.int .i64 er] 3)).alloc (.cells #[.int .i64 0] 3)) := ((Below.refl _ _).alloc (Nat.le_refl _) _).alloc (by simp) _
  have H0 : Hid (AlH w.heap.size nf (nf + 1) b kind from' tt stop er none 0 ((w3.alloc (.cells #[.int .i64 er] 3)).alloc (.cells #[.int .i64 0] 3))) := by
    have q1 := heap_alloc_new w3 (.cells #[.int .i64 er] 3)
    have q2 := heap_alloc_new (w3.alloc (.cells #[.int .i64 er] 3)) (.cells #[.int .i64 0] 3)
    rw [← enf] at q1
    rw [show (w3.alloc (.cells #[.int .i64 er] 3)).heap.size = nf + 1 by rw [enf]; simp] at q2
    have q3 : ((w3.alloc (.cells #[.int .i64 er] 3)).alloc (.cells #[.int .i64 0] 3)).heap[nf]? = some (.cells #[.int .i64 er] 3) := (Below.heap_alloc _ _ _ (by rw [enf]; simp)).trans q1
    have tr : ∀ {k : Nat} {v : Value}, w2.cell? ⟨k, 0, none⟩ = some v → ((w3.alloc (.cells #[.int .i64 er] 3)).alloc (.cells #[.int .i64 0] 3)).cell? ⟨k, 0, none⟩ = some v := fun {k v} h => by
      have hl := World.block_lt_of_cell? _ _ h
      have h2 := (HBB.out.cell (p := ⟨k, 0, none⟩) hl).trans h
      exact (hb34.cell (p := ⟨k, 0, none⟩) (World.block_lt_of_cell? _ _ h2)).trans h2
    exact (show AlH _ _ _ _ _ _ _ _ _ _ _ _ from ⟨HX3.out.below hb34, ucell q3 0, ucell q2 0, ufree q2 0, tr hk.2.2.1, tr hk.2.2.2.1, tr hk.2.2.2.2, fun d e => by cases e⟩)
  have HB4 : Hid (Below w.heap.size w ((w3.alloc (.cells #[.int .i64 er] 3)).alloc (.cells #[.int .i64 0] 3))) := (show Below _ _ _ from ujoin HB3.out hb34)
  have hnb : w.heap.size + 5 ≤ b ∧ b + 3 ≤ nf := by omega
  clear HX1 HX2 HX3 HB1 HB2 HB3 HBB K hk hz1 hz3 hb34 eer
  rw [← enf]
  clear enf
  generalize (w3.alloc (.cells #[.int .i64 er] 3)).alloc (.cells #[.int .i64 0] 3) = W4 at H0 HB4 sz4 ⊢
  have hO1 : ∀ k, AlO w.heap.size nf (nf + 1) b none k → k < W4.heap.size := fun k hk => by
    rw [sz4]
    rcases hk with h | h | h | h | h
    · omega
    · omega
    · omega
    · omega
    · cases h
  have hH1 : ∀ (pre : List TapX) (W W' : World), AlH w.heap.size nf (nf + 1) b kind from' tt stop er none pre.length W → (∀ k, AlO w.heap.size nf (nf + 1) b none k → W'.heap[k]? = W.heap[k]?) → AlH w.heap.size nf (nf + 1) b kind from' tt stop er none pre.length W' := fun pre W W' h hs => h.keep hs
  have hX1 : ∀ (c : Code) (pre : List TapX) (W W' : World), (c = .exit 0 ∧ ∃ s, AlH w.heap.size nf (nf + 1) b kind from' tt stop er none s W) → (∀ k, AlO w.heap.size nf (nf + 1) b none k → W'.heap[k]? = W.heap[k]?) → (c = .exit 0 ∧ ∃ s, AlH w.heap.size nf (nf + 1) b kind from' tt stop er none s W') := fun c pre W W' h hs => ⟨h.1, h.2.elim fun s h2 => ⟨s, h2.keep hs⟩⟩
  refine wpIn_rangeFunc_G (F := Fence.wide) (n := 9) rfl (by decide) (gf := 51) (lb := #[.pointer (some ⟨b + 2, 0, none⟩), .pointer (some ⟨b, 0, none⟩), .pointer (some ⟨b + 1, 0, none⟩)]) rfl trivial (enters_of Try.func51 (by kernel_rfl) rfl)
    (all_stops kind from' tt (by omega) W4 b H0.out.k0 H0.out.k1 H0.out.k2 (9 - 1) (by decide)) (Below.refl _ _) (fun k hk => by omega) (fun _ => rfl) (fun B pre x W r o o' h ho hc => tapR_put r o o' h ho hc)
    (Held w W4.heap.size (AlO w.heap.size nf (nf + 1) b none) (fun (pre : List TapX) W => AlH w.heap.size nf (nf + 1) b kind from' tt stop er none pre.length W))
    (fun c => Held w W4.heap.size (AlO w.heap.size nf (nf + 1) b none) (fun (pre : List TapX) W => c = .exit 0 ∧ ∃ s, AlH w.heap.size nf (nf + 1) b kind from' tt stop er none s W))
    (ownB_held hO1 hH1 HB4.out.size) (fun c => ownB_held hO1 (hX1 c) HB4.out.size) ⟨H0.out, HB4.out, Nat.le_refl _, fun k h => h.elim⟩ ?ab ?done ?stop
  case ab =>
    apply Exists.intro
    apply And.intro
    · intro l x W K hK
      dsimp only [encT]
      gi_wp2
      exact hK
    · rintro l B pre ⟨xi, xA, xc, xl⟩ W hI ⟨hxi, hxe, hxt, hxr⟩ hlen
      dsimp only at hxi hxe hxt hxr ⊢
      subst hxi
      have her : er = 0 := by
        by_cases h : tapsErr kind from' tt 0 = 0
        · rw [EER.out, h]
        · unfold allN at hlen; rw [if_neg h] at hlen; omega
      have HI := Lib.hid hI
      have c0 := hI.h.bx.c0
      have c1 := hI.h.bx.c1
      have c2 := hI.h.bx.c2
      have HR := Lib.hid hxr
      have HRT2 : Hid (∀ W, CallsIn (Fence.wide.inRound l) (9 - 1 - 1 - 1) Try.prog 14 #[.int .i64 kind, .int .i64 from', .int .i64 tt, .int .i64 (pre.length : Int)] W fun e w' => ∃ A' c', e = .returned (.tuple #[.slice A' xl.length c', .int .i64 0]) ∧ RowT w' A' xl.length (tapP xl) (tapW xl) ∧ Below W.heap.size W w') := (show ∀ W, _ from fun W => CallsIn.inRound l (callsIn_wide.2 ((rTaps_told kind from' tt pre.length W).mono fun e w' ⟨A', l', c', h1, h2, h3, h4⟩ => by
        have el := h2.unique hxt
        subst el
        exact ⟨A', c', by rw [h1, hxe], own_rowT h3, h4⟩)))
      have HST := Lib.hid fun W (A' : Option Addr) c' (h1 : RowT W xA xl.length (tapP xl) (tapW xl)) (h2 : RowT W A' xl.length (tapP xl) (tapW xl)) => CallsIn.inRound l (callsIn_wide (n := 9 - 1 - 1 - 1).2 (sameTaps_yes W xA A' xl.length xc c' _ _ _ _ h1 h2 (by have := hxt.len; omega) fun k _ => ⟨rfl, rfl⟩))
      have HBB : Hid (∀ W2, Below W.heap.size W W2 → W2.cell? ⟨nf, 0, none⟩ = some (.int .i64 0) ∧ W2.cell? ⟨nf + 1, 0, none⟩ = some (.int .i64 (pre.length : Int)) ∧ W2.frozen? ⟨nf + 1, 0, none⟩ = false ∧ W2.cell? ⟨w.heap.size + 1 + 1 + 1, 0, none⟩ = some (.int .i64 stop)) := (show ∀ W2, _ → _ from fun W2 hb => by
        have h2 := (hI.below hO1 hH1 hb).h
        exact ⟨by rw [← her]; exact h2.cf, h2.ck, h2.fk, h2.bx.c3⟩)
      have HFIN : Hid (∀ W2, Below W.heap.size W W2 → Held w W4.heap.size (AlO w.heap.size nf (nf + 1) b none) (fun (pre : List TapX) W => AlH w.heap.size nf (nf + 1) b kind from' tt stop er none pre.length W) B (pre ++ [⟨pre.length, xA, xc, xl⟩]) (W2.setCell ⟨nf + 1, 0, none⟩ (.int .i64 ((pre.length : Int) + 1)))) := (show ∀ W2, _ → _ from fun W2 hb => by
        have h2 := hI.below hO1 hH1 hb
        refine h2.setCell (by show w.heap.size ≤ nf + 1; omega) ?_
        have h3 := h2.h.put (by omega) (by omega) (by omega) (fun d e => by cases e) (pre.length + 1)
        rw [List.length_append]
        exact h3)
      have HKF : Hid (∀ W2, Below W.heap.size W W2 → KeepsFrom W4.heap.size W (W2.setCell ⟨nf + 1, 0, none⟩ (.int .i64 ((pre.length : Int) + 1))) ∧ KeepB (fun k => B k ∨ (k = b ∨ k = b + 1 ∨ k = b + 2)) W (W2.setCell ⟨nf + 1, 0, none⟩ (.int .i64 ((pre.length : Int) + 1)))) := (show ∀ W2, _ → _ from fun W2 hb => by
        have hz := hI.sz
        refine ⟨(keepsFrom_below hb).trans ((KeepsOthers.setCell _ _ _).from _), (keepB_below (fun k hk => ?_) hb).trans (keepB_setCell (fun hk => ?_))⟩
        · rcases hk with hk | hk
          · exact (hI.av k hk).2.2
          · omega
        · rcases hk with hk | hk
          · exact (hI.av _ hk).2.1 (.inr (.inr (.inl rfl)))
          · have hk : nf + 1 = b ∨ nf + 1 = b + 1 ∨ nf + 1 = b + 2 := hk
            omega)
      have hlenz : pre.length < 1000 := by unfold allN at hlen; split at hlen <;> omega
      have hn0 : ((pre.length : Int) != (pre.length : Int)) = false := bne_self_eq_false _
      clear hI hxe hxt hxr hlen her
      gi_wp2_with (first
        | (refine ⟨trivial, ?_⟩; gi_at_call 14; refine (HRT2.out _).mono ?_; rintro e5 w5 ⟨A', c', rfl, hr, hb⟩; have HR5 := Lib.hid hr; have HX5 := Lib.hid (HR.out.below hb); have HB5 := Lib.hid hb; obtain ⟨d1, d2, d3, d4⟩ := HBB.out _ hb; clear c0 c1 c2 hr hb)
        | (refine ⟨trivial, ?_⟩; gi_at_call 15; refine (HST.out _ _ _ HX5.out HR5.out).mono ?_; rintro e6 w6 ⟨rfl, hd⟩; have HB6 := Lib.hid (ujoin HB5.out hd.below); clear d1 d2 d3 d4 hd; obtain ⟨d1, d2, d3, d4⟩ := HBB.out _ HB6.out))
      · exact ⟨(HKF.out _ HB6.out).1, (HFIN.out _ HB6.out).map fun W h => ⟨rfl, _, h⟩⟩
      · exact ⟨(HKF.out _ HB6.out).1, (HKF.out _ HB6.out).2, HFIN.out _ HB6.out⟩
  case' done =>
    rintro D1 B xs W hD hS hI hK
    have hJ : Hid (∃ s, AlH w.heap.size nf (nf + 1) b kind from' tt stop er none s W) := (show ∃ s, _ from ⟨_, hI.h⟩)
    have hB := hI.bel
    have hsz := hI.sz
    clear hS hI
    gi_wp2
  case' stop =>
    rintro D1 c B xs W hD hS hI hK
    obtain ⟨rfl, hs⟩ := hI.h
    have hJ : Hid (∃ s, AlH w.heap.size nf (nf + 1) b kind from' tt stop er none s W) := (show ∃ s, _ from hs)
    have hB := hI.bel
    have hsz := hI.sz
    clear hS hI hs
    gi_wp2
  all_goals
    clear hH1 hX1 hO1 H0 HB4 HRT HAL HKN hbz
    obtain ⟨s0, hA⟩ := hJ.out
    have hD1 := heap_lt' hK
    obtain ⟨nk, enk⟩ : ∃ nk, nk = W.heap.size := ⟨_, rfl⟩
    have hb5 : Below W.heap.size W (W.alloc (.cells #[.int .i64 0] 3)) := (Below.refl _ _).alloc (Nat.le_refl _) _
    have H5 : Hid (AlH w.heap.size nf nk b kind from' tt stop er (some D1) 0 (W.alloc (.cells #[.int .i64 0] 3))) := by
      have q1 := heap_alloc_new W (.cells #[.int .i64 0] 3)
      rw [← enk] at q1
      have tr : ∀ {k : Nat} {v : Value}, W.cell? ⟨k, 0, none⟩ = some v → (W.alloc (.cells #[.int .i64 0] 3)).cell? ⟨k, 0, none⟩ = some v := fun {k v} h => (hb5.cell (p := ⟨k, 0, none⟩) (World.block_lt_of_cell? _ _ h)).trans h
      exact (show AlH _ _ _ _ _ _ _ _ _ _ _ _ from ⟨hA.bx.below hb5, tr hA.cf, ucell q1 0, ufree q1 0, tr hA.k0, tr hA.k1, tr hA.k2, fun d e => by cases e; exact (hb5.block D1 hD1).trans hK⟩)
    have HB5 : Hid (Below w.heap.size w (W.alloc (.cells #[.int .i64 0] 3))) := (show Below _ _ _ from ujoin hB hb5)
    have sz5 : (W.alloc (.cells #[.int .i64 0] 3)).heap.size = nk + 1 := by rw [enk]; simp
    have hord : nf + 1 < nk ∧ D1 < nk ∧ nf < D1 := by omega
    rw [← enk]
    clear enk hA hJ hB hK hb5 hsz hD hD1
    generalize W.alloc (.cells #[.int .i64 0] 3) = W5 at H5 HB5 sz5 ⊢
    have hO2 : ∀ k, AlO w.heap.size nf nk b (some D1) k → k < W5.heap.size := fun k hk => by
      rw [sz5]
      rcases hk with h | h | h | h | h
      · omega
      · omega
      · omega
      · omega
      · cases h; omega
    have hH2 : ∀ (pre : List TapX) (W W' : World), AlH w.heap.size nf nk b kind from' tt stop er (some D1) pre.length W → (∀ k, AlO w.heap.size nf nk b (some D1) k → W'.heap[k]? = W.heap[k]?) → AlH w.heap.size nf nk b kind from' tt stop er (some D1) pre.length W' := fun pre W W' h hs => h.keep hs
    refine wpIn_rangeFunc_G (F := Fence.wide) (n := 9) rfl (by decide) (gf := 51) (lb := #[.pointer (some ⟨b + 2, 0, none⟩), .pointer (some ⟨b, 0, none⟩), .pointer (some ⟨b + 1, 0, none⟩)]) rfl trivial (enters_of Try.func51 (by kernel_rfl) rfl)
      (all_stops kind from' tt (by omega) W5 b H5.out.k0 H5.out.k1 H5.out.k2 (9 - 1) (by decide)) (Below.refl _ _) (fun k hk => by omega) (fun _ => rfl) (fun B pre x W r o o' h ho hc => tapR_put r o o' h ho hc)
      (Held w W5.heap.size (AlO w.heap.size nf nk b (some D1)) (fun (pre : List TapX) W => AlH w.heap.size nf nk b kind from' tt stop er (some D1) pre.length W))
      (fun c => fun _ _ _ => False)
      (ownB_held hO2 hH2 HB5.out.size) (fun c => ⟨fun _ _ _ _ h _ => h, fun _ _ _ _ h => h, fun _ _ _ _ _ _ h _ _ _ => h⟩) ⟨H5.out, HB5.out, Nat.le_refl _, fun k h => h.elim⟩ ?ab2 ?done2 ?stop2
    case ab2 =>
      apply Exists.intro
      apply And.intro
      · intro l x W K hK
        dsimp only [encT]
        gi_wp2
        exact hK
      · rintro l B pre ⟨xi, xA, xc, xl⟩ W hI ⟨hxi, hxe, hxt, hxr⟩ hlen
        dsimp only at hxi hxe hxt hxr ⊢
        subst hxi
        have HI := Lib.hid hI
        have c0 := hI.h.bx.c0
        have c1 := hI.h.bx.c1
        have c2 := hI.h.bx.c2
        have HR := Lib.hid hxr
        have HRT2 : Hid (∀ W, CallsIn (Fence.wide.inRound l) (9 - 1 - 1 - 1) Try.prog 14 #[.int .i64 kind, .int .i64 from', .int .i64 tt, .int .i64 (pre.length : Int)] W fun e w' => ∃ A' c', e = .returned (.tuple #[.slice A' xl.length c', .int .i64 0]) ∧ RowT w' A' xl.length (tapP xl) (tapW xl) ∧ Below W.heap.size W w') := (show ∀ W, _ from fun W => CallsIn.inRound l (callsIn_wide.2 ((rTaps_told kind from' tt pre.length W).mono fun e w' ⟨A', l', c', h1, h2, h3, h4⟩ => by
          have el := h2.unique hxt
          subst el
          exact ⟨A', c', by rw [h1, hxe], own_rowT h3, h4⟩)))
        have HST := Lib.hid fun W (A' : Option Addr) c' (h1 : RowT W xA xl.length (tapP xl) (tapW xl)) (h2 : RowT W A' xl.length (tapP xl) (tapW xl)) => CallsIn.inRound l (callsIn_wide (n := 9 - 1 - 1 - 1).2 (sameTaps_yes W xA A' xl.length xc c' _ _ _ _ h1 h2 (by have := hxt.len; omega) fun k _ => ⟨rfl, rfl⟩))
        have HBB : Hid (∀ W2, Below W.heap.size W W2 → W2.cell? ⟨nk, 0, none⟩ = some (.int .i64 (pre.length : Int)) ∧ W2.frozen? ⟨nk, 0, none⟩ = false) := (show ∀ W2, _ → _ from fun W2 hb => by
          have h2 := (hI.below hO2 hH2 hb).h
          exact ⟨h2.ck, h2.fk⟩)
        have HFIN : Hid (∀ W2, Below W.heap.size W W2 → Held w W5.heap.size (AlO w.heap.size nf nk b (some D1)) (fun (pre : List TapX) W => AlH w.heap.size nf nk b kind from' tt stop er (some D1) pre.length W) B (pre ++ [⟨pre.length, xA, xc, xl⟩]) (W2.setCell ⟨nk, 0, none⟩ (.int .i64 ((pre.length : Int) + 1)))) := (show ∀ W2, _ → _ from fun W2 hb => by
          have h2 := hI.below hO2 hH2 hb
          refine h2.setCell (by show w.heap.size ≤ nk; omega) ?_
          have h3 := h2.h.put (by omega) (by omega) (by omega) (fun d e => by cases e; omega) (pre.length + 1)
          rw [List.length_append]
          exact h3)
        have HKF : Hid (∀ W2, Below W.heap.size W W2 → KeepsFrom W5.heap.size W (W2.setCell ⟨nk, 0, none⟩ (.int .i64 ((pre.length : Int) + 1))) ∧ KeepB (fun k => B k ∨ (k = b ∨ k = b + 1 ∨ k = b + 2)) W (W2.setCell ⟨nk, 0, none⟩ (.int .i64 ((pre.length : Int) + 1)))) := (show ∀ W2, _ → _ from fun W2 hb => by
          have hz := hI.sz
          refine ⟨(keepsFrom_below hb).trans ((KeepsOthers.setCell _ _ _).from _), (keepB_below (fun k hk => ?_) hb).trans (keepB_setCell (fun hk => ?_))⟩
          · rcases hk with hk | hk
            · exact (hI.av k hk).2.2
            · omega
          · rcases hk with hk | hk
            · exact (hI.av _ hk).2.1 (.inr (.inr (.inl rfl)))
            · have hk : nk = b ∨ nk = b + 1 ∨ nk = b + 2 := hk
              omega)
        have hlenz : pre.length < 1000 := by unfold allN at hlen; split at hlen <;> omega
        have hn0 : ((pre.length : Int) != (pre.length : Int)) = false := bne_self_eq_false _
        clear hI hxe hxt hxr hlen
        gi_wp2_with (first
          | (refine ⟨trivial, ?_⟩; gi_at_call 14; refine (HRT2.out _).mono ?_; rintro e5 w5 ⟨A', c', rfl, hr, hb⟩; have HR5 := Lib.hid hr; have HX5 := Lib.hid (HR.out.below hb); have HB5 := Lib.hid hb; obtain ⟨d1, d2⟩ := HBB.out _ hb; clear c0 c1 c2 hr hb)
          | (refine ⟨trivial, ?_⟩; gi_at_call 15; refine (HST.out _ _ _ HX5.out HR5.out).mono ?_; rintro e6 w6 ⟨rfl, hd⟩; have HB6 := Lib.hid (ujoin HB5.out hd.below); clear d1 d2 hd; obtain ⟨d1, d2⟩ := HBB.out _ HB6.out))
        exact ⟨(HKF.out _ HB6.out).1, (HKF.out _ HB6.out).2, HFIN.out _ HB6.out⟩
    case stop2 =>
      rintro D c B pre W _ _ h _
      exact h.elim
    case done2 =>
      rintro D2 B xs W hD hS hI hK
      have hL := hI.h
      have hBW := Lib.hid hI.bel
      have hBz := hI.bel.size
      have e1 := hL.dd D1 rfl
      obtain ⟨v4, c4⟩ := hL.bx.c4
      have f4 := hL.bx.f4
      have c2 := hL.bx.c2
      have cf := hL.cf
      have ck := hL.ck
      rw [hS] at ck
      have HRE := Lib.hid (al_ret c4 hK e1 (by omega) hBW.out (by omega) (by omega) (by omega))
      by_cases her : er = 0
      · have hz : ((allN kind from' tt : Nat) : Int) = tt := by
          unfold allN
          rw [EER.out] at her
          rw [if_pos her]
          have := tapsErr_none her
          omega
        rw [hz] at ck
        rw [her] at cf
        have b1 : (tt == tt) = true := beq_self_eq_true _
        clear hS hI hL her hz
        gi_wp2
        refine ⟨by simp, .inl ⟨_, _, rfl, HRE.out.1, ?_⟩⟩
        refine ⟨by simp, .inl ⟨_, _, rfl, HRE.out.2.1, ?_⟩⟩
        refine ⟨.bool true, ?_, rfl, HRE.out.2.2.2⟩
        have hc5 := HRE.out.2.2.1
        simp [results, Try.f3, go_sem, hc5]
      · have hz : allN kind from' tt = 0 := by
          unfold allN
          rw [EER.out] at her
          rw [if_neg her]
        rw [hz] at ck
        have b1 : (er != 0) = true := by rw [bne_iff_ne]; exact her
        clear hS hI hL her hz
        gi_wp2
        refine ⟨by simp, .inl ⟨_, _, rfl, HRE.out.1, ?_⟩⟩
        refine ⟨by simp, .inl ⟨_, _, rfl, HRE.out.2.1, ?_⟩⟩
        refine ⟨.bool true, ?_, rfl, HRE.out.2.2.2⟩
        have hc5 := HRE.out.2.2.1
        simp [results, Try.f3, go_sem, hc5]

set_option maxRecDepth 100000 in
theorem lawAll_big (kind from' tt stop : Int) (w : World) (htt : 200 < tt) :
    CallsIn Fence.wide 9 Try.prog 3 #[.int .i64 kind, .int .i64 from', .int .i64 tt, .int .i64 stop] w fun e w' => e = .returned (.bool true) ∧ Below w.heap.size w w' := by
  have HKN := Lib.hid fun W => callsIn_wide (n := 9 - 1).2 (known_calls W)
  refine callsIn_of_wp_marks Try.func3 rfl trivial ?_ rfl
  simp only [Try.ntmps3, List.size_toArray, List.length_cons, List.length_nil, Nat.reduceAdd, Nat.reduceSub, Array.replicate_succ, Array.replicate_zero, List.push_toArray, List.append_toArray, List.nil_append, List.cons_append]
  gi_wp2_with (refine ⟨trivial, ?_⟩; gi_at_call 12; refine (HKN.out _).mono ?_; rintro e1 w1 ⟨rfl, hb⟩; have HX1 := Lib.hid ((AlB.start w kind from' tt stop).1.below hb); have HB1 := Lib.hid (ujoin (AlB.start w kind from' tt stop).2 hb); have x2 := HX1.out.c2; obtain ⟨v4, c4⟩ := HX1.out.c4; have f4 := HX1.out.f4; clear hb)
  have hc := World.cell?_setCell_same' w1 ⟨w.heap.size + 4, 0, none⟩ (.bool true) (by rw [c4]; rfl)
  refine ⟨.bool true, ?_, rfl, HB1.out.setCell (p := ⟨w.heap.size + 4, 0, none⟩) (by show w.heap.size ≤ w.heap.size + 4; omega) _⟩
  simp [results, Try.f3, go_sem, hc]
theorem lawAll_calls (kind from' tt stop : Int) (w : World) :
    Calls Try.prog 3 #[.int .i64 kind, .int .i64 from', .int .i64 tt, .int .i64 stop] w fun e w' => e = .returned (.bool true) ∧ Below w.heap.size w w' := by
  refine (callsIn_wide (n := 9)).1 ?_
  rcases Int.lt_or_le 200 tt with h | h
  · exact lawAll_big kind from' tt stop w h
  · exact lawAll_in kind from' tt stop w h
end Go.Proofs.Ytdcpeeolfgohmaa
