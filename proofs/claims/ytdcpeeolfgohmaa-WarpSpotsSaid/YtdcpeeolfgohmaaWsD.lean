/- slices.AppendSeq, Collect over a place's spots: the walk. -/
import Derived.Test.YtdcpeeolfgohmaaWsB
import Derived.Test.YtdcpeeolfgohmaaRfGH
namespace Go.Proofs.Ytdcpeeolfgohmaa
open Go.RowKit Go.Proofs.YtdcpeeolfgohmaaW.PrintWords
set_option linter.unusedSimpArgs false
set_option linter.unusedVariables false
attribute [local go_sem] Oper.semAt_some

theorem wpListIn_append_s {F : Fence} {n : Nat} {P : Program} (w : World) {ops : Array Oper} {rest : List Oper} {o : Oper} {a : Act} {Q : Exit → Act → World → Prop} (hg : o.guard = none) (s x : Operand) (t tn : TypeId)
    (ho : o.op = .call { callee := .builtin .append, args := #[s, x], argTypes := #[t, tn] }) (vs vx : Value) (hs : a.eval s = vs) (hx : a.eval x = vx)
    (v' : Value) (w' : World) (hr : (Builtin.append_ #[t, tn] o.type #[vs, vx]).run P w = .ok v' w') (h : wpListIn F n P ops Q rest (a.put o.dst v') w') : wpListIn F n P ops Q (o :: rest) a w := by
  refine wpListIn_plain hg fun K hK' => ?_
  unfold Oper.wpIn
  refine ⟨?_, ?_⟩
  · simp [Oper.about, ho, resolve, Target.leads, Sem.run_pure]
  · rw [Oper.semAt_plain F _ _ (by rw [ho]; intro c hc'; cases hc')]
    simp [execOp, ho, resolve, invoke, builtin, hs, hx, hr, Result.andThen]
    exact hK' _ _ h
/-- Between two spots: the row so far, in its box. -/
structure AsR (N n0 : Nat) (w0 : World) (v : Value) (B : Nat → Prop) (pre : List Spt) (V : World) : Prop where
  c : V.cell? ⟨n0, 0, none⟩ = some v
  f : V.frozen? ⟨n0, 0, none⟩ = false
  r : OwnS V N v pre
  bl : Below w0.heap.size w0 V
  sep : ∀ k, B k → N ≤ k ∧ k < V.heap.size ∧ v.ownBlock ≠ some k
  sz : N ≤ V.heap.size
def AsI (N n0 : Nat) (w0 : World) (B : Nat → Prop) (pre : List Spt) (V : World) : Prop := ∃ v, AsR N n0 w0 v B pre V
section
variable {N n0 : Nat} {w0 : World} {v : Value} {B B' : Nat → Prop} {pre : List Spt} {V V' : World}
theorem AsR.keep (hN : n0 < N ∧ w0.heap.size ≤ n0) (h1 : AsR N n0 w0 v B pre V) (hs : ∀ k, k < N ∨ v.ownBlock = some k → V'.heap[k]? = V.heap[k]?) (hb : V'.os = V.os ∧ V'.tape = V.tape ∧ V'.output = V.output) (hz : V.heap.size ≤ V'.heap.size) (hB : ∀ k, B' k → B k ∨ (V.heap.size ≤ k ∧ k < V'.heap.size)) : AsR N n0 w0 v B' pre V' where
  c := wcell_same (hs _ (.inl hN.1)) h1.c
  f := (World.frozen?_of_block (a := ⟨n0, 0, none⟩) (hs n0 (.inl hN.1))).trans h1.f
  r := h1.r.same fun k hk => hs k (.inr hk)
  bl := ⟨hb.1.trans h1.bl.os, hb.2.1.trans h1.bl.tape, hb.2.2.trans h1.bl.output, Nat.le_trans h1.bl.size hz, fun k hk => (hs k (.inl (by omega))).trans (h1.bl.block k hk)⟩
  sep := fun k hk => by
    rcases hB k hk with hk | ⟨k1, k2⟩
    · obtain ⟨s1, s2, s3⟩ := h1.sep k hk
      exact ⟨s1, Nat.lt_of_lt_of_le s2 hz, s3⟩
    · have := h1.sz
      exact ⟨by omega, k2, fun e => by have := (h1.r.lt k e).2; omega⟩
  sz := Nat.le_trans h1.sz hz
theorem asI_own (hN : n0 < N ∧ w0.heap.size ≤ n0) : OwnB N (AsI N n0 w0) where
  ab := fun B s V V' ⟨v, h1⟩ hg => by
    refine ⟨v, h1.keep hN (fun k hk => hg.block k ?_ (fun hb => ?_)) ⟨hg.os, hg.tape, hg.output⟩ hg.size (fun k hk => hk)⟩
    · rcases hk with hk | hk
      · exact Nat.lt_of_lt_of_le hk h1.sz
      · exact (h1.r.lt k hk).2
    · obtain ⟨s1, s2, s3⟩ := h1.sep k hb
      rcases hk with hk | hk
      · omega
      · exact s3 hk
  alloc := fun B s V o ⟨v, h1⟩ => by
    have hz := h1.sz
    exact ⟨v, h1.keep hN (fun k hk => Below.heap_alloc V o k (by
      rcases hk with hk | hk
      · omega
      · exact (h1.r.lt k hk).2)) ⟨rfl, rfl, rfl⟩ (by simp) (fun k hk => .inl hk)⟩
  put := fun B s V r o o' ⟨v, h1⟩ hr ho hc => by
    have hne : ∀ k, k < N ∨ v.ownBlock = some k → k ≠ r := fun k hk e => by
      subst e
      rcases hk with hk | hk
      · omega
      · obtain ⟨cu, hcu⟩ := h1.r.obj k hk
        rw [hcu] at ho
        injection ho with ho
        rw [← ho] at hc
        cases hc
    exact ⟨v, h1.keep hN (fun k hk => World.putObj_heap_other (hne k hk)) ⟨rfl, rfl, rfl⟩ (by simp) (fun k hk => .inl hk)⟩
/-- The round's end. -/
theorem asR_next {W2 : World} {v' : Value} {s : Spt} {o : Obj} (hN : n0 < N ∧ w0.heap.size ≤ n0) (h1 : AsR N n0 w0 v B pre W2) (p1 : OwnS V N v' (pre ++ [s])) (p2 : (W2.alloc o).grownBy V v.ownBlock) (p3 : v'.ownBlock = v.ownBlock ∨ v'.ownBlock = some (W2.alloc o).heap.size) (K0 : Nat → Prop) (hK : ∀ k, K0 k → k < N ∧ k ≠ n0) :
    KeepsFrom N W2 (V.setCell ⟨n0, 0, none⟩ v') ∧ KeepB (fun b => B b ∨ K0 b) W2 (V.setCell ⟨n0, 0, none⟩ v') ∧ AsI N n0 w0 B (pre ++ [s]) (V.setCell ⟨n0, 0, none⟩ v') := by
  have hz : (V.setCell ⟨n0, 0, none⟩ v').heap.size = V.heap.size := by simp [World.setCell]
  have hgs : W2.heap.size < V.heap.size := by have := p2.size; simp at this; omega
  have hsz := h1.sz
  have sm : ∀ k, k < W2.heap.size → v.ownBlock ≠ some k → V.heap[k]? = W2.heap[k]? := fun k hk hn => (p2.block k (by simp; omega) (fun e => hn e.symm)).trans (Below.heap_alloc W2 o k hk)
  have st : ∀ k, k ≠ n0 → (V.setCell ⟨n0, 0, none⟩ v').heap[k]? = V.heap[k]? := fun k hk => Below.heap_setCell _ _ _ _ hk
  have low : ∀ k, k < N → V.heap[k]? = W2.heap[k]? := fun k hk => sm k (by omega) (fun e => by have := (h1.r.lt k e).1; omega)
  have hv' : ∀ k, v'.ownBlock = some k → N ≤ k ∧ k < V.heap.size := p1.lt
  have c2 : V.cell? ⟨n0, 0, none⟩ = some v := wcell_same (low n0 hN.1) h1.c
  refine ⟨⟨by omega, fun k o' hkN hk ho => ?_⟩, ⟨by omega, fun k hk => ?_⟩, v', ?_⟩
  · have hk2 := (Array.getElem?_eq_some_iff.1 hk).1
    refine (st k (by omega)).trans ((sm k hk2 (fun e => ?_)).trans hk)
    obtain ⟨cu, hcu⟩ := h1.r.obj k e
    rw [hcu] at hk
    injection hk with hk
    rw [← hk] at ho
    cases ho
  · rcases hk with hk | hk
    · obtain ⟨s1, s2, s3⟩ := h1.sep k hk
      exact (st k (by omega)).trans (sm k s2 s3)
    · obtain ⟨k1, k2⟩ := hK k hk
      exact (st k k2).trans (low k k1)
  · refine ⟨World.cell?_setCell_same' _ _ _ (by rw [c2]; rfl), ?_, p1.same fun k hk => st k (by have := (hv' k hk).1; omega), ?_, fun k hk => ?_, by omega⟩
    · rw [World.frozen?_setCell]
      exact (World.frozen?_of_block (a := ⟨n0, 0, none⟩) (low n0 hN.1)).trans h1.f
    · have hb1 : Below w0.heap.size w0 V := ⟨p2.os.trans h1.bl.os, p2.tape.trans h1.bl.tape, p2.output.trans h1.bl.output, Nat.le_trans h1.bl.size (by omega), fun k hk => (low k (by omega)).trans (h1.bl.block k hk)⟩
      exact hb1.setCell (by show w0.heap.size ≤ n0; omega) _
    · obtain ⟨s1, s2, s3⟩ := h1.sep k hk
      refine ⟨s1, by omega, fun e => ?_⟩
      rcases p3 with q | q
      · rw [q] at e; exact s3 e
      · rw [q] at e; injection e with e; simp at e; omega
end

set_option maxHeartbeats 3200000 in
set_option maxRecDepth 100000 in
theorem appendSeq_in (kind border : Int) (t : Wp) (W H x y : Int) (w : World) (b : Nat) (hb3 : b + 3 ≤ w.heap.size) (hr : RightIn kind border t W H) (hb : Boxes b kind border t W H x y w) (hx : 0 ≤ x ∧ x ≤ 1024) (hy : 0 ≤ y ∧ y ≤ 1024) :
    CallsIn Fence.wide 9 Try.prog 101 #[.slice none 0 0, .func (.func 102) #[] #[.pointer (some ⟨b, 0, none⟩), .pointer (some ⟨b + 1, 0, none⟩), .pointer (some ⟨b + 2, 0, none⟩)]] w fun e w' => ∃ v L, e = .returned v ∧ IsSpots kind border t W H x y L ∧ OwnS w' w.heap.size v L ∧ Below w.heap.size w w' := by
  obtain ⟨w1, e1⟩ : ∃ w1, w1 = w.alloc (.cells #[.slice none 0 0] 44) := ⟨_, rfl⟩
  have ba : Below w.heap.size w w1 := by rw [e1]; exact (Below.refl _ _).alloc (Nat.le_refl _) _
  have z1 : w1.heap.size = w.heap.size + 1 := by rw [e1]; simp
  have q1 : w1.heap[w.heap.size]? = some (.cells #[.slice none 0 0] 44) := by rw [e1]; exact heap_alloc_new w _
  have hN : w.heap.size < w1.heap.size ∧ w.heap.size ≤ w.heap.size := ⟨by omega, Nat.le_refl _⟩
  have HSQ := Lib.hid (spots_seq kind border t W H x y w1 b hr (hb.below (Nat.le_refl _) ba) hx hy (9 - 1) (by decide))
  have H0 : Hid (AsI w1.heap.size w.heap.size w (fun _ => False) [] w1) := (show AsI _ _ _ _ _ _ from ⟨.slice none 0 0, ucell q1 0, ufree q1 0, OwnS.nil _ _, ba, fun k h => h.elim, Nat.le_refl _⟩)
  refine callsIn_of_wp_marks Try.func101 rfl trivial ?_ rfl
  simp only [Try.ntmps101, List.size_toArray, List.length_cons, List.length_nil, Nat.reduceAdd, Nat.reduceSub, Array.replicate_succ, Array.replicate_zero, List.push_toArray, List.append_toArray, List.nil_append, List.cons_append]
  gi_wp2
  rw [← e1]
  have HN := Lib.hid hN
  clear e1 ba q1 hN
  refine wpIn_rangeFunc_G2 (F := Fence.wide) (n := 9) rfl (by decide) (gf := 102) (lb := #[.pointer (some ⟨b, 0, none⟩), .pointer (some ⟨b + 1, 0, none⟩), .pointer (some ⟨b + 2, 0, none⟩)]) rfl trivial (enters_of Try.func102 (by kernel_rfl) rfl)
    HSQ.out (Below.refl _ _) (fun k hk => by omega) (fun _ => rfl) (fun B pre x W r o o' h ho hc => h)
    (AsI w1.heap.size w.heap.size w) (fun _ _ _ _ => False) (asI_own HN.out) (fun c => ⟨fun _ _ _ _ h _ => h, fun _ _ _ _ h => h, fun _ _ _ _ _ _ h _ _ _ => h⟩) H0.out
    (fun s W => W.alloc (.cells #[.int .i64 s.X, .int .i64 s.Y, .int .i64 s.N] 51)) (fun s W => (Below.refl _ _).alloc (Nat.le_refl _) _) (fun B pre s W h => (asI_own HN.out).alloc B pre W _ h) (fun _ _ _ _ h => h) (fun B pre W h => by obtain ⟨v, h⟩ := h; exact ⟨h.sz, fun k hk => (h.sep k hk).2.1⟩) ?ab ?done ?stop
  case stop =>
    rintro D c B pre W1 _ _ h _
    exact h.elim
  case done =>
    rintro D B L W4 hD hSL ⟨v, HR⟩ hdef
    have c := HR.c
    have hIS : Hid (IsSpots kind border t W H x y L) := (show IsSpots _ _ _ _ _ _ _ _ from hSL)
    have HRH := Lib.hid HR
    have hDz : w.heap.size ≤ D := by omega
    obtain ⟨A0, n0, c0, e0⟩ := HR.r.sl
    subst e0
    have hms : Marks w.heap.size [D] W4 := ⟨hDz, hdef, by simp, trivial⟩
    have HMS := Lib.hid hms
    clear HR hSL hD hdef hms
    gi_wp2
    refine leaves_marks (N := w.heap.size) [D] W4 HRH.out.bl.size HMS.out (fun W' hW' => ?_)
    refine ⟨_, results_tmp rfl _ _ _, _, _, rfl, hIS.out, ?_, HRH.out.bl.trans hW'.be⟩
    have hr0 := HRH.out.r
    have h2 : OwnS W' w1.heap.size (.slice A0 n0 c0) L := hr0.same fun k hk => by
      obtain ⟨cu, hcu⟩ := hr0.obj k hk
      exact (hW'.ce _ _ hcu rfl).trans hcu.symm
    exact h2.base (by omega)
  case ab =>
    apply Exists.intro
    apply And.intro
    · intro l s W1 K hK
      dsimp only [encS, sptC]
      gi_wp2
      exact hK
    · rintro l B pre s W1 W2 ⟨v1', HI1⟩ ⟨L, hL, hpre⟩ hlen hbig hsz2 hsame hos htp hou ⟨v, HI⟩
      obtain ⟨g5, eg5⟩ : ∃ g5, g5 = W1.heap.size := ⟨_, rfl⟩
      have hbox : W2.heap[g5]? = some (.cells #[.int .i64 s.X, .int .i64 s.Y, .int .i64 s.N] 51) := by
        rw [eg5]
        exact (hsame _ (by omega)).trans (heap_alloc_new W1 _)
      have c := HI.c
      have f := HI.f
      have d0 : W2.cell? ⟨g5, 0, none⟩ = some (.int .i64 s.X) := ucell hbox 0
      have d1 : W2.cell? ⟨g5, 1, none⟩ = some (.int .i64 s.Y) := ucell hbox 1
      have d2 : W2.cell? ⟨g5, 2, none⟩ = some (.int .i64 s.N) := ucell hbox 2
      have ha := (Below.refl W2.heap.size W2).alloc (Nat.le_refl _) (.cells #[.int .i64 s.X, .int .i64 s.Y, .int .i64 s.N] 51)
      obtain ⟨v', V', hrun, p1, p2, p3⟩ := own_spot 44 _ w1.heap.size v pre (HI.r.below ha) (Nat.le_trans HI.sz ha.size) (by omega) W2.heap.size 51 s (heap_alloc_new W2 _)
      obtain ⟨A9, n9, c9, e9⟩ := p1.sl
      subst e9
      have hN := HN.out
      have HNX := Lib.hid (asR_next (K0 := fun k => k = b ∨ k = b + 1 ∨ k = b + 2) HN.out HI p1 p2 p3 (fun k hk => by omega))
      have hlt : w.heap.size < W2.heap.size := by have h1 := HI.sz; have h2 := HN.out.1; omega
      have hbb : V'.heap[w.heap.size]? = W2.heap[w.heap.size]? := (p2.block _ (by rw [World.size_alloc]; omega) (fun e => by have h1 := (HI.r.lt _ e.symm).1; have h2 := HN.out.1; exact absurd h1 (Nat.not_le.2 h2))).trans (Below.heap_alloc W2 _ _ hlt)
      have hc9 : V'.cell? ⟨w.heap.size, 0, none⟩ = some v := wcell_same hbb HI.c
      have hf9 : V'.frozen? ⟨w.heap.size, 0, none⟩ = false := (World.frozen?_of_block (a := ⟨w.heap.size, 0, none⟩) hbb).trans HI.f
      obtain ⟨A0, n0, c0, e0⟩ := HI.r.sl
      subst e0
      clear hbb hlt hsame hbox hos htp hou HI HI1 hL hpre hsz2 hbig p1 p2 p3 ha hN hlen
      rw [← eg5]
      clear eg5
      gi_wp2_with (gi_at_builtin; refine wpListIn_append_s _ rfl _ _ 44 44 rfl _ _ rfl rfl _ V' hrun ?_)
      exact HNX.out
end Go.Proofs.Ytdcpeeolfgohmaa
