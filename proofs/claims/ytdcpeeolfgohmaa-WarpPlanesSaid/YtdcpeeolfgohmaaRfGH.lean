/- A range over a function whose iterator hands on, and reads between two rounds, memory of its own making: the contract 'SeqG' and the law of the statement. A range over a function whose rounds begin by laying what is handed on into a box of their own: the law of the statement. -/
import Derived.RangeFuncNested
import Derived.RangeFuncCalls
import Derived.RangeFuncLeaves
namespace Go.Proofs.Ytdcpeeolfgohmaa
open Go.RowKit
set_option linter.unusedSimpArgs false
set_option linter.unusedVariables false

/-- What an iterator may do between two rounds: new blocks; a turn of its own blocks B. -/
structure GrowB (B : Nat → Prop) (W W' : World) : Prop where
  os : W'.os = W.os
  tape : W'.tape = W.tape
  output : W'.output = W.output
  size : W.heap.size ≤ W'.heap.size
  block : ∀ k, k < W.heap.size → ¬ B k → W'.heap[k]? = W.heap[k]?
/-- Its own blocks behind that. -/
def laterB (B : Nat → Prop) (W W' : World) : Nat → Prop := fun b => B b ∨ (W.heap.size ≤ b ∧ b < W'.heap.size)
def AbG {β : Type} (J : (Nat → Prop) → β → World → Prop) : Prop := ∀ B s W W', J B s W → GrowB B W W' → J (laterB B W W') s W'
/-- What a round keeps for the iterator. -/
structure KeepB (B : Nat → Prop) (W W' : World) : Prop where
  size : W.heap.size ≤ W'.heap.size
  same : ∀ b, B b → W'.heap[b]? = W.heap[b]?
theorem KeepB.refl (B : Nat → Prop) (W : World) : KeepB B W W := ⟨Nat.le_refl _, fun _ _ => rfl⟩
theorem KeepB.trans {B : Nat → Prop} {X Y Z : World} (h : KeepB B X Y) (k : KeepB B Y Z) : KeepB B X Z := ⟨Nat.le_trans h.size k.size, fun b hb => (k.same b hb).trans (h.same b hb)⟩
theorem KeepB.putObj {B : Nat → Prop} (W : World) {r : Nat} (o : Obj) (h : ¬ B r) : KeepB B W (W.putObj r o) := ⟨by simp, fun b hb => World.putObj_heap_other (fun e => h (by rw [← e]; exact hb))⟩

def SeqG {α : Type} (F : Fence) (n : Nat) (P : Program) (g : Nat) (lb : Array Value) (encs : α → Array Value) (R : (Nat → Prop) → List α → α → World → Prop) (S Sp : List α → Prop) (N : Nat) (K0 : Nat → Prop) (w : World) : Prop :=
  ∀ (l : Nat) (J Jx : (Nat → Prop) → List α → World → Prop) (W : World), Below w.heap.size w W → AbG J → AbG Jx →
    (∀ B pre x W1, J B pre W1 → R B pre x W1 → pre.length < N → YieldAt F (n - 1) P l (encs x) W1 fun e W' =>
      (e = .returned (.bool true) ∧ J B (pre ++ [x]) W' ∧ KeepB (fun b => B b ∨ K0 b) W1 W') ∨ (e = .returned (.bool false) ∧ Jx B (pre ++ [x]) W')) →
    J (fun _ => False) [] W →
    CallsIn F n P g (#[.func (.yield l) #[] #[]] ++ lb) W fun e W' => (∃ v, e = .returned v) ∧ ((∃ B xs, S xs ∧ J B xs W') ∨ (∃ B pre, Sp pre ∧ Jx B pre W'))

/-- How the body of a round may be left. -/
def postG {α : Type} (N : Nat) (K0 B : Nat → Prop) (I : (Nat → Prop) → List α → World → Prop) (Ix : Code → (Nat → Prop) → List α → World → Prop) (xs : List α) (W : World) : Exit → Act → World → Prop
  | .normal, _, W' => KeepsFrom N W W' ∧ KeepB (fun b => B b ∨ K0 b) W W' ∧ I B xs W'
  | .ret, _, W' => KeepsFrom N W W' ∧ Ix .ret B xs W'
  | .exit id, _, W' => KeepsFrom N W W' ∧ Ix (.exit id) B xs W'
  | .goto t, _, W' => KeepsFrom N W W' ∧ Ix (.goto t) B xs W'
  | .panic _, _, _ => False
  | .outgrown, _, _ => False
/-- The caller's word abides the law's own book-keeping. -/
structure OwnB {β : Type} (N : Nat) (I : (Nat → Prop) → β → World → Prop) : Prop where
  ab : AbG I
  alloc : ∀ B s W o, I B s W → I B s (W.alloc o)
  put : ∀ B s W r o o', I B s W → N ≤ r → W.heap[r]? = some o → o.isCells = false → I B s (W.putObj r o')

variable {F : Fence} {n : Nat} {P : Program}
theorem wpIn_rangeFunc_G {α : Type} {g : Operand} {ps : Array Tmp} {assign body : Code} {Q : Exit → Act → World → Prop} {a : Act} {w : World}
    (hro : F.round = none) (h1 : 1 ≤ n) {gf : Nat} {lb : Array Value} (hg : a.eval g = .func (.func gf) #[] lb) (hFg : F.fn gf) (eg : ∀ args w, (callFunc gf args).run P w = .ok (.enter gf args) w)
    {encs : α → Array Value} {R : (Nat → Prop) → List α → α → World → Prop} {S Sp : List α → Prop} {N : Nat} {K0 : Nat → Prop} {w0 : World} (hseq : SeqG F (n - 1) P gf lb encs R S Sp N K0 w0)
    (hb0 : Below w0.heap.size w0 w) (hK0 : ∀ b, K0 b → b < w.heap.size) (hps : ∀ x, (encs x).size = ps.size)
    (hR : ∀ B pre x W r o o', R B pre x W → W.heap[r]? = some o → o.isCells = false → R B pre x (W.putObj r o'))
    (I : (Nat → Prop) → List α → World → Prop) (Ix : Code → (Nat → Prop) → List α → World → Prop) (hI : OwnB w.heap.size I) (hIx : ∀ c, OwnB w.heap.size (Ix c)) (h0 : I (fun _ => False) [] w)
    (hab : ∃ a₁ : α → Act, (∀ (l : Nat) (x : α) (W : World) (K : Act → World → Prop), K (a₁ x) W →
      assign.wpIn (F.inRound l) (n - 1 - 1) P (Exit.then K (fun _ _ _ => False)) { tmps := (ps.zip (encs x)).foldl (fun t (p, v) => t.setIfInBounds p v) a.tmps, defers := [] } W) ∧
    (∀ (l : Nat) (B : Nat → Prop) (pre : List α) (x : α) (W : World), I B pre W → R B pre x W → pre.length < N → body.wpIn (F.inRound l) (n - 1 - 1) P (postG w.heap.size K0 B I Ix (pre ++ [x]) W) (a₁ x) W))
    (hdone : ∀ (D : Nat) (B : Nat → Prop) (xs : List α) (W : World), w.heap.size ≤ D → S xs → I B xs W → W.heap[D]? = some (.deferred (some [])) → Q .normal { a with defers := { target := .collected D, args := #[] } :: a.defers } W)
    (hstop : ∀ (D : Nat) (c : Code) (B : Nat → Prop) (pre : List α) (W : World), w.heap.size ≤ D → Sp pre → Ix c B pre W → W.heap[D]? = some (.deferred (some [])) → c.wpIn F n P Q { a with defers := { target := .collected D, args := #[] } :: a.defers } W) :
    (Code.rangeFunc g ps assign body).wpIn F n P Q a w := by
  obtain ⟨a₁, hassign, hbody⟩ := hab
  refine wpIn_rangeFunc ?_
  intro fn hfn
  rw [hro]
  obtain ⟨rec, hrec⟩ : ∃ rec : LoopState → Option Code → Loop, rec = fun st pe => { state := st, pending := pe, fn, tmps := a.tmps, params := ps, assign, body, defers := w.heap.size } := ⟨_, rfl⟩
  obtain ⟨W1, hW1⟩ : ∃ W1, (w.alloc (.deferred (some []))).alloc (.loop (rec .ready none)) = W1 := ⟨_, rfl⟩
  have hL1 : W1.heap[w.heap.size + 1]? = some (.loop (rec .ready none)) := by
    rw [← hW1]; have := World.alloc_heap_new (w.alloc (.deferred (some []))) (.loop (rec .ready none)); rwa [World.size_alloc] at this
  have hK1 : W1.heap[w.heap.size]? = some (.deferred (some [])) := by
    rw [← hW1]; exact (Below.heap_alloc _ _ _ (by simp)).trans (World.alloc_heap_new w _)
  have hI1 : I (fun _ => False) [] W1 := by rw [← hW1]; exact hI.alloc _ _ _ _ (hI.alloc _ _ _ _ h0)
  have hb1 : Below w0.heap.size w0 W1 := by
    rw [← hW1]; exact hb0.trans ((((Below.refl _ w).alloc (Nat.le_refl _) _).alloc (by simp) _).mono hb0.size)
  refine ⟨w.heap.size + 1, [{ target := .collected w.heap.size, args := #[] }], W1, { target := .fn (.func gf) lb, args := #[.func (.yield (w.heap.size + 1)) #[] #[]] }, W1, gf,
    #[.func (.yield (w.heap.size + 1)) #[] #[]] ++ lb, W1, ?_, ?_, ?_, ?_, fun _ => h1, ?_⟩
  · rw [← hW1, hrec]; exact run_enterLoop_outer _ _ _ _ _
  · simp only [resolve, hg]
    simp [go_sem]
  · intro f' hf'; simp [Target.leads] at hf'; subst hf'; exact hFg
  · simp [invoke, go_sem, eg]
  · have kp : ∀ {B : Nat → Prop} {A A' : World} {r : Nat} {o : Obj}, GrowB B A A' → ¬ B r → A.heap[r]? = some o → A'.heap[r]? = some o ∧ ¬ laterB B A A' r := fun hg hn ho => by
      have hl := (Array.getElem?_eq_some_iff.1 ho).1
      exact ⟨(hg.block _ hl hn).trans ho, fun h => h.elim hn (fun h => by omega)⟩
    refine (hseq (w.heap.size + 1)
      (fun B pre W => I B pre W ∧ (W.heap[w.heap.size + 1]? = some (.loop (rec .ready none)) ∧ ¬ B (w.heap.size + 1)) ∧ W.heap[w.heap.size]? = some (.deferred (some [])) ∧ ¬ B w.heap.size)
      (fun B pre W => ∃ c, Ix c B pre W ∧ (W.heap[w.heap.size + 1]? = some (.loop (rec .done (some c))) ∧ ¬ B (w.heap.size + 1)) ∧ W.heap[w.heap.size]? = some (.deferred (some [])) ∧ ¬ B w.heap.size)
      W1 hb1
      (fun B s A A' hs hg' => ⟨hI.ab _ _ _ _ hs.1 hg', kp hg' hs.2.1.2 hs.2.1.1, kp hg' hs.2.2.2 hs.2.2.1⟩)
      (fun B s A A' hs hg' => by
        obtain ⟨c, hc, hl, hk⟩ := hs
        exact ⟨c, (hIx c).ab _ _ _ _ hc hg', kp hg' hl.2 hl.1, kp hg' hk.2 hk.1⟩)
      ?_ ⟨hI1, ⟨hL1, fun h => h⟩, hK1, fun h => h⟩).mono ?_
    · -- one round
      rintro B pre x W ⟨hi, ⟨hl, hlB⟩, hk, hkB⟩ hr hlen
      have hlt : w.heap.size + 1 < W.heap.size := (Array.getElem?_eq_some_iff.1 hl).1
      have hy := run_yield (P := P) (args := encs x) hl (by rw [hrec]; exact hps x)
      rw [hrec] at hy
      refine ⟨fn, _, assign, body, hy, roundIn_of_wpIn hfn (hassign _ x W _ ⟨_, run_beginRound hl (by rw [hrec]), ?_⟩)⟩
      have hl2 : (W.putObj (w.heap.size + 1) (.loop { rec .ready none with state := .busy })).heap[w.heap.size + 1]? = some (.loop { rec .ready none with state := .busy }) := World.putObj_heap_same hlt
      have hk2 : (W.putObj (w.heap.size + 1) (.loop { rec .ready none with state := .busy })).heap[w.heap.size]? = some (.deferred (some [])) := (World.putObj_heap_other (by omega)).trans hk
      have hnk : ¬ (B (w.heap.size + 1) ∨ K0 (w.heap.size + 1)) := fun h => h.elim hlB (fun h => by have := hK0 _ h; omega)
      have hw2 : KeepB (fun b => B b ∨ K0 b) W (W.putObj (w.heap.size + 1) (.loop { rec .ready none with state := .busy })) := KeepB.putObj W _ hnk
      refine wpIn_mono (hbody _ B pre x _ (hI.put _ _ _ _ _ _ hi (by omega) hl rfl) (hR _ _ _ _ _ _ _ hr hl rfl) hlen) ?_
      have fin : ∀ (jump : Option Code) (W3 : World), KeepsFrom w.heap.size (W.putObj (w.heap.size + 1) (.loop { rec .ready none with state := .busy })) W3 →
          (Instr.endRound (w.heap.size + 1) jump).run P W3 = .ok (.bool jump.isNone) (W3.putObj (w.heap.size + 1) (.loop (rec (if jump.isNone then .ready else .done) jump))) ∧
          W3.heap[w.heap.size + 1]? = some (.loop { rec .ready none with state := .busy }) ∧
          (W3.putObj (w.heap.size + 1) (.loop (rec (if jump.isNone then .ready else .done) jump))).heap[w.heap.size + 1]? = some (.loop (rec (if jump.isNone then .ready else .done) jump)) ∧
          (W3.putObj (w.heap.size + 1) (.loop (rec (if jump.isNone then .ready else .done) jump))).heap[w.heap.size]? = some (.deferred (some [])) := fun jump W3 hk3 => by
        have hl3 := hk3.same _ _ (by omega) hl2 rfl
        have := run_endRound (P := P) jump hl3
        rw [hrec] at this ⊢
        exact ⟨this, by rw [hrec] at hl3; exact hl3, World.putObj_heap_same (Array.getElem?_eq_some_iff.1 hl3).1, (World.putObj_heap_other (by omega)).trans (hk3.same _ _ (Nat.le_refl _) hk2 rfl)⟩
      rintro e a3 W3 hp
      cases e with
      | normal =>
        obtain ⟨hk3, hkp3, hi3⟩ := hp
        obtain ⟨hr, hl3, hl4, hk4⟩ := fin none W3 hk3
        exact ⟨_, _, hr, .inl ⟨rfl, ⟨hI.put _ _ _ _ _ _ hi3 (by omega) hl3 rfl, ⟨hl4, hlB⟩, hk4, hkB⟩, (hw2.trans hkp3).trans (KeepB.putObj _ _ hnk)⟩⟩
      | ret =>
        obtain ⟨hk3, hi3⟩ := hp
        obtain ⟨hr, hl3, hl4, hk4⟩ := fin (some .ret) W3 hk3
        exact ⟨_, _, hr, .inr ⟨rfl, .ret, (hIx _).put _ _ _ _ _ _ hi3 (by omega) hl3 rfl, ⟨hl4, hlB⟩, hk4, hkB⟩⟩
      | exit id =>
        obtain ⟨hk3, hi3⟩ := hp
        obtain ⟨hr, hl3, hl4, hk4⟩ := fin (some (.exit id)) W3 hk3
        exact ⟨_, _, hr, .inr ⟨rfl, .exit id, (hIx _).put _ _ _ _ _ _ hi3 (by omega) hl3 rfl, ⟨hl4, hlB⟩, hk4, hkB⟩⟩
      | goto t =>
        obtain ⟨hk3, hi3⟩ := hp
        obtain ⟨hr, hl3, hl4, hk4⟩ := fin (some (.goto t)) W3 hk3
        exact ⟨_, _, hr, .inr ⟨rfl, .goto t, (hIx _).put _ _ _ _ _ _ hi3 (by omega) hl3 rfl, ⟨hl4, hlB⟩, hk4, hkB⟩⟩
      | panic ch => exact hp.elim
      | outgrown => exact hp.elim
    · -- behind the iterator
      rintro e W2 ⟨⟨v, rfl⟩, (⟨B, xs, hS, hi, ⟨hl, hlB⟩, hk, hkB⟩ | ⟨B, pre, hSp, c, hi, ⟨hl, hlB⟩, hk, hkB⟩)⟩
      · exact ⟨none, _, by have := run_endLoop (P := P) hl (by rw [hrec]; simp); rw [hrec] at this; exact this, hdone _ B xs _ (Nat.le_refl _) hS (hI.put _ _ _ _ _ _ hi (by omega) hl rfl) ((World.putObj_heap_other (by omega)).trans hk)⟩
      · exact ⟨some c, _, by have := run_endLoop (P := P) hl (by rw [hrec]; simp); rw [hrec] at this; exact this, hstop _ c B pre _ (Nat.le_refl _) hSp ((hIx c).put _ _ _ _ _ _ hi (by omega) hl rfl) ((World.putObj_heap_other (by omega)).trans hk)⟩

/-- What the caller holds: H speaks of the blocks O alone, which lie below N; the iterator's blocks are others. -/
structure Held {β : Type} (w : World) (N : Nat) (O : Nat → Prop) (H : β → World → Prop) (B : Nat → Prop) (s : β) (W : World) : Prop where
  h : H s W
  bel : Below w.heap.size w W
  sz : N ≤ W.heap.size
  av : ∀ k, B k → w.heap.size ≤ k ∧ ¬ O k ∧ k < W.heap.size
theorem Held.grow {β : Type} {w : World} {N : Nat} {O : Nat → Prop} {H : β → World → Prop} {B : Nat → Prop} {s : β} {W W' : World} (h : Held w N O H B s W) (hO : ∀ k, O k → k < N) (hH : ∀ s W W', H s W → (∀ k, O k → W'.heap[k]? = W.heap[k]?) → H s W') (hw : w.heap.size ≤ N) (hg : GrowB B W W') : Held w N O H (laterB B W W') s W' where
  h := hH _ _ _ h.h fun k hk => hg.block k (Nat.lt_of_lt_of_le (hO k hk) h.sz) (fun hb => (h.av k hb).2.1 hk)
  bel := ⟨hg.os.trans h.bel.os, hg.tape.trans h.bel.tape, hg.output.trans h.bel.output, Nat.le_trans h.bel.size hg.size, fun k hk => (hg.block k (Nat.lt_of_lt_of_le hk h.bel.size) (fun hb => by have := (h.av k hb).1; omega)).trans (h.bel.block k hk)⟩
  sz := Nat.le_trans h.sz hg.size
  av := fun k hk => by
    rcases hk with hk | ⟨h1, _⟩
    · exact ⟨(h.av k hk).1, (h.av k hk).2.1, Nat.lt_of_lt_of_le (h.av k hk).2.2 hg.size⟩
    · exact ⟨Nat.le_trans h.bel.size h1, fun ho => by have := hO k ho; have := h.sz; omega, by assumption⟩
theorem ownB_held {β : Type} {w : World} {N : Nat} {O : Nat → Prop} {H : β → World → Prop} (hO : ∀ k, O k → k < N) (hH : ∀ s W W', H s W → (∀ k, O k → W'.heap[k]? = W.heap[k]?) → H s W') (hw : w.heap.size ≤ N) : OwnB N (Held w N O H) where
  ab := fun B s W W' h hg => h.grow hO hH hw hg
  alloc := fun B s W o h => ⟨hH _ _ _ h.h fun k hk => Below.heap_alloc W o k (Nat.lt_of_lt_of_le (hO k hk) h.sz), h.bel.alloc h.bel.size o, by have := h.sz; simp; omega, fun k hk => ⟨(h.av k hk).1, (h.av k hk).2.1, by have := (h.av k hk).2.2; simp; omega⟩⟩
  put := fun B s W r o o' h hr ho _ => ⟨hH _ _ _ h.h fun k hk => World.putObj_heap_other (by have := hO k hk; omega), h.bel.grown (grownBy_putObj' W r o') h.bel.size (fun k e => by cases e; omega), by simp; exact h.sz, fun k hk => ⟨(h.av k hk).1, (h.av k hk).2.1, by simp; exact (h.av k hk).2.2⟩⟩
theorem Held.below {β : Type} {w : World} {N : Nat} {O : Nat → Prop} {H : β → World → Prop} {B : Nat → Prop} {s : β} {W W' : World} (h : Held w N O H B s W) (hO : ∀ k, O k → k < N) (hH : ∀ s W W', H s W → (∀ k, O k → W'.heap[k]? = W.heap[k]?) → H s W') (hb : Below W.heap.size W W') : Held w N O H B s W' :=
  ⟨hH _ _ _ h.h fun k hk => hb.block k (Nat.lt_of_lt_of_le (hO k hk) h.sz), h.bel.trans (hb.mono h.bel.size), Nat.le_trans h.sz hb.size, fun k hk => ⟨(h.av k hk).1, (h.av k hk).2.1, Nat.lt_of_lt_of_le (h.av k hk).2.2 hb.size⟩⟩
theorem Held.setCell {β : Type} {w : World} {N : Nat} {O : Nat → Prop} {H : β → World → Prop} {B : Nat → Prop} {s s' : β} {W : World} (h : Held w N O H B s W) {p : Addr} {v : Value} (hp : w.heap.size ≤ p.block) (hs : H s' (W.setCell p v)) : Held w N O H B s' (W.setCell p v) :=
  ⟨hs, h.bel.setCell hp v, by have := h.sz; simpa [World.setCell] using this, fun k hk => ⟨(h.av k hk).1, (h.av k hk).2.1, by have := (h.av k hk).2.2; simpa [World.setCell] using this⟩⟩
theorem Held.map {β : Type} {w : World} {N : Nat} {O : Nat → Prop} {H H' : β → World → Prop} {B : Nat → Prop} {s : β} {W : World} (h : Held w N O H B s W) (hh : ∀ W, H s W → H' s W) : Held w N O H' B s W := ⟨hh _ h.h, h.bel, h.sz, h.av⟩
theorem keepsFrom_below {N : Nat} {W W' : World} (hb : Below W.heap.size W W') : KeepsFrom N W W' := ⟨hb.size, fun k o _ hk _ => (hb.block k (Array.getElem?_eq_some_iff.1 hk).1).trans hk⟩
theorem keepB_below {B : Nat → Prop} {W W' : World} (hB : ∀ k, B k → k < W.heap.size) (hb : Below W.heap.size W W') : KeepB B W W' := ⟨hb.size, fun k hk => hb.block k (hB k hk)⟩
theorem keepB_setCell {B : Nat → Prop} {W : World} {p : Addr} {v : Value} (hp : ¬ B p.block) : KeepB B W (W.setCell p v) := ⟨by simp [World.setCell], fun k hk => Below.heap_setCell _ _ _ _ (fun e => hp (by rw [← e]; exact hk))⟩
end Go.Proofs.Ytdcpeeolfgohmaa

namespace Go.Proofs.Ytdcpeeolfgohmaa
open Go.RowKit
set_option linter.unusedSimpArgs false
set_option linter.unusedVariables false
variable {F : Fence} {n : Nat} {P : Program}
theorem wpIn_rangeFunc_G2 {α : Type} {g : Operand} {ps : Array Tmp} {assign body : Code} {Q : Exit → Act → World → Prop} {a : Act} {w : World}
    (hro : F.round = none) (h1 : 1 ≤ n) {gf : Nat} {lb : Array Value} (hg : a.eval g = .func (.func gf) #[] lb) (hFg : F.fn gf) (eg : ∀ args w, (callFunc gf args).run P w = .ok (.enter gf args) w)
    {encs : α → Array Value} {R : (Nat → Prop) → List α → α → World → Prop} {S Sp : List α → Prop} {N : Nat} {K0 : Nat → Prop} {w0 : World} (hseq : SeqG F (n - 1) P gf lb encs R S Sp N K0 w0)
    (hb0 : Below w0.heap.size w0 w) (hK0 : ∀ b, K0 b → b < w.heap.size) (hps : ∀ x, (encs x).size = ps.size)
    (hR : ∀ B pre x W r o o', R B pre x W → W.heap[r]? = some o → o.isCells = false → R B pre x (W.putObj r o'))
    (I : (Nat → Prop) → List α → World → Prop) (Ix : Code → (Nat → Prop) → List α → World → Prop) (hI : OwnB w.heap.size I) (hIx : ∀ c, OwnB w.heap.size (Ix c)) (h0 : I (fun _ => False) [] w)
    (gw : α → World → World) (hgw : ∀ x W, Below W.heap.size W (gw x W)) (hgI : ∀ B pre x W, I B pre W → I B pre (gw x W)) (hgR : ∀ B pre x W, R B pre x W → R B pre x (gw x W)) (hIB : ∀ B pre W, I B pre W → w.heap.size ≤ W.heap.size ∧ ∀ b, B b → b < W.heap.size)
    (hab : ∃ a₁ : α → World → Act, (∀ (l : Nat) (x : α) (W : World) (K : Act → World → Prop), K (a₁ x W) (gw x W) →
      assign.wpIn (F.inRound l) (n - 1 - 1) P (Exit.then K (fun _ _ _ => False)) { tmps := (ps.zip (encs x)).foldl (fun t (p, v) => t.setIfInBounds p v) a.tmps, defers := [] } W) ∧
    (∀ (l : Nat) (B : Nat → Prop) (pre : List α) (x : α) (W W' : World), I B pre W → R B pre x W → pre.length < N → w.heap.size + 1 < W.heap.size → W'.heap.size = (gw x W).heap.size → (∀ k, k ≠ w.heap.size + 1 → W'.heap[k]? = (gw x W).heap[k]?) → W'.os = W.os → W'.tape = W.tape → W'.output = W.output → I B pre W' → body.wpIn (F.inRound l) (n - 1 - 1) P (postG w.heap.size K0 B I Ix (pre ++ [x]) W') (a₁ x W) W'))
    (hdone : ∀ (D : Nat) (B : Nat → Prop) (xs : List α) (W : World), w.heap.size ≤ D → S xs → I B xs W → W.heap[D]? = some (.deferred (some [])) → Q .normal { a with defers := { target := .collected D, args := #[] } :: a.defers } W)
    (hstop : ∀ (D : Nat) (c : Code) (B : Nat → Prop) (pre : List α) (W : World), w.heap.size ≤ D → Sp pre → Ix c B pre W → W.heap[D]? = some (.deferred (some [])) → c.wpIn F n P Q { a with defers := { target := .collected D, args := #[] } :: a.defers } W) :
    (Code.rangeFunc g ps assign body).wpIn F n P Q a w := by
  obtain ⟨a₁, hassign, hbody⟩ := hab
  refine wpIn_rangeFunc ?_
  intro fn hfn
  rw [hro]
  obtain ⟨rec, hrec⟩ : ∃ rec : LoopState → Option Code → Loop, rec = fun st pe => { state := st, pending := pe, fn, tmps := a.tmps, params := ps, assign, body, defers := w.heap.size } := ⟨_, rfl⟩
  obtain ⟨W1, hW1⟩ : ∃ W1, (w.alloc (.deferred (some []))).alloc (.loop (rec .ready none)) = W1 := ⟨_, rfl⟩
  have hL1 : W1.heap[w.heap.size + 1]? = some (.loop (rec .ready none)) := by
    rw [← hW1]; have := World.alloc_heap_new (w.alloc (.deferred (some []))) (.loop (rec .ready none)); rwa [World.size_alloc] at this
  have hK1 : W1.heap[w.heap.size]? = some (.deferred (some [])) := by
    rw [← hW1]; exact (Below.heap_alloc _ _ _ (by simp)).trans (World.alloc_heap_new w _)
  have hI1 : I (fun _ => False) [] W1 := by rw [← hW1]; exact hI.alloc _ _ _ _ (hI.alloc _ _ _ _ h0)
  have hb1 : Below w0.heap.size w0 W1 := by
    rw [← hW1]; exact hb0.trans ((((Below.refl _ w).alloc (Nat.le_refl _) _).alloc (by simp) _).mono hb0.size)
  refine ⟨w.heap.size + 1, [{ target := .collected w.heap.size, args := #[] }], W1, { target := .fn (.func gf) lb, args := #[.func (.yield (w.heap.size + 1)) #[] #[]] }, W1, gf,
    #[.func (.yield (w.heap.size + 1)) #[] #[]] ++ lb, W1, ?_, ?_, ?_, ?_, fun _ => h1, ?_⟩
  · rw [← hW1, hrec]; exact run_enterLoop_outer _ _ _ _ _
  · simp only [resolve, hg]
    simp [go_sem]
  · intro f' hf'; simp [Target.leads] at hf'; subst hf'; exact hFg
  · simp [invoke, go_sem, eg]
  · have kp : ∀ {B : Nat → Prop} {A A' : World} {r : Nat} {o : Obj}, GrowB B A A' → ¬ B r → A.heap[r]? = some o → A'.heap[r]? = some o ∧ ¬ laterB B A A' r := fun hg hn ho => by
      have hl := (Array.getElem?_eq_some_iff.1 ho).1
      exact ⟨(hg.block _ hl hn).trans ho, fun h => h.elim hn (fun h => by omega)⟩
    refine (hseq (w.heap.size + 1)
      (fun B pre W => I B pre W ∧ (W.heap[w.heap.size + 1]? = some (.loop (rec .ready none)) ∧ ¬ B (w.heap.size + 1)) ∧ W.heap[w.heap.size]? = some (.deferred (some [])) ∧ ¬ B w.heap.size)
      (fun B pre W => ∃ c, Ix c B pre W ∧ (W.heap[w.heap.size + 1]? = some (.loop (rec .done (some c))) ∧ ¬ B (w.heap.size + 1)) ∧ W.heap[w.heap.size]? = some (.deferred (some [])) ∧ ¬ B w.heap.size)
      W1 hb1
      (fun B s A A' hs hg' => ⟨hI.ab _ _ _ _ hs.1 hg', kp hg' hs.2.1.2 hs.2.1.1, kp hg' hs.2.2.2 hs.2.2.1⟩)
      (fun B s A A' hs hg' => by
        obtain ⟨c, hc, hl, hk⟩ := hs
        exact ⟨c, (hIx c).ab _ _ _ _ hc hg', kp hg' hl.2 hl.1, kp hg' hk.2 hk.1⟩)
      ?_ ⟨hI1, ⟨hL1, fun h => h⟩, hK1, fun h => h⟩).mono ?_
    · -- one round
      rintro B pre x W ⟨hi, ⟨hl, hlB⟩, hk, hkB⟩ hr hlen
      have hlt : w.heap.size + 1 < W.heap.size := (Array.getElem?_eq_some_iff.1 hl).1
      have hy := run_yield (P := P) (args := encs x) hl (by rw [hrec]; exact hps x)
      rw [hrec] at hy
      have hgz := (hgw x W).size
      have hl0 := hl
      have hlt0 := hlt
      have hk0 := hk
      have hi0 := hi
      have hr0 := hr
      have hwz := hIB _ _ _ hi
      obtain ⟨W0, eW0⟩ : ∃ W0, W0 = gw x W := ⟨_, rfl⟩
      have hgb : Below W.heap.size W W0 := by rw [eW0]; exact hgw x W
      refine ⟨fn, _, assign, body, hy, roundIn_of_wpIn hfn (hassign _ x W _ ?_)⟩
      rw [← eW0]
      replace hl : W0.heap[w.heap.size + 1]? = some (.loop (rec .ready none)) := (hgb.block _ hlt).trans hl
      replace hk : W0.heap[w.heap.size]? = some (.deferred (some [])) := (hgb.block _ (by omega)).trans hk
      replace hi : I B pre W0 := by rw [eW0]; exact hgI _ _ _ _ hi
      replace hr : R B pre x W0 := by rw [eW0]; exact hgR _ _ _ _ hr
      replace hlt : w.heap.size + 1 < W0.heap.size := (Array.getElem?_eq_some_iff.1 hl).1
      refine ⟨_, run_beginRound hl (by rw [hrec]), ?_⟩
      have hkg : KeepB (fun b => B b ∨ K0 b) W W0 := ⟨hgb.size, fun b hb => hgb.block b (hb.elim (hwz.2 b) (fun h => by have := hK0 _ h; omega))⟩
      have hl2 : (W0.putObj (w.heap.size + 1) (.loop { rec .ready none with state := .busy })).heap[w.heap.size + 1]? = some (.loop { rec .ready none with state := .busy }) := World.putObj_heap_same hlt
      have hk2 : (W0.putObj (w.heap.size + 1) (.loop { rec .ready none with state := .busy })).heap[w.heap.size]? = some (.deferred (some [])) := (World.putObj_heap_other (by omega)).trans hk
      have hnk : ¬ (B (w.heap.size + 1) ∨ K0 (w.heap.size + 1)) := fun h => h.elim hlB (fun h => by have := hK0 _ h; omega)
      have hw2 : KeepB (fun b => B b ∨ K0 b) W (W0.putObj (w.heap.size + 1) (.loop { rec .ready none with state := .busy })) := hkg.trans (KeepB.putObj W0 _ hnk)
      refine wpIn_mono (hbody _ B pre x W _ hi0 hr0 hlen hlt0 (by rw [← eW0]; simp) (fun k hk => by rw [← eW0]; exact World.putObj_heap_other hk) (hgb.os) (hgb.tape) (hgb.output) (hI.put _ _ _ _ _ _ hi (by omega) hl rfl)) ?_
      have fin : ∀ (jump : Option Code) (W3 : World), KeepsFrom w.heap.size (W0.putObj (w.heap.size + 1) (.loop { rec .ready none with state := .busy })) W3 →
          (Instr.endRound (w.heap.size + 1) jump).run P W3 = .ok (.bool jump.isNone) (W3.putObj (w.heap.size + 1) (.loop (rec (if jump.isNone then .ready else .done) jump))) ∧
          W3.heap[w.heap.size + 1]? = some (.loop { rec .ready none with state := .busy }) ∧
          (W3.putObj (w.heap.size + 1) (.loop (rec (if jump.isNone then .ready else .done) jump))).heap[w.heap.size + 1]? = some (.loop (rec (if jump.isNone then .ready else .done) jump)) ∧
          (W3.putObj (w.heap.size + 1) (.loop (rec (if jump.isNone then .ready else .done) jump))).heap[w.heap.size]? = some (.deferred (some [])) := fun jump W3 hk3 => by
        have hl3 := hk3.same _ _ (by omega) hl2 rfl
        have := run_endRound (P := P) jump hl3
        rw [hrec] at this ⊢
        exact ⟨this, by rw [hrec] at hl3; exact hl3, World.putObj_heap_same (Array.getElem?_eq_some_iff.1 hl3).1, (World.putObj_heap_other (by omega)).trans (hk3.same _ _ (Nat.le_refl _) hk2 rfl)⟩
      rintro e a3 W3 hp
      cases e with
      | normal =>
        obtain ⟨hk3, hkp3, hi3⟩ := hp
        obtain ⟨hr, hl3, hl4, hk4⟩ := fin none W3 hk3
        exact ⟨_, _, hr, .inl ⟨rfl, ⟨hI.put _ _ _ _ _ _ hi3 (by omega) hl3 rfl, ⟨hl4, hlB⟩, hk4, hkB⟩, (hw2.trans hkp3).trans (KeepB.putObj _ _ hnk)⟩⟩
      | ret =>
        obtain ⟨hk3, hi3⟩ := hp
        obtain ⟨hr, hl3, hl4, hk4⟩ := fin (some .ret) W3 hk3
        exact ⟨_, _, hr, .inr ⟨rfl, .ret, (hIx _).put _ _ _ _ _ _ hi3 (by omega) hl3 rfl, ⟨hl4, hlB⟩, hk4, hkB⟩⟩
      | exit id =>
        obtain ⟨hk3, hi3⟩ := hp
        obtain ⟨hr, hl3, hl4, hk4⟩ := fin (some (.exit id)) W3 hk3
        exact ⟨_, _, hr, .inr ⟨rfl, .exit id, (hIx _).put _ _ _ _ _ _ hi3 (by omega) hl3 rfl, ⟨hl4, hlB⟩, hk4, hkB⟩⟩
      | goto t =>
        obtain ⟨hk3, hi3⟩ := hp
        obtain ⟨hr, hl3, hl4, hk4⟩ := fin (some (.goto t)) W3 hk3
        exact ⟨_, _, hr, .inr ⟨rfl, .goto t, (hIx _).put _ _ _ _ _ _ hi3 (by omega) hl3 rfl, ⟨hl4, hlB⟩, hk4, hkB⟩⟩
      | panic ch => exact hp.elim
      | outgrown => exact hp.elim
    · -- behind the iterator
      rintro e W2 ⟨⟨v, rfl⟩, (⟨B, xs, hS, hi, ⟨hl, hlB⟩, hk, hkB⟩ | ⟨B, pre, hSp, c, hi, ⟨hl, hlB⟩, hk, hkB⟩)⟩
      · exact ⟨none, _, by have := run_endLoop (P := P) hl (by rw [hrec]; simp); rw [hrec] at this; exact this, hdone _ B xs _ (Nat.le_refl _) hS (hI.put _ _ _ _ _ _ hi (by omega) hl rfl) ((World.putObj_heap_other (by omega)).trans hk)⟩
      · exact ⟨some c, _, by have := run_endLoop (P := P) hl (by rw [hrec]; simp); rw [hrec] at this; exact this, hstop _ c B pre _ (Nat.le_refl _) hSp ((hIx c).put _ _ _ _ _ _ hi (by omega) hl rfl) ((World.putObj_heap_other (by omega)).trans hk)⟩


end Go.Proofs.Ytdcpeeolfgohmaa
