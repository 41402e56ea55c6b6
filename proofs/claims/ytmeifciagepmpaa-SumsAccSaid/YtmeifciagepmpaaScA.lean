/- SumsAcc: halidelaw3.total, over a script. A region that draws its order: some moves, operations that only read, then a forced tail: one walk. SumsAcc: three accumulators and three rows, one step more: plain. -/
import Derived.Test.YtmeifciagepmpaaForm
import Derived.StillTailTactics
import Derived.Test.YtmeifciagepmpaaDv
import Derived.Test.YtmeifciagepmpaaOrAB
import Derived.Deep.Upon
namespace Go.Proofs.Ytmeifciagepmpaa
open Go.RowKit Go.Proofs.YtmeifciagepmpaaW.PrintWords
set_option linter.unusedSimpArgs false
set_option linter.unusedVariables false

/-- A script that came in. -/
structure ScrIn (w : World) (P : Option Addr) (N : Nat) (at' wh ot : Nat → Int) (B : Nat → Option Addr) (m cc : Nat → Nat) (y : Nat → Nat → Nat) : Prop where
  cell : 1 ≤ N → ∃ ad, P = some ad ∧ ∀ i, i < N → w.cell? (ad.add (i * 4)) = some (.int .i64 (at' i)) ∧ w.cell? (ad.add (i * 4 + 1)) = some (.int .i64 (wh i)) ∧ w.cell? (ad.add (i * 4 + 2)) = some (.int .i64 (ot i)) ∧ w.cell? (ad.add (i * 4 + 3)) = some (.slice (B i) (m i) (cc i))
  row : ∀ i, i < N → RowU w (B i) (m i) (y i)
  cap : ∀ i, i < N → m i ≤ cc i
  lt : ∀ i, i < N → ∀ k, k < m i → y i k < 4294967296
  mx : N ≤ 140737488355328 ∧ ∀ i, i < N → m i ≤ 9223372036854775807 - 4611686018427387904
  num : ∀ i, i < N → (-9223372036854775808 ≤ at' i ∧ at' i ≤ 9223372036854775807) ∧ (-9223372036854775808 ≤ ot i ∧ ot i ≤ 9223372036854775807)
theorem ScrIn.below {w w1 : World} {P : Option Addr} {N : Nat} {at' wh ot : Nat → Int} {B : Nat → Option Addr} {m cc : Nat → Nat} {y : Nat → Nat → Nat} (h : ScrIn w P N at' wh ot B m cc y) (hb : Below w.heap.size w w1) : ScrIn w1 P N at' wh ot B m cc y :=
  ⟨fun hn => by
    obtain ⟨ad, e, hc⟩ := h.cell hn
    refine ⟨ad, e, fun i hi => ?_⟩
    obtain ⟨h1, h2, h3, h4⟩ := hc i hi
    exact ⟨(hb.cell (World.block_lt_of_cell? _ _ h1)).trans h1, (hb.cell (World.block_lt_of_cell? _ _ h2)).trans h2, (hb.cell (World.block_lt_of_cell? _ _ h3)).trans h3, (hb.cell (World.block_lt_of_cell? _ _ h4)).trans h4⟩, fun i hi => (h.row i hi).below hb, h.cap, h.lt, h.mx, h.num⟩
/-- How many samples there are up to a step. -/
def msum (m : Nat → Nat) : Nat → Nat
  | 0 => 0
  | k + 1 => msum m k + m k
theorem msum_mono (m : Nat → Nat) : ∀ {i k}, i ≤ k → msum m i ≤ msum m k
  | i, 0, h => by rw [show i = 0 by omega]; exact Nat.le_refl _
  | i, k + 1, h => by
    by_cases e : i = k + 1
    · rw [e]; exact Nat.le_refl _
    · rw [msum]; have := msum_mono m (show i ≤ k by omega); omega
theorem sc_fld (a : Addr) (i j : Nat) (hj : 0 < j) : a.add (i + j) = ⟨(a.add i).block, (a.add i).off + j, none⟩ := by
  unfold Addr.add
  rw [if_neg (by omega)]
  by_cases h : i = 0
  · subst h; rw [if_pos rfl, Nat.zero_add]
  · rw [if_neg h, Nat.add_assoc]
def TotEnd (N : Nat) (m : Nat → Nat) (w : World) (e : Ending) (w' : World) : Prop := ∃ t : Nat, e = .returned (.int .i64 (t : Int)) ∧ w = w' ∧ (t ≤ 2000 ↔ N + msum m N ≤ 2000)

set_option maxHeartbeats 1600000 in
set_option maxRecDepth 100000 in
theorem total_calls (w : World) (P : Option Addr) (N C : Nat) (at' wh ot : Nat → Int) (B : Nat → Option Addr) (m cc : Nat → Nat) (y : Nat → Nat → Nat) (h : ScrIn w P N at' wh ot B m cc y) (hc : N ≤ C) :
    Calls Try.prog 29 #[.slice P N C] w fun e w' => TotEnd N m w e w' := by
  have H := Lib.hid h
  have hN := h.mx.1
  clear h
  unfold TotEnd
  go_enter Try.func29, Try.ntmps29
  go_wp2
  go_loopg [3, 4] N (fun kq v3 v4 wr => ∃ i t : Nat, v4 = .int .i64 (i : Int) ∧ v3 = .int .i64 (t : Int) ∧ i ≤ N ∧ N ≤ i + kq ∧ w = wr ∧ Aside (t = N + msum m i) ∧ t ≤ 4611686018427387904 + 4611686018427387903)
  case atStart => exact ⟨0, N, by first | rfl | go_num, rfl, by omega, by omega, rfl, rfl, by omega⟩
  case round =>
    obtain ⟨i, t, rfl, rfl, hi, hik, rfl, HT, ht⟩ := hrel
    by_cases hlt : i < N
    · have hltz : (i : Int) < (N : Int) := by omega
      by_cases h2 : t ≤ 2000
      · have h2z : (t : Int) ≤ 2000 := by omega
        obtain ⟨ad, rfl, hcell⟩ := H.out.cell (by omega)
        obtain ⟨-, -, -, c4⟩ := hcell i hlt
        obtain ⟨mi, emi⟩ : ∃ q, q = m i := ⟨_, rfl⟩
        have hmi : mi ≤ 9223372036854775807 - 4611686018427387904 := by rw [emi]; exact H.out.mx.2 i hlt
        rw [← emi] at c4
        have HT2 : Hid (t + mi = N + msum m (i + 1)) := (show _ = _ by rw [msum, HT.out, emi]; omega)
        have W1 : IntKind.i64.wrap ((t : Int) + (mi : Int)) = ((t + mi : Nat) : Int) := by rw [IntWalk.i64_in _ (by omega)]; omega
        have hi0 : (0 : Int) ≤ (i : Int) := by omega
        rw [sc_fld _ _ _ (by decide)] at c4
        clear hcell HT emi
        go_wp2
        go_roundg (N - (i + 1))
        case measure => omega
        case rel => exact ⟨i + 1, t + mi, by go_num, by first | rfl | go_num, by omega, by omega, rfl, HT2.out, by omega⟩
      · have h2z : ¬ (t : Int) ≤ 2000 := by omega
        have HF : Hid (t ≤ 2000 ↔ N + msum m N ≤ 2000) := (show _ ↔ _ by
          have := HT.out
          have h3 := msum_mono m (show i ≤ N by omega)
          omega)
        go_wp2
        go_ret
        exact ⟨t, rfl, rfl, HF.out⟩
    · have hltz : ¬ (i : Int) < (N : Int) := by omega
      have e : i = N := by omega
      have HF : Hid (t ≤ 2000 ↔ N + msum m N ≤ 2000) := (show _ ↔ _ by have h2 := HT.out; rw [e] at h2; rw [← h2])
      clear e
      go_wp2
      go_ret
      exact ⟨t, rfl, rfl, HF.out⟩
section
variable {P : Program} {ops : Array Oper} {md : Region.Mode} {w : World}

def sinkFrom (md : Region.Mode) (ops : Array Oper) (m n : Nat) : Bool :=
  (List.range n).all fun i => decide (i < m) || (List.range (n + 1)).any fun j => decide (i < j) && Region.waitsFor md ops j i
theorem tail_waits2 {m n : Nat} {listed : Array Bool} (hs : sinkFrom md ops m n = true) (hc : Region.chainB md ops n = true) (hn : n < ops.size) (inv : HeadInv md ops n listed) (hp : ∀ i, i < m → listed.getD i false = true) :
    ∀ (d i : Nat), n - i = d → i < n → listed.getD i true = false → ∀ t, n ≤ t → t ∉ Region.ready md ops listed := by
  intro d
  induction d using Nat.strongRecOn with
  | _ d ih =>
    intro i hd hi hun t ht hr
    obtain ⟨_, ot, hot, hall⟩ := mem_ready.1 hr
    have htlt : t < ops.size := (Array.getElem?_eq_some_iff.1 hot).1
    by_cases htn : t = n
    · subst htn
      have h1 := List.all_eq_true.1 hs i (List.mem_range.2 hi)
      rw [Bool.or_eq_true, decide_eq_true_eq] at h1
      have h1 := h1.resolve_left (fun h => by have := hp i h; rw [getD_both hun] at this; cases this)
      obtain ⟨j, hj, hj2⟩ := List.any_eq_true.1 h1
      simp only [Bool.and_eq_true, decide_eq_true_eq] at hj2
      obtain ⟨oj, hoj, e, he, hb, hon⟩ := Region.waitsFor_spec hj2.2
      have hjle : j ≤ t := by have := List.mem_range.1 hj; omega
      by_cases hjt : j = t
      · subst hjt
        have : oj = ot := Option.some.inj (hoj.symm.trans hot)
        subst this
        have h2 := hall e he hb
        rw [hon, getD_both hun] at h2
        cases h2
      · cases hl : listed.getD j false with
        | true =>
          have h2 := inv.closed j oj hoj hl e he hb
          rw [hon, getD_both hun] at h2
          cases h2
        | false =>
          have hjs : j < listed.size := by rw [inv.size]; omega
          exact ih (t - j) (by omega) j rfl (by omega) (getD_in hjs hl) t (Nat.le_refl _) hr
    · have h1 := List.all_eq_true.1 hc t (List.mem_range.2 htlt)
      simp only [Bool.or_eq_true, decide_eq_true_eq] at h1
      rcases h1 with h1 | h1
      · omega
      · obtain ⟨o', ho', e, he, hb, hon⟩ := Region.waitsFor_spec h1
        have : o' = ot := Option.some.inj (ho'.symm.trans hot)
        subst this
        have h2 := hall e he hb
        rw [hon, getD_both (inv.tail (t - 1) (by omega) (by omega))] at h2
        cases h2

theorem pre_set {m i : Nat} {listed : Array Bool} (hp : ∀ i, i < m → listed.getD i false = true) : ∀ j, j < m → (listed.setIfInBounds i true).getD j false = true := fun j hj => getD_set_true (hp j hj)

theorem wpAnyL_first2 {m n i : Nat} {oi : Oper} {v : Value} {L : Array Bool → Act → Prop} (hi : ops[i]? = some oi) (hsel : ∀ (j : Nat) (o : Oper) cs b, ops[j]? = some o → o.op ≠ .select cs b)
    (hs : sinkFrom md ops m n = true) (hc : Region.chainB md ops n = true) (hn : n < ops.size) (hin : i < n)
    (hdone : ∀ listed a, L listed a → ∀ j ∈ Region.ready md ops listed, n ≤ j) :
    ∀ (f : Nat) (listed : Array Bool) (a : Act), HeadInv md ops n listed → (∀ i, i < m → listed.getD i false = true) →
      (∀ j oj, ops[j]? = some oj → j ≠ i → listed.getD j true = false → (∀ e ∈ oj.after, Region.binds md e = true → e.on ≠ i) → oi.apart ops oj = true) →
      i ∈ Region.ready md ops listed → YieldsAt P ops w oi v a →
      wpAnyL P md ops w n L f (listed.setIfInBounds i true) (a.put oi.dst v) → wpAnyL P md ops w n L (f + 1) listed a := by
  intro f
  induction f with
  | zero =>
    intro listed a inv hp _ hr hy H
    have hun := (mem_ready.1 hr).1
    refine ⟨fun h => (by rw [h] at hr; cases hr), fun j hj => ?_⟩
    have hjn : j < n := by
      rcases Nat.lt_or_ge j n with h | h
      · exact h
      · exact absurd hj (tail_waits2 hs hc hn inv hp _ i rfl hin hun j h)
    refine ⟨hjn, ?_⟩
    by_cases hji : j = i
    · subst hji; exact hy.stOp hi H
    · have := hdone _ _ H j (ready_mono hj hji)
      omega
  | succ f ih =>
    intro listed a inv hp hfree hr hy H
    have hun := (mem_ready.1 hr).1
    refine ⟨fun h => (by rw [h] at hr; cases hr), fun j hj => ?_⟩
    have hjn : j < n := by
      rcases Nat.lt_or_ge j n with h | h
      · exact h
      · exact absurd hj (tail_waits2 hs hc hn inv hp _ i rfl hin hun j h)
    refine ⟨hjn, ?_⟩
    by_cases hji : j = i
    · subst hji; exact hy.stOp hi H
    · have h1 := (H.2 j (ready_mono hj hji)).2
      obtain ⟨hjun, oj, hoj, hall⟩ := mem_ready.1 hj
      have hnot : ∀ e ∈ oj.after, Region.binds md e = true → e.on ≠ i := fun e he hb heq => by
        have h1 := hall e he hb
        rw [heq, getD_both hun] at h1
        cases h1
      have h2 := stOp_put hoj (hfree j oj hoj hji hjun hnot) (fun cs b => hsel i oi cs b hi) (fun cs b => hsel j oj cs b hoj) hy h1
      have hfree' : ∀ k ok, ops[k]? = some ok → k ≠ i → (listed.setIfInBounds j true).getD k true = false →
          (∀ e ∈ ok.after, Region.binds md e = true → e.on ≠ i) → oi.apart ops ok = true := fun k ok hk hki hun hno => by
        refine hfree k ok hk hki ?_ hno
        by_cases hjk : j = k
        · subst hjk; exact hjun
        · rw [getD_set_ne true hjk] at hun; exact hun
      refine stOp_mono (fun a' h3 => ih (listed.setIfInBounds j true) a' (inv.set hj hjn) (pre_set hp) hfree' (ready_mono hr (Ne.symm hji)) h3.1 ?_) h2
      rw [Array.setIfInBounds_comm _ _ hji]
      exact h3.2

theorem wpAnyL_lex2 {m n g : Nat} {Lq : Act → Prop} (hsel : Region.noSelect ops = true) (hs : sinkFrom md ops m n = true) (hc : Region.chainB md ops n = true) (hn : n < ops.size) :
    ∀ (l : List Oper) (k : Nat) (listed : Array Bool) (a : Act), (∀ j, j < l.length → l[j]? = ops[k + j]?) → k + l.length = n → HeadInv md ops n listed → (∀ i, i < m → listed.getD i false = true) →
    Region.lexHead md ops g l.length k listed = true → wpStill P ops w Lq l a →
    wpAnyL P md ops w n (fun listed' a' => Region.seqB md ops g n listed' = true ∧ Lq a') l.length listed a
  | [], k, listed, a, _, hk, _, _, hB, h => by
    have : k = n := by simpa using hk
    subst this
    exact ⟨by simpa [Region.lexHead] using hB, h⟩
  | o :: l, k, listed, a, hl, hk, inv, hp, hB, h => by
    have h0 : ops[k]? = some o := by simpa using (hl 0 (by simp)).symm
    simp only [List.length_cons, Region.lexHead, Bool.and_eq_true] at hB
    obtain ⟨⟨hr, hf⟩, hB'⟩ := hB
    have hkn : k < n := by simp only [List.length_cons] at hk; omega
    have hr' : k ∈ Region.ready md ops listed := by simpa using hr
    have hst : stOp P ops w k (wpStill P ops w Lq l) a := by unfold stOp; simp only [h0]; exact h
    obtain ⟨v, hy, hK⟩ := yieldsAt_of_stOp h0 hst
    exact wpAnyL_first2 h0 (Region.noSelect_spec hsel) hs hc hn hkn (fun listed' a' hL => seqB_ready hL.1) l.length listed a inv hp (Region.free_spec h0 hf) hr' hy
      (wpAnyL_lex2 hsel hs hc hn l (k + 1) _ _ (fun j hj => by have := hl (j + 1) (by simp; omega); simpa [Nat.add_assoc, Nat.add_comm 1 j] using this) (by simp only [List.length_cons] at hk; omega) (inv.set hr' hkn) (pre_set hp) hB' hK)

/-- The first m are listed; the others as they stand. -/
def firstListed (s m : Nat) : Array Bool := ((List.range s).map fun i => decide (i < m)).toArray
def tail2B (md : Region.Mode) (ops : Array Oper) (m n : Nat) : Bool :=
  Region.noSelect ops && decide (n < ops.size) && decide (m ≤ n) && sinkFrom md ops m n && Region.chainB md ops n && Region.lexHead md ops (ops.size - n) (n - m) m (firstListed ops.size m) && ((List.range m).all fun j => (ops[j]?).any fun o => o.after.isEmpty)
theorem firstListed_get (s m i : Nat) (b : Bool) : (firstListed s m).getD i b = if i < s then decide (i < m) else b := by
  unfold firstListed
  by_cases h : i < s
  · simp [Array.getD, h]
  · simp [Array.getD, h]
theorem wpAny_tail2 {l : List Oper} {a : Act} {Q : Exit → Act → World → Prop} (m n : Nat) (hB : tail2B .any l.toArray m n = true)
    (h : wpStill P l.toArray w (fun a' => wpList P l.toArray Q (l.drop n) a' w) ((l.take n).drop m) a) : wpAny P .any l.toArray Q (l.length - m) (firstListed l.length m) a w := by
  simp only [tail2B, Bool.and_eq_true, decide_eq_true_eq] at hB
  obtain ⟨⟨⟨⟨⟨⟨hsel, hn⟩, hmn⟩, hs⟩, hc⟩, hlex⟩, hno⟩ := hB
  have hn' : n < l.length := by simpa using hn
  have htl : ((l.take n).drop m).length = n - m := by simp; omega
  have hdl : (l.drop n).length = l.toArray.size - n := by simp
  have hsz : l.toArray.size = l.length := by simp
  rw [hsz] at hlex
  have inv0 : HeadInv .any l.toArray n (firstListed l.length m) :=
    ⟨by simp [firstListed], fun j oj hj hl e he hb => by
      rw [firstListed_get] at hl
      by_cases hjl : j < l.length
      · rw [if_pos hjl, decide_eq_true_eq] at hl
        have h1 := List.all_eq_true.1 hno j (List.mem_range.2 hl)
        rw [hj] at h1
        simp only [Option.any_some, Array.isEmpty_iff] at h1
        rw [h1] at he
        simp at he
      · rw [if_neg hjl] at hl; exact absurd hl (by decide),
    fun t ht ht' => by rw [firstListed_get, if_pos (by omega), decide_eq_false_iff_not]; omega⟩
  have hp : ∀ i, i < m → (firstListed l.length m).getD i false = true := fun i hi => by rw [firstListed_get, if_pos (by omega), decide_eq_true_eq]; exact hi
  have H := wpAnyL_lex2 (md := .any) (g := l.length - n) hsel hs hc hn ((l.take n).drop m) m _ a (fun j hj => by
    rw [htl] at hj
    simp [List.getElem?_drop, List.getElem?_take, show m + j < n by omega]) (by rw [htl]; omega) inv0 hp (by rw [htl]; exact hlex) h
  have := wpAny_of_head (Q' := Q) (g := l.toArray.size - n) (fun listed a' hL => by
    have := wpAny_of_seq (md := .any) (Q' := Q) (l.drop n) n listed a' w (fun j => by simp [List.getElem?_drop]) (by rw [hdl]; exact hL.1) hL.2
    rwa [hdl] at this) _ _ _ H
  rw [htl, hsz, show n - m + (l.length - n) = l.length - m by omega] at this
  exact this
end

theorem OwnV.typed {W : World} {base : Nat} {v : Value} {n : Nat} {x : Nat → Nat} (h : OwnV W base v n x) : (v = .slice none 0 0 ∧ n = 0) ∨ ∃ g c cs, v = .slice (some ⟨g, 0, none⟩) n c ∧ base ≤ g ∧ n ≤ c ∧ W.heap[g]? = some (.cells cs 25 (0, 0)) := by
  obtain ⟨hl, h⟩ := h
  rcases h with h | ⟨g, cap, cur, e, hbg, hg, hnc, hcm, hcs, htake⟩
  · exact .inl h
  · exact .inr ⟨g, cap, cur, e, hbg, hnc, hg⟩

/-- append onto a slice without room. -/
def AppFull (W : World) (A : Option Addr) (n : Nat) (x : Nat → Nat) (m : Nat) (y : Nat → Nat) (A' : Option Addr) (c' : Nat) (W' : World) : Prop :=
  Below W.heap.size W W' ∧ RowU W' A' (n + m) (catN x n y) ∧ n + m ≤ c' ∧ (A' = none → n + m = 0) ∧ ∀ ad, A' = some ad → A' = A ∨ (W.heap.size ≤ ad.block ∧ ∃ cs, W'.heap[ad.block]? = some (.cells cs 25 (0, 0)))
theorem appFull_own {W W' : World} {A : Option Addr} {n m : Nat} {x y : Nat → Nat} {v : Value} (ho : OwnV W' W.heap.size v (n + m) (catN x n y)) (hg : W.grownBy W' none) : ∃ A' c', v = .slice A' (n + m) c' ∧ AppFull W A n x m y A' c' W' := by
  obtain ⟨A', c', rfl, hc, hr, -, hn⟩ := ho.row
  refine ⟨A', c', rfl, (Below.refl _ _).grown hg (Nat.le_refl _) (fun k e => by cases e), hr, hc, hn, fun ad e => .inr ?_⟩
  rcases ho.typed with ⟨e2, -⟩ | ⟨g, c2, cs, e2, hb, -, hg2⟩
  · injection e2 with e3
    rw [e] at e3; cases e3
  · injection e2 with e3
    rw [e] at e3
    injection e3 with e3
    rw [e3]
    exact ⟨hb, cs, hg2⟩
set_option maxRecDepth 100000 in
theorem run_append_full (W : World) (A : Option Addr) (n : Nat) (x : Nat → Nat) (B : Option Addr) (m c : Nat) (y : Nat → Nat) (hA : RowU W A n x) (hn : A = none → n = 0) (hB : RowU W B m y) (hlen : n + m ≤ 100000) :
    ∃ A' c' W', (Builtin.append_ #[23, 23] 23 #[.slice A n n, .slice B m c]).run Try.prog W = .ok (.slice A' (n + m) c') W' ∧ AppFull W A n x m y A' c' W' := by
  obtain ⟨i, hi, hz⟩ := Option.map_eq_some_iff.1 u_info
  simp only [Prod.mk.injEq] at hz
  rcases Nat.eq_zero_or_pos m with h0 | h0
  · subst h0
    have hs : Src Try.prog i.size 23 (.slice B 0 c) 0 [] W := by
      cases B with
      | none => exact Src.ofNil W Try.underlying23 c
      | some b => exact Src.ofSlice W Try.underlying23 b 0 c [] (by simp) (fun j u h => by simp at h) (fun u h => by cases h)
    refine ⟨A, n, W, run_append_nothing W 23 23 23 25 i Try.underlying23 hi A n n (Nat.le_refl _) _ hs, Below.refl _ _, ?_, Nat.le_refl _, hn, fun ad e => .inl rfl⟩
    exact hA.congr fun k hk => (if_pos hk).symm
  · obtain ⟨b, rfl, hb⟩ := hB h0
    cases A with
    | none =>
      have := hn rfl
      subst this
      obtain ⟨v, W', h1, h2, h3, -⟩ := run_appendU W W.heap.size 23 (.slice none 0 0) 0 x (some b) m c y (OwnV.nil _ _ _) (Nat.le_refl _) hB (by omega)
      obtain ⟨A', c', rfl, h4⟩ := appFull_own (A := none) h2 h3
      exact ⟨A', c', W', h1, h4⟩
    | some a =>
      have hold : ∀ j u, (rowL n x)[j]? = some u → W.cell? (a.add j) = some u := fun j u h => by
        obtain ⟨h1, h2⟩ := rowL_get n x j u h
        obtain ⟨ad', e, hc⟩ := hA (by omega)
        injection e with e
        subst e
        rw [h2, hc j h1]
      have hnew : ∀ j u, (rowL m y)[j]? = some u → W.cell? (b.add j) = some u := fun j u h => by
        obtain ⟨h1, h2⟩ := rowL_get m y j u h
        rw [h2, hb j h1]
      obtain ⟨v, W', h1, h2, h3⟩ := run_append_arg_grows (P := Try.prog) W 23 23 25 i (.int .u32 0) 1 4 Try.underlying23 hi hz.1 hz.2.1 hz.2.2 rfl (by decide) a n n (rowL n x) (by rw [rowL_len, Nat.mul_one]) hold b m c (rowL m y) (by rw [rowL_len, Nat.mul_one]) hnew (by omega) (by unfold maxLen; omega) (by omega)
      rw [rowL_cat] at h2
      obtain ⟨A', c', rfl, h4⟩ := appFull_own (A := some a) h2 h3
      exact ⟨A', c', W', h1, h4⟩

theorem sc_set {w : World} {g : Nat} {t : TypeId} {cs : Array Value} (h : w.heap[g]? = some (.cells cs t (0, 0))) (i : Nat) (u : Value) : (w.setCell ⟨g, i, none⟩ u).heap[g]? = some (.cells (cs.setIfInBounds i u) t (0, 0)) := by
  simp [World.setCell, Array.getElem?_modify, h]
def row3 (f : Nat → Value) : Array Value := #[f 0, f 1, f 2]
def updF {α : Type} (f : Nat → α) (k : Nat) (v : α) : Nat → α := fun i => if i = k then v else f i
theorem updF_same {α : Type} (f : Nat → α) (k : Nat) (v : α) : updF f k v k = v := if_pos rfl
theorem updF_other {α : Type} (f : Nat → α) {k i : Nat} (v : α) (h : i ≠ k) : updF f k v i = f i := if_neg h
theorem row3_get (f : Nat → Value) {k : Nat} (hk : k < 3) : (row3 f)[k]? = some (f k) := by
  rcases (show k = 0 ∨ k = 1 ∨ k = 2 by omega) with rfl | rfl | rfl <;> rfl
theorem row3_set (f h : Nat → Value) {k : Nat} (hk : k < 3) (v : Value) (h1 : h k = v) (h2 : ∀ i, i ≠ k → h i = f i) : (row3 f).setIfInBounds k v = row3 h := by
  rcases (show k = 0 ∨ k = 1 ∨ k = 2 by omega) with rfl | rfl | rfl
  · show #[v, f 1, f 2] = #[h 0, h 1, h 2]; rw [h1, h2 1 (by decide), h2 2 (by decide)]
  · show #[f 0, v, f 2] = #[h 0, h 1, h 2]; rw [h1, h2 0 (by decide), h2 2 (by decide)]
  · show #[f 0, f 1, v] = #[h 0, h 1, h 2]; rw [h1, h2 0 (by decide), h2 1 (by decide)]

/-- Three accumulators, three rows. -/
structure TriS (w W : World) (ga gf : Nat) (g : Nat → Nat) (S : Nat → Ac) (A : Nat → Option Addr) (n c : Nat → Nat) (x : Nat → Nat → Nat) : Prop where
  ha : W.heap[ga]? = some (.cells (row3 fun k => .pointer (some ⟨g k, 0, none⟩)) 44 (0, 0))
  hf : W.heap[gf]? = some (.cells (row3 fun k => .slice (A k) (n k) (c k)) 23 (0, 0))
  acc : ∀ k, k < 3 → AcAt W (g k) (S k)
  row : ∀ k, k < 3 → RowU W (A k) (n k) (x k)
  cap : ∀ k, k < 3 → n k ≤ c k ∧ (A k = none → n k = 0) ∧ ∀ i, i < n k → x k i < 4294967296
  blk : ∀ k, k < 3 → ∀ ad, A k = some ad → ∃ cs, W.heap[ad.block]? = some (.cells cs 25 (0, 0))
  inj : ∀ i j, i < 3 → j < 3 → g i = g j → i = j
  bel : Below w.heap.size w W
  ga0 : w.heap.size ≤ ga
  gf0 : w.heap.size ≤ gf
  g0 : ∀ k, k < 3 → w.heap.size ≤ g k
section
variable {w W W' : World} {ga gf : Nat} {g : Nat → Nat} {S : Nat → Ac} {A : Nat → Option Addr} {n c : Nat → Nat} {x : Nat → Nat → Nat}

theorem heap_lt {W : World} {k : Nat} {o : Obj} (h : W.heap[k]? = some o) : k < W.heap.size := (Array.getElem?_eq_some_iff.1 h).1
theorem two_types {W : World} {g h : Nat} {cs ds : Array Value} {t u : TypeId} {p q : Nat × Nat} (h1 : W.heap[g]? = some (.cells cs t p)) (h2 : W.heap[h]? = some (.cells ds u q)) (hne : t ≠ u) : g ≠ h := fun e => by
  subst e
  rw [h1] at h2
  injection h2 with h2
  injection h2 with _ h2
  exact hne h2
theorem RowU.grownO {W W' : World} {A : Option Addr} {n : Nat} {x : Nat → Nat} {r : Option Nat} (h : RowU W A n x) (hb : W.grownBy W' r) (hne : ∀ ad, A = some ad → some ad.block ≠ r) : RowU W' A n x := fun hn => by
  obtain ⟨ad, e, hc⟩ := h hn
  refine ⟨ad, e, fun i hi => hb.cell (hc i hi) ?_⟩
  have h2 : (ad.add i).block = ad.block := by unfold Addr.add; split <;> rfl
  rw [h2]
  exact hne ad e
/-- Blocks that are none of these are written. -/
theorem TriS.keep (h : TriS w W ga gf g S A n c x) {r : Option Nat} (hg : W.grownBy W' r) (h0 : ∀ q, r = some q → w.heap.size ≤ q) (h1 : some ga ≠ r) (h2 : some gf ≠ r) (h3 : ∀ k, k < 3 → some (g k) ≠ r) (h4 : ∀ k, k < 3 → ∀ ad, A k = some ad → some ad.block ≠ r) : TriS w W' ga gf g S A n c x where
  ha := (hg.block _ (heap_lt h.ha) h1).trans h.ha
  hf := (hg.block _ (heap_lt h.hf) h2).trans h.hf
  acc := fun k hk => by
    obtain ⟨f, hA, hL⟩ := h.acc k hk
    exact ⟨f, (hg.block _ (heap_lt hA) (h3 k hk)).trans hA, hL⟩
  row := fun k hk => (h.row k hk).grownO hg (h4 k hk)
  cap := h.cap
  blk := fun k hk ad e => by
    obtain ⟨cs, hc⟩ := h.blk k hk ad e
    exact ⟨cs, (hg.block _ (heap_lt hc) (h4 k hk ad e)).trans hc⟩
  inj := h.inj
  bel := h.bel.grown hg h.bel.size h0
  ga0 := h.ga0
  gf0 := h.gf0
  g0 := h.g0
theorem TriS.below (h : TriS w W ga gf g S A n c x) (hb : Below W.heap.size W W') : TriS w W' ga gf g S A n c x :=
  h.keep (r := none) (grown_below none hb) (fun q e => by cases e) (fun e => by cases e) (fun e => by cases e) (fun _ _ e => by cases e) (fun _ _ _ _ e => by cases e)
theorem TriS.drew (h : TriS w W ga gf g S A n c x) : TriS w W.drew ga gf g S A n c x := h.below (Below.refl _ _).drew
theorem grown_set (W : World) (p : Addr) (u : Value) : W.grownBy (W.setCell p u) (some p.block) := ⟨rfl, rfl, rfl, by simp [World.setCell], fun k _ hne => Below.heap_setCell _ _ _ _ (fun e => hne (by rw [e]))⟩
/-- A row of samples beside these is written. -/
theorem TriS.beside (h : TriS w W ga gf g S A n c x) {q : Nat} (hq : w.heap.size ≤ q) {cs : Array Value} (hc : W.heap[q]? = some (.cells cs 25 (0, 0))) (hn : ∀ k, k < 3 → ∀ ad, A k = some ad → ad.block ≠ q) (i : Nat) (u : Value) : TriS w (W.setCell ⟨q, i, none⟩ u) ga gf g S A n c x :=
  h.keep (grown_set W ⟨q, i, none⟩ u) (fun k e => by injection e with e; rw [← e]; exact hq)
    (fun e => by injection e with e; exact two_types h.ha hc (by decide) e)
    (fun e => by injection e with e; exact two_types h.hf hc (by decide) e)
    (fun k hk e => by injection e with e; obtain ⟨f, hA, _⟩ := h.acc k hk; exact two_types hA hc (by decide) e)
    (fun k hk ad e e2 => by injection e2 with e2; exact hn k hk ad e e2)
/-- One accumulator goes on. -/
theorem TriS.setAcc (h : TriS w W ga gf g S A n c x) {k : Nat} (hk : k < 3) {T : Ac} (hA : AccOf W (g k) T W') : TriS w W' ga gf g (updF S k T) A n c x := by
  have hg := hA.gr
  obtain ⟨f0, hA0, _⟩ := h.acc k hk
  have hne1 : ga ≠ g k := two_types h.ha hA0 (by decide)
  have hne2 : gf ≠ g k := two_types h.hf hA0 (by decide)
  have hne4 : ∀ i, i < 3 → ∀ ad, A i = some ad → some ad.block ≠ some (g k) := fun i hi ad e e2 => by
    injection e2 with e2
    obtain ⟨cs, hc⟩ := h.blk i hi ad e
    exact two_types hc hA0 (by decide) e2
  exact {
    ha := (hg.block _ (heap_lt h.ha) (fun e => by injection e with e; exact hne1 e)).trans h.ha
    hf := (hg.block _ (heap_lt h.hf) (fun e => by injection e with e; exact hne2 e)).trans h.hf
    acc := fun i hi => by
      by_cases e : i = k
      · rw [e, updF_same]; exact hA.at
      · rw [updF_other _ _ e]
        obtain ⟨f, hB, hL⟩ := h.acc i hi
        exact ⟨f, (hg.block _ (heap_lt hB) (fun e2 => by injection e2 with e2; exact e (h.inj i k hi hk e2))).trans hB, hL⟩
    row := fun i hi => (h.row i hi).grownO hg (hne4 i hi)
    cap := h.cap
    blk := fun i hi ad e => by
      obtain ⟨cs, hc⟩ := h.blk i hi ad e
      exact ⟨cs, (hg.block _ (heap_lt hc) (hne4 i hi ad e)).trans hc⟩
    inj := h.inj
    bel := h.bel.grown hg h.bel.size (fun q e => by injection e with e; rw [← e]; exact h.g0 k hk)
    ga0 := h.ga0
    gf0 := h.gf0
    g0 := h.g0 }
/-- One row is another one. -/
theorem TriS.setRow (h : TriS w W ga gf g S A n c x) {k : Nat} (hk : k < 3) {A' : Option Addr} {n' c' : Nat} {x' : Nat → Nat} (hr : RowU W A' n' x') (hc : n' ≤ c') (hn : A' = none → n' = 0) (hx : ∀ i, i < n' → x' i < 4294967296) (hb : ∀ ad, A' = some ad → ∃ cs, W.heap[ad.block]? = some (.cells cs 25 (0, 0))) :
    TriS w (W.setCell ⟨gf, k, none⟩ (.slice A' n' c')) ga gf g S (updF A k A') (updF n k n') (updF c k c') (updF x k x') := by
  have hg := grown_set W ⟨gf, k, none⟩ (.slice A' n' c')
  have kp : ∀ {q : Nat} {cs : Array Value} {t : TypeId} {p : Nat × Nat}, W.heap[q]? = some (.cells cs t p) → t ≠ 23 → (W.setCell ⟨gf, k, none⟩ (.slice A' n' c')).heap[q]? = some (.cells cs t p) := fun h1 h2 => (hg.block _ (heap_lt h1) (fun e => by injection e with e; exact two_types h1 h.hf h2 e)).trans h1
  have rk : ∀ {B : Option Addr} {m : Nat} {y : Nat → Nat}, RowU W B m y → (∀ ad, B = some ad → ∃ cs, W.heap[ad.block]? = some (.cells cs 25 (0, 0))) → RowU (W.setCell ⟨gf, k, none⟩ (.slice A' n' c')) B m y := fun hr hb => hr.grownO hg fun ad e e2 => by
    injection e2 with e2
    obtain ⟨cs, hc⟩ := hb ad e
    exact two_types hc h.hf (by decide) e2
  exact {
    ha := kp h.ha (by decide)
    hf := by rw [sc_set h.hf]; rw [row3_set _ (fun i => .slice (updF A k A' i) (updF n k n' i) (updF c k c' i)) hk _ (by simp only [updF_same]) (fun i hi => by simp only [updF_other _ _ hi])]
    acc := fun i hi => by
      obtain ⟨f, hB, hL⟩ := h.acc i hi
      exact ⟨f, kp hB (by decide), hL⟩
    row := fun i hi => by
      by_cases e : i = k
      · subst e; rw [updF_same, updF_same, updF_same]; exact rk hr hb
      · rw [updF_other _ _ e, updF_other _ _ e, updF_other _ _ e]; exact rk (h.row i hi) (h.blk i hi)
    cap := fun i hi => by
      by_cases e : i = k
      · subst e; rw [updF_same, updF_same, updF_same, updF_same]; exact ⟨hc, hn, hx⟩
      · rw [updF_other _ _ e, updF_other _ _ e, updF_other _ _ e, updF_other _ _ e]; exact h.cap i hi
    blk := fun i hi ad e => by
      by_cases e2 : i = k
      · subst e2
        rw [updF_same] at e
        obtain ⟨cs, hcs⟩ := hb ad e
        exact ⟨cs, kp hcs (by decide)⟩
      · rw [updF_other _ _ e2] at e
        obtain ⟨cs, hcs⟩ := h.blk i hi ad e
        exact ⟨cs, kp hcs (by decide)⟩
    inj := h.inj
    bel := h.bel.setCell (p := ⟨gf, k, none⟩) h.gf0 _
    ga0 := h.ga0
    gf0 := h.gf0
    g0 := h.g0 }
/-- One accumulator is another one. -/
theorem TriS.setPtr (h : TriS w W ga gf g S A n c x) {k : Nat} (hk : k < 3) {g' : Nat} {T : Ac} (hA : AcAt W g' T) (hg' : w.heap.size ≤ g') (hne : ∀ i, i < 3 → g i ≠ g') :
    TriS w (W.setCell ⟨ga, k, none⟩ (.pointer (some ⟨g', 0, none⟩))) ga gf (updF g k g') (updF S k T) A n c x := by
  have hg := grown_set W ⟨ga, k, none⟩ (.pointer (some ⟨g', 0, none⟩))
  have kp : ∀ {q : Nat} {cs : Array Value} {t : TypeId} {p : Nat × Nat}, W.heap[q]? = some (.cells cs t p) → t ≠ 44 → (W.setCell ⟨ga, k, none⟩ (.pointer (some ⟨g', 0, none⟩))).heap[q]? = some (.cells cs t p) := fun h1 h2 => (hg.block _ (heap_lt h1) (fun e => by injection e with e; exact two_types h1 h.ha h2 e)).trans h1
  exact {
    ha := by rw [sc_set h.ha]; rw [row3_set _ (fun i => .pointer (some ⟨updF g k g' i, 0, none⟩)) hk _ (by simp only [updF_same]) (fun i hi => by simp only [updF_other _ _ hi])]
    hf := kp h.hf (by decide)
    acc := fun i hi => by
      by_cases e : i = k
      · subst e
        rw [updF_same, updF_same]
        obtain ⟨f, hB, hL⟩ := hA
        exact ⟨f, kp hB (by decide), hL⟩
      · rw [updF_other _ _ e, updF_other _ _ e]
        obtain ⟨f, hB, hL⟩ := h.acc i hi
        exact ⟨f, kp hB (by decide), hL⟩
    row := fun i hi => (h.row i hi).grownO hg fun ad e e2 => by
      injection e2 with e2
      obtain ⟨cs, hc⟩ := h.blk i hi ad e
      exact two_types hc h.ha (by decide) e2
    cap := h.cap
    blk := fun i hi ad e => by
      obtain ⟨cs, hcs⟩ := h.blk i hi ad e
      exact ⟨cs, kp hcs (by decide)⟩
    inj := fun i j hi hj e => by
      by_cases e1 : i = k
      · by_cases e2 : j = k
        · rw [e1, e2]
        · rw [e1, updF_same, updF_other _ _ e2] at e
          exact absurd e.symm (hne j hj)
      · by_cases e2 : j = k
        · rw [e2, updF_same, updF_other _ _ e1] at e
          exact absurd e (hne i hi)
        · rw [updF_other _ _ e1, updF_other _ _ e2] at e
          exact h.inj i j hi hj e
    bel := h.bel.setCell (p := ⟨ga, k, none⟩) h.ga0 _
    ga0 := h.ga0
    gf0 := h.gf0
    g0 := fun i hi => by
      by_cases e : i = k
      · rw [e, updF_same]; exact hg'
      · rw [updF_other _ _ e]; exact h.g0 i hi }
theorem TriS.cellA (h : TriS w W ga gf g S A n c x) {k : Nat} (hk : k < 3) : W.cell? ⟨ga, k, none⟩ = some (.pointer (some ⟨g k, 0, none⟩)) ∧ W.frozen? ⟨ga, k, none⟩ = false := ⟨(ucell h.ha k).trans (row3_get _ hk), ufree h.ha k⟩
theorem TriS.cellF (h : TriS w W ga gf g S A n c x) {k : Nat} (hk : k < 3) : W.cell? ⟨gf, k, none⟩ = some (.slice (A k) (n k) (c k)) ∧ W.frozen? ⟨gf, k, none⟩ = false := ⟨(ucell h.hf k).trans (row3_get _ hk), ufree h.hf k⟩
end

/-- The state between two steps. -/
def ScrS (w : World) (ga gf : Nat) (M : Nat) (W : World) : Prop := ∃ g A n c x, TriS w W ga gf g (fun k => acAll acNone (x k) (n k)) A n c x ∧ ∀ k, k < 3 → n k ≤ 2000 + M
theorem TriS.scrS {w W : World} {ga gf M : Nat} {g : Nat → Nat} {S : Nat → Ac} {A : Nat → Option Addr} {n c : Nat → Nat} {x : Nat → Nat → Nat} (h : TriS w W ga gf g S A n c x) (hS : ∀ k, k < 3 → S k = acAll acNone (x k) (n k)) (hn : ∀ k, k < 3 → n k ≤ 2000 + M) : ScrS w ga gf M W :=
  ⟨g, A, n, c, x, { h with acc := fun k hk => by have := h.acc k hk; rw [hS k hk] at this; exact this }, hn⟩

/-- A step's variables: the step's copy at gs; a row q of samples that came in. -/
structure StpS (w W : World) (ga gf : Nat) (g : Nat → Nat) (S : Nat → Ac) (A : Nat → Option Addr) (n c : Nat → Nat) (x : Nat → Nat → Nat) (gs : Nat) (sv : Array Value) : Prop where
  tri : TriS w W ga gf g S A n c x
  sb : W.heap[gs]? = some (.cells sv 49 (0, 0))
  gs0 : w.heap.size ≤ gs
structure InS (w W : World) (ga gf : Nat) (g : Nat → Nat) (S : Nat → Ac) (A : Nat → Option Addr) (n c : Nat → Nat) (x : Nat → Nat → Nat) (gs : Nat) (sv : Array Value) (q m : Nat) (f : Nat → Nat) : Prop where
  stp : StpS w W ga gf g S A n c x gs sv
  qb : W.heap[q]? = some (.cells (arrU m f) 25 (0, 0))
  qn : ∀ k, k < 3 → ∀ ad, A k = some ad → ad.block ≠ q
  q0 : w.heap.size ≤ q
section
variable {w W W' : World} {ga gf gs q m : Nat} {g : Nat → Nat} {S : Nat → Ac} {A : Nat → Option Addr} {n c : Nat → Nat} {x : Nat → Nat → Nat} {sv : Array Value} {f : Nat → Nat}
theorem StpS.below (h : StpS w W ga gf g S A n c x gs sv) (hb : Below W.heap.size W W') : StpS w W' ga gf g S A n c x gs sv := ⟨h.tri.below hb, (hb.block _ (heap_lt h.sb)).trans h.sb, h.gs0⟩
theorem InS.below (h : InS w W ga gf g S A n c x gs sv q m f) (hb : Below W.heap.size W W') : InS w W' ga gf g S A n c x gs sv q m f := ⟨h.stp.below hb, (hb.block _ (heap_lt h.qb)).trans h.qb, h.qn, h.q0⟩
theorem StpS.setAcc (h : StpS w W ga gf g S A n c x gs sv) {k : Nat} (hk : k < 3) {T : Ac} (hA : AccOf W (g k) T W') : StpS w W' ga gf g (updF S k T) A n c x gs sv := by
  obtain ⟨f0, hA0, _⟩ := h.tri.acc k hk
  exact ⟨h.tri.setAcc hk hA, (hA.gr.block _ (heap_lt h.sb) (fun e => by injection e with e; exact two_types h.sb hA0 (by decide) e)).trans h.sb, h.gs0⟩
theorem InS.setAcc (h : InS w W ga gf g S A n c x gs sv q m f) {k : Nat} (hk : k < 3) {T : Ac} (hA : AccOf W (g k) T W') : InS w W' ga gf g (updF S k T) A n c x gs sv q m f := by
  obtain ⟨f0, hA0, _⟩ := h.stp.tri.acc k hk
  exact ⟨h.stp.setAcc hk hA, (hA.gr.block _ (heap_lt h.qb) (fun e => by injection e with e; exact two_types h.qb hA0 (by decide) e)).trans h.qb, h.qn, h.q0⟩
theorem StpS.setRow (h : StpS w W ga gf g S A n c x gs sv) {k : Nat} (hk : k < 3) {A' : Option Addr} {n' c' : Nat} {x' : Nat → Nat} (hr : RowU W A' n' x') (hc : n' ≤ c') (hn : A' = none → n' = 0) (hx : ∀ i, i < n' → x' i < 4294967296) (hb : ∀ ad, A' = some ad → ∃ cs, W.heap[ad.block]? = some (.cells cs 25 (0, 0))) :
    StpS w (W.setCell ⟨gf, k, none⟩ (.slice A' n' c')) ga gf g S (updF A k A') (updF n k n') (updF c k c') (updF x k x') gs sv :=
  ⟨h.tri.setRow hk hr hc hn hx hb, (Below.heap_setCell _ _ _ _ (two_types h.sb h.tri.hf (by decide))).trans h.sb, h.gs0⟩
theorem StpS.setPtr (h : StpS w W ga gf g S A n c x gs sv) {k : Nat} (hk : k < 3) {g' : Nat} {T : Ac} (hA : AcAt W g' T) (hg' : w.heap.size ≤ g') (hne : ∀ i, i < 3 → g i ≠ g') :
    StpS w (W.setCell ⟨ga, k, none⟩ (.pointer (some ⟨g', 0, none⟩))) ga gf (updF g k g') (updF S k T) A n c x gs sv :=
  ⟨h.tri.setPtr hk hA hg' hne, (Below.heap_setCell _ _ _ _ (two_types h.sb h.tri.ha (by decide))).trans h.sb, h.gs0⟩
/-- append onto row k, without room. -/
theorem StpS.append (h : StpS w W ga gf g S A n c x gs sv) {k : Nat} (hk : k < 3) {B : Option Addr} {mm cc : Nat} {y : Nat → Nat} (hB : RowU W B mm y) (hy : ∀ i, i < mm → y i < 4294967296) (hlen : n k + mm ≤ 100000) :
    ∃ A' c' W', (Builtin.append_ #[23, 23] 23 #[.slice (A k) (n k) (n k), .slice B mm cc]).run Try.prog W = .ok (.slice A' (n k + mm) c') W' ∧ Below W.heap.size W W' ∧ (∀ ad, A' = some ad → A' = A k ∨ W.heap.size ≤ ad.block) ∧ W'.cell? ⟨gf, k, none⟩ = some (.slice (A k) (n k) (c k)) ∧ W'.frozen? ⟨gf, k, none⟩ = false ∧
      StpS w (W'.setCell ⟨gf, k, none⟩ (.slice A' (n k + mm) c')) ga gf g S (updF A k A') (updF n k (n k + mm)) (updF c k c') (updF x k (catN (x k) (n k) y)) gs sv := by
  obtain ⟨hc, hn, hx⟩ := h.tri.cap k hk
  obtain ⟨A', c', W', hrun, hbel, hrow, hcap, hnil, hblk⟩ := run_append_full W (A k) (n k) (x k) B mm cc y (h.tri.row k hk) hn hB hlen
  have h2 := h.below hbel
  obtain ⟨c1, c2⟩ := h2.tri.cellF hk
  refine ⟨A', c', W', hrun, hbel, fun ad e => (hblk ad e).imp id (·.1), c1, c2, h2.setRow hk hrow hcap hnil (fun i hi => ?_) (fun ad e => ?_)⟩
  · unfold catN
    by_cases hlt : i < n k
    · rw [if_pos hlt]; exact hx i hlt
    · rw [if_neg hlt]; exact hy _ (by omega)
  · rcases hblk ad e with e2 | ⟨-, cs, hcs⟩
    · exact h2.tri.blk k hk ad (by rw [← e2]; exact e)
    · exact ⟨cs, hcs⟩
end
section
variable {w W W' : World} {ga gf gs q m : Nat} {g : Nat → Nat} {S : Nat → Ac} {A : Nat → Option Addr} {n c : Nat → Nat} {x : Nat → Nat → Nat} {sv : Array Value} {f : Nat → Nat}
theorem InS.append (h : InS w W ga gf g S A n c x gs sv q m f) {k : Nat} (hk : k < 3) {B : Option Addr} {mm cc : Nat} {y : Nat → Nat} (hB : RowU W B mm y) (hy : ∀ i, i < mm → y i < 4294967296) (hlen : n k + mm ≤ 100000) :
    ∃ A' c' W', (Builtin.append_ #[23, 23] 23 #[.slice (A k) (n k) (n k), .slice B mm cc]).run Try.prog W = .ok (.slice A' (n k + mm) c') W' ∧ W'.cell? ⟨gf, k, none⟩ = some (.slice (A k) (n k) (c k)) ∧ W'.frozen? ⟨gf, k, none⟩ = false ∧
      InS w (W'.setCell ⟨gf, k, none⟩ (.slice A' (n k + mm) c')) ga gf g S (updF A k A') (updF n k (n k + mm)) (updF c k c') (updF x k (catN (x k) (n k) y)) gs sv q m f := by
  obtain ⟨A', c', W', h1, h2, h3, h4, h5, h6⟩ := h.stp.append hk hB hy hlen (cc := cc)
  have hq := h.below h2
  refine ⟨A', c', W', h1, h4, h5, h6, (Below.heap_setCell _ _ _ _ (two_types hq.qb hq.stp.tri.hf (by decide))).trans hq.qb, fun i hi ad e => ?_, h.q0⟩
  by_cases e2 : i = k
  · subst e2
    rw [updF_same] at e
    rcases h3 ad e with e3 | e3
    · exact h.qn i hi ad (by rw [← e3]; exact e)
    · have := heap_lt h.qb
      omega
  · rw [updF_other _ _ e2] at e
    exact h.qn i hi ad e
theorem InS.put (h : InS w W ga gf g S A n c x gs sv q m f) (i v : Nat) : InS w (W.setCell ⟨q, i, none⟩ (.int .u32 (v : Int))) ga gf g S A n c x gs sv q m (updN f i v) :=
  ⟨⟨h.stp.tri.beside h.q0 h.qb h.qn i _, (Below.heap_setCell _ _ _ _ (two_types h.stp.sb h.qb (by decide))).trans h.stp.sb, h.stp.gs0⟩, uset h.qb i v, h.qn, h.q0⟩
theorem StpS.lent (h : StpS w W ga gf g S A n c x gs sv) (hb : Below W.heap.size W W') (hq : W.heap.size ≤ q) (hqb : W'.heap[q]? = some (.cells (arrU m f) 25 (0, 0))) : InS w W' ga gf g S A n c x gs sv q m f :=
  ⟨h.below hb, hqb, fun k hk ad e => by
    obtain ⟨cs, hc⟩ := h.tri.blk k hk ad e
    have := heap_lt hc
    omega, Nat.le_trans h.tri.bel.size hq⟩
theorem InS.ne (h : InS w W ga gf g S A n c x gs sv q m f) {k : Nat} (hk : k < 3) : q ≠ g k := by
  obtain ⟨f0, hA0, _⟩ := h.stp.tri.acc k hk
  exact two_types h.qb hA0 (by decide)
theorem updF_up {α : Type} (f : Nat → α) (k : Nat) (v : α) (i : Nat) : updF f k v i = if i = k then v else f i := rfl
/-- Behind Add or Merge and append. -/
theorem TriS.done {k mm : Nat} {y : Nat → Nat} {A' : Nat → Option Addr} {c' : Nat → Nat} (h : TriS w W ga gf g (updF S k (acAll (S k) y mm)) A' (updF n k (n k + mm)) c' (updF x k (catN (x k) (n k) y))) (hS : ∀ k, S k = acAll acNone (x k) (n k)) {M M' : Nat} (hn : ∀ k, k < 3 → n k ≤ 2000 + M) (hM : M ≤ M') (hk : n k + mm ≤ 2000 + M') : ScrS w ga gf M' W :=
  h.scrS (fun i hi => by
    by_cases e : i = k
    · subst e; rw [updF_same, updF_same, updF_same, hS, acAll_cat]
    · rw [updF_other _ _ e, updF_other _ _ e, updF_other _ _ e, hS]) (fun i hi => by
    by_cases e : i = k
    · subst e; rw [updF_same]; exact hk
    · rw [updF_other _ _ e]; have := hn i hi; omega)
end
def g3 (a b c : Nat) : Nat → Nat := fun k => if k = 0 then a else if k = 1 then b else c
theorem tri_start {w w1 w2 w3 w4 : World} {g0 g1 g2 : Nat} (hb1 : Below w.heap.size w w1) (h0 : w1.heap.size ≤ g0) (a0 : AcAt w2 g0 acNone) (b2 : Below w1.heap.size w1 w2) (h1 : w2.heap.size ≤ g1) (a1 : AcAt w3 g1 acNone) (b3 : Below w2.heap.size w2 w3) (h2 : w3.heap.size ≤ g2) (a2 : AcAt w4 g2 acNone) (b4 : Below w3.heap.size w3 w4) (ga : Nat) (ega : ga = w4.heap.size) :
    ScrS w ga (ga + 1) 0 ((w4.alloc (.cells #[.pointer (some ⟨g0, 0, none⟩), .pointer (some ⟨g1, 0, none⟩), .pointer (some ⟨g2, 0, none⟩)] 44)).alloc (.cells #[.slice none 0 0, .slice none 0 0, .slice none 0 0] 23)) := by
  subst ega
  obtain ⟨wa, ewa⟩ : ∃ wa, wa = w4.alloc (.cells #[.pointer (some ⟨g0, 0, none⟩), .pointer (some ⟨g1, 0, none⟩), .pointer (some ⟨g2, 0, none⟩)] 44) := ⟨_, rfl⟩
  have hsz : wa.heap.size = w4.heap.size + 1 := by rw [ewa]; simp
  have ba : Below w4.heap.size w4 wa := by rw [ewa]; exact (Below.refl _ _).alloc (Nat.le_refl _) _
  have hwa : wa.heap[w4.heap.size]? = some (.cells #[.pointer (some ⟨g0, 0, none⟩), .pointer (some ⟨g1, 0, none⟩), .pointer (some ⟨g2, 0, none⟩)] 44 (0, 0)) := by rw [ewa]; exact heap_alloc_new w4 _
  rw [← ewa, ← hsz]
  have bf : Below wa.heap.size wa (wa.alloc (.cells #[.slice none 0 0, .slice none 0 0, .slice none 0 0] 23)) := (Below.refl _ _).alloc (Nat.le_refl _) _
  have hwf := heap_alloc_new wa (.cells #[.slice none 0 0, .slice none 0 0, .slice none 0 0] 23)
  have l0 := a0.lt
  have l1 := a1.lt
  have l2 := a2.lt
  have s1 := hb1.size
  have s2 := b2.size
  have s3 := b3.size
  have s4 := b4.size
  refine ⟨g3 g0 g1 g2, fun _ => none, fun _ => 0, fun _ => 0, fun _ _ => 0, ?_, fun k hk => by show (0 : Nat) ≤ _; omega⟩
  have hA : ∀ k, k < 3 → AcAt (wa.alloc (.cells #[.slice none 0 0, .slice none 0 0, .slice none 0 0] 23)) (g3 g0 g1 g2 k) acNone := fun k hk => by
    rcases (show k = 0 ∨ k = 1 ∨ k = 2 by omega) with rfl | rfl | rfl
    · exact (((a0.below b3).below b4).below ba).below bf
    · exact ((a1.below b4).below ba).below bf
    · exact (a2.below ba).below bf
  exact {
    ha := (bf.block _ (by omega)).trans hwa
    hf := hwf
    acc := hA
    row := fun k hk => RowU.nil _ _ _
    cap := fun k hk => ⟨Nat.le_refl _, fun _ => rfl, fun i hi => absurd hi (Nat.not_lt_zero _)⟩
    blk := fun k hk ad e => by cases e
    inj := fun i j hi hj e => by
      rcases (show i = 0 ∨ i = 1 ∨ i = 2 by omega) with rfl | rfl | rfl <;> rcases (show j = 0 ∨ j = 1 ∨ j = 2 by omega) with rfl | rfl | rfl <;> first | rfl | (exfalso; simp [g3] at e; omega)
    bel := ujoin (ujoin (ujoin (ujoin (ujoin hb1 b2) b3) b4) ba) bf
    ga0 := by omega
    gf0 := by omega
    g0 := fun k hk => by
      rcases (show k = 0 ∨ k = 1 ∨ k = 2 by omega) with rfl | rfl | rfl <;> simp [g3] <;> omega }
theorem ScrS.more {w W : World} {ga gf M M' : Nat} (h : ScrS w ga gf M W) (hM : M ≤ M') : ScrS w ga gf M' W := by
  obtain ⟨g, A, n, c, x, h1, h2⟩ := h
  exact ⟨g, A, n, c, x, h1, fun k hk => Nat.le_trans (h2 k hk) (by omega)⟩
theorem ScrS.below {w W W' : World} {ga gf M : Nat} (h : ScrS w ga gf M W) (hb : Below W.heap.size W W') : ScrS w ga gf M W' := by
  obtain ⟨g, A, n, c, x, h1, h2⟩ := h
  exact ⟨g, A, n, c, x, h1.below hb, h2⟩
end Go.Proofs.Ytmeifciagepmpaa
