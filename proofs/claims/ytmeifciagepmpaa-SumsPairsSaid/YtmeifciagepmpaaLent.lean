/- halidelaw3.lent, stays. -/
import Derived.Test.YtmeifciagepmpaaKnW3
import Derived.Deep.AppendSrc
namespace Go.Proofs.Ytmeifciagepmpaa
open Go.RowKit Go.Proofs.YtmeifciagepmpaaW.PrintWords
set_option linter.unusedSimpArgs false
set_option linter.unusedVariables false

def lentF (x : Nat → Nat) (n : Nat) : Nat → Nat := fun k => if k < n then x k else if k = n then 2882338817 else 2882338818
def rowL (n : Nat) (x : Nat → Nat) : List Value := (List.range n).map fun k => .int .u32 ((x k : Nat) : Int)
theorem rowL_get (n : Nat) (x : Nat → Nat) (j : Nat) (u : Value) (h : (rowL n x)[j]? = some u) : j < n ∧ u = .int .u32 ((x j : Nat) : Int) := by
  have hj : j < n := by
    rcases Nat.lt_or_ge j n with h1 | h1
    · exact h1
    · rw [List.getElem?_eq_none (by simp [rowL]; exact h1)] at h; cases h
  refine ⟨hj, ?_⟩
  simp [rowL, hj] at h
  exact h.symm
theorem arrU_congr {n : Nat} {f g : Nat → Nat} (h : ∀ k, k < n → f k = g k) : arrU n f = arrU n g := by
  apply Array.ext
  · simp [arrU]
  · intro i h1 h2
    have hi : i < n := by simpa [arrU] using h2
    simp [arrU, h i hi]
theorem lent_row (n : Nat) (x : Nat → Nat) : ((arrU (n + 2) (fun _ => 0)).toList.take (0 * 1) ++ rowL n x ++ (arrU (n + 2) (fun _ => 0)).toList.drop (0 * 1 + (rowL n x).length)).toArray = arrU (n + 2) (fun k => if k < n then x k else 0) := by
  apply Array.ext
  · simp [arrU, rowL]
  · intro i h1 h2
    have hi : i < n + 2 := by simpa [arrU] using h2
    by_cases h : i < n
    · simp [arrU, rowL, h, List.getElem_append]
    · simp [arrU, rowL, h, List.getElem_append]
set_option maxRecDepth 100000 in
theorem run_lent (W : World) (g n c : Nat) (A : Option Addr) (x : Nat → Nat) (ty : TypeId) (hg : W.heap[g]? = some (.cells (arrU (n + 2) (fun _ => 0)) 25 (0, 0))) (hr : RowU W A n x) :
    ∃ w', (Builtin.append_ #[23, 23] ty #[.slice (some ⟨g, 0, none⟩) 0 (n + 2), .slice A n c]).run Try.prog W = .ok (.slice (some ⟨g, 0, none⟩) n (n + 2)) w' ∧ w'.heap[g]? = some (.cells (arrU (n + 2) (fun k => if k < n then x k else 0)) 25 (0, 0)) ∧ W.grownBy w' (some g) := by
  obtain ⟨i, hi, hz⟩ := Option.map_eq_some_iff.1 u_info
  simp only [Prod.mk.injEq] at hz
  cases A with
  | none =>
    rcases Nat.eq_zero_or_pos n with h0 | h0
    · subst h0
      refine ⟨W, ?_, ?_, World.grownBy.refl W _⟩
      · have := run_append_room_src (P := Try.prog) W 23 23 ty 25 i Try.underlying23 hi g 0 0 2 (.slice none 0 c) 0 [] (Src.ofNil W Try.underlying23 c) (by decide) (fun j h => by cases h) (fun j h => by cases h)
        simpa [World.setCells] using this
      · rw [hg]; rfl
    · obtain ⟨ad, e, _⟩ := hr h0
      cases e
  | some ad =>
    have hc : ∀ j u, (rowL n x)[j]? = some u → W.cell? (ad.add j) = some u := fun j u h => by
      obtain ⟨h1, h2⟩ := rowL_get n x j u h
      obtain ⟨ad', e, hc⟩ := hr (by omega)
      injection e with e
      subst e
      rw [h2, hc j h1]
    have hlen : (rowL n x).length = n := by simp [rowL]
    have := run_append_room (P := Try.prog) W 23 ty 25 i Try.underlying23 hi g 0 (n + 2) (arrU (n + 2) (fun _ => 0)) hg ad n c (rowL n x) (by rw [hlen, hz.2.1, Nat.mul_one]) hc (fun u hu => by
      simp only [rowL, List.mem_map] at hu
      obtain ⟨k, _, rfl⟩ := hu
      rfl) (by omega) (by rw [hlen, Nat.zero_mul]; simp [arrU])
    rw [Nat.zero_add, hz.2.1, lent_row] at this
    exact ⟨_, this, setRow_heap W g _ _ _ _ hg, ⟨rfl, rfl, rfl, by simp, fun k _ hk => setRow_other W g k _ (fun e => hk (by simp [e]))⟩⟩
theorem wpList_append_run {P : Program} {ops : Array Oper} {rest : List Oper} {o : Oper} {a : Act} {w : World} {Q : Exit → Act → World → Prop} (hgd : o.guard = none) (s x : Operand) (t : TypeId)
    (ho : o.op = .call { callee := .builtin .append, args := #[s, x], argTypes := #[t, t] }) (vs vx : Value) (hs : a.eval s = vs) (hx : a.eval x = vx) (v : Value) (w' : World)
    (hr : (Builtin.append_ #[t, t] o.type #[vs, vx]).run P w = .ok v w') (h : wpList P ops Q rest (a.put o.dst v) w') : wpList P ops Q (o :: rest) a w :=
  wpList_plain hgd fun _ hK => by
    unfold Oper.wp execOp
    simp only [ho, resolve, invoke, builtin, Sem.run_bind, Sem.run_pure, Result.andThen_ok, List.map_toArray, List.map_cons, List.map_nil, hs, hx, hr]
    exact hK _ _ h
theorem u_make0 (n : Nat) (hn : n ≤ 1000000000) (W : World) :
    (Instr.makeSlice 23 (.int .i64 0) (.int .i64 ((n : Int) + 2))).run Try.prog W = .ok (.slice (some ⟨W.heap.size, 0, none⟩) 0 (n + 2)) (W.alloc (.cells (arrU (n + 2) (fun _ => 0)) 25)) := by
  obtain ⟨i, hi, hz⟩ := Option.map_eq_some_iff.1 u_info
  simp only [Prod.mk.injEq] at hz
  have h := run_make (P := Try.prog) W 23 25 i (.int .u32 0) Try.underlying23 hi hz.1 .i64 .i64 0 (n + 2) (by omega) (by omega) (by rw [hz.2.2]; omega) (by omega)
  rw [hz.2.1] at h
  rw [← arrU_made]
  have e : ((n : Int) + 2).toNat = n + 2 := by omega
  simpa [Value.cells, e] using h
def LentEnd (w : World) (n : Nat) (x : Nat → Nat) (e : Ending) (w' : World) : Prop :=
  ∃ g, e = .returned (.slice (some ⟨g, 0, none⟩) n (n + 2)) ∧ w.heap.size ≤ g ∧ w'.heap[g]? = some (.cells (arrU (n + 2) (lentF x n)) 25 (0, 0)) ∧ Below w.heap.size w w'

set_option maxHeartbeats 1600000 in
set_option maxRecDepth 100000 in
theorem lent_calls (w : World) (A : Option Addr) (n c : Nat) (x : Nat → Nat) (hr : RowU w A n x) (hc : n ≤ c) (hn : n ≤ 100000000) :
    Calls Try.prog 13 #[.slice A n c] w fun e w' => LentEnd w n x e w' := by
  have hmk := u_make0 n (by omega) w
  have W1 : IntKind.i64.wrap ((n : Int) + 2) = (n : Int) + 2 := IntWalk.i64_in _ (by omega)
  obtain ⟨w2, hrun, hbl, hgr⟩ := run_lent (w.alloc (.cells (arrU (n + 2) (fun _ => 0)) 25)) w.heap.size n c A x 23 (heap_alloc_new w _) (hr.below ((Below.refl _ _).alloc (Nat.le_refl _) _))
  have HB2 : Hid (Below w.heap.size w w2) := ((Below.refl w.heap.size w).alloc (Nat.le_refl _) _).grown hgr (by simp) (fun k e => by injection e with e; omega)
  have f1 : w2.cell? ⟨w.heap.size, n, none⟩ = some (.int .u32 0) := (ucell hbl n).trans (by rw [arrU_get _ _ _ (by omega), if_neg (by omega)]; rfl)
  have f2 : w2.cell? ⟨w.heap.size, n + 1, none⟩ = some (.int .u32 0) := (ucell hbl (n + 1)).trans (by rw [arrU_get _ _ _ (by omega), if_neg (by omega)]; rfl)
  have z1 : w2.frozen? ⟨w.heap.size, n, none⟩ = false := ufree hbl n
  have z2 : w2.frozen? ⟨w.heap.size, n + 1, none⟩ = false := ufree hbl (n + 1)
  have HEND : Hid (((w2.setCell ⟨w.heap.size, n, none⟩ (.int .u32 2882338817)).setCell ⟨w.heap.size, n + 1, none⟩ (.int .u32 2882338818)).heap[w.heap.size]? = some (.cells (arrU (n + 2) (lentF x n)) 25 (0, 0)) ∧ Below w.heap.size w ((w2.setCell ⟨w.heap.size, n, none⟩ (.int .u32 2882338817)).setCell ⟨w.heap.size, n + 1, none⟩ (.int .u32 2882338818))) := (show _ ∧ _ from by
    refine ⟨?_, (HB2.out.setCell (p := ⟨w.heap.size, n, none⟩) (Nat.le_refl _) _).setCell (p := ⟨w.heap.size, n + 1, none⟩) (Nat.le_refl _) _⟩
    have h1 := uset (uset hbl n 2882338817) (n + 1) 2882338818
    refine h1.trans ?_
    rw [arrU_congr (f := updN (updN (fun k => if k < n then x k else 0) n 2882338817) (n + 1) 2882338818) (g := lentF x n) fun k hk => ?_]
    unfold updN lentF
    by_cases e1 : k = n + 1
    · rw [if_pos e1, if_neg (by omega), if_neg (by omega)]
    · rw [if_neg e1]
      by_cases e2 : k = n
      · rw [if_pos e2, if_neg (by omega), if_pos e2]
      · rw [if_neg e2]
        have e3 : k < n := by omega
        show (if k < n then x k else 0) = _
        rw [if_pos e3, if_pos e3])
  have HRUN := Lib.hid hrun
  clear hr hgr hbl hrun
  unfold LentEnd
  go_enter Try.func13, Try.ntmps13
  go_wp2_with (at_builtin; refine wpList_append_run rfl _ _ 23 rfl _ _ rfl rfl _ w2 HRUN.out ?_)
  go_ret
  exact ⟨_, rfl, Nat.le_refl _, HEND.out.1, HEND.out.2⟩

set_option maxHeartbeats 1600000 in
set_option maxRecDepth 100000 in
theorem stays_calls (w : World) (g : Nat) (A : Option Addr) (n c : Nat) (x : Nat → Nat) (hg : w.heap[g]? = some (.cells (arrU (n + 2) (lentF x n)) 25 (0, 0))) (hr : RowU w A n x) (hn : n ≤ 100000000) :
    Calls Try.prog 18 #[.slice (some ⟨g, 0, none⟩) n (n + 2), .slice A n c] w fun e w' => e = .returned (.bool true) ∧ Drawn0 w w' := by
  have HC : Hid (∀ k, k < n + 2 → w.cell? ⟨g, k, none⟩ = some (.int .u32 ((lentF x n k : Nat) : Int))) := (show ∀ k, _ → _ from fun k hk => (ucell hg k).trans (arrU_get _ _ _ hk))
  have f1 : Hid (w.cell? ⟨g, n, none⟩ = some (.int .u32 2882338817)) := (show _ = _ by rw [HC.out n (by omega), show lentF x n n = 2882338817 by unfold lentF; rw [if_neg (by omega), if_pos rfl]]; rfl)
  have f2 : Hid (w.cell? ⟨g, n + 1, none⟩ = some (.int .u32 2882338818)) := (show _ = _ by rw [HC.out (n + 1) (by omega), show lentF x n (n + 1) = 2882338818 by unfold lentF; rw [if_neg (by omega), if_neg (by omega)]]; rfl)
  have HR := Lib.hid hr
  have hb : ((n : Int) != (n : Int)) = false := by rw [bne_eq_false_iff_eq]
  have W1 : IntKind.i64.wrap ((n : Int) + 2) = (n : Int) + 2 := IntWalk.i64_in _ (by omega)
  have g1 : ¬ ((n + 2 : Nat) : Int) < (n : Int) + 2 := by omega
  clear hr hg
  go_enter Try.func18, Try.ntmps18
  go_wp2
  go_loopg [5] n (fun kq v5 wr => ∃ k : Nat, v5 = .int .i64 (k : Int) ∧ k ≤ n ∧ n ≤ k + kq ∧ Aside (Drawn0 w wr))
  case atStart => exact ⟨0, by first | rfl | go_num, by omega, by omega, Drawn0.refl _⟩
  case round =>
    obtain ⟨k, rfl, hk, hkq, HB⟩ := hrel
    by_cases hlt : k < n
    · have hltz : (k : Int) < (n : Int) := by omega
      have hk0 : (0 : Int) ≤ (k : Int) := by omega
      obtain ⟨ad, rfl, hca⟩ := HR.out (by omega)
      have c1 := HC.out k (by omega)
      have c2 := hca k hlt
      have e : lentF x n k = x k := if_pos hlt
      rw [e] at c1
      obtain ⟨a, ea⟩ : ∃ a, a = x k := ⟨_, rfl⟩
      rw [← ea] at c1 c2
      have d1 : wr.cell? ⟨g, k, none⟩ = some (.int .u32 (a : Int)) := by obtain ⟨q, rfl⟩ := HB.out.out; exact c1
      have d2 : wr.cell? (ad.add k) = some (.int .u32 (a : Int)) := by obtain ⟨q, rfl⟩ := HB.out.out; exact c2
      have hb2 : ((a : Int) != (a : Int)) = false := by rw [bne_eq_false_iff_eq]
      clear e ea c1 c2 hca hlt
      go_wp2
      go_quiet (fail)
      go_wp2
      go_roundg (n - (k + 1))
      case measure => omega
      case rel => exact ⟨k + 1, by go_num, by omega, by omega, HB.out.step _⟩
    · have hltz : ¬ (k : Int) < (n : Int) := by omega
      have d1 : wr.cell? ⟨g, n, none⟩ = some (.int .u32 2882338817) := by obtain ⟨q, rfl⟩ := HB.out.out; exact f1.out
      have d2 : wr.cell? ⟨g, n + 1, none⟩ = some (.int .u32 2882338818) := by obtain ⟨q, rfl⟩ := HB.out.out; exact f2.out
      clear hlt
      go_wp2
      go_ret
      exact ⟨rfl, HB.out⟩
end Go.Proofs.Ytmeifciagepmpaa
