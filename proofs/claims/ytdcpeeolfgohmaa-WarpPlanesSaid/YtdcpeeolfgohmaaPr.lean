/- A row of the call's own with one-cell elements, whatever their type; two such rows side by side; one element more at a time, wherever it lies. -/
import Derived.Test.YtdcpeeolfgohmaaU
import Derived.Maps.AppendAt
namespace Go.Proofs.Ytdcpeeolfgohmaa
open Go.RowKit Go.Proofs.YtdcpeeolfgohmaaW.PrintWords
set_option linter.unusedSimpArgs false
set_option linter.unusedVariables false

/-- What the model says of an element's type: its zero is one cell. -/
structure OneT (t e : TypeId) (z : Value) (bytes : Nat) : Prop where
  ut : Try.prog.underlying t = some (.slice e)
  nf : (Try.prog.info? e).map (fun i => (i.zero, i.size, i.bytes)) = some (some z, 1, bytes)
  zs : z.cells.size = 1
  by8 : bytes ≤ 16
theorem oneInt : OneT 93 3 (.int .i64 0) 8 := ⟨Try.underlying93, by kernel_rfl, rfl, by decide⟩
theorem oneU32 : OneT 53 65 (.int .u32 0) 4 := ⟨Try.underlying53, by kernel_rfl, rfl, by decide⟩

def OwnC (W : World) (base : Nat) (e : TypeId) (v : Value) (cs : List Value) : Prop := W.ownsRow base e 1 v cs.length cs
theorem OwnC.nil (W : World) (base : Nat) (e : TypeId) : OwnC W base e (.slice none 0 0) [] := ⟨rfl, .inl ⟨rfl, rfl⟩⟩
theorem OwnC.kept {W W' : World} {base : Nat} {e : TypeId} {v : Value} {cs : List Value} (h : OwnC W base e v cs) {row : Option Nat} (hg : W.grownBy W' row) (hne : v.ownBlock = none ∨ v.ownBlock ≠ row) : OwnC W' base e v cs := World.ownsRow.kept h hg hne
theorem grown_of_below {w w1 : World} (r : Option Nat) (h : Below w.heap.size w w1) : w.grownBy w1 r := ⟨h.os, h.tape, h.output, h.size, fun i hi _ => h.block i hi⟩
theorem OwnC.below {W W' : World} {base : Nat} {e : TypeId} {v : Value} {cs : List Value} (h : OwnC W base e v cs) (hb : Below W.heap.size W W') : OwnC W' base e v cs :=
  h.kept (grown_of_below none hb) (by cases v.ownBlock <;> simp)
/-- The row's form and its cells. -/
theorem OwnC.row {W : World} {base : Nat} {e : TypeId} {v : Value} {cs : List Value} (h : OwnC W base e v cs) : ∃ A c, v = .slice A cs.length c ∧ cs.length ≤ c ∧ (v.ownBlock = none ∨ ∃ k, v.ownBlock = some k ∧ base ≤ k ∧ k < W.heap.size ∧ ∃ cu, W.heap[k]? = some (.cells cu e (0, 0))) ∧ (1 ≤ cs.length → ∃ ad, A = some ad ∧ ∀ i u, cs[i]? = some u → W.cell? (ad.add i) = some u) := by
  obtain ⟨hl, h⟩ := h
  rcases h with ⟨rfl, h0⟩ | ⟨g, cap, cur, rfl, hbg, hg, hnc, hcm, hcs, htake⟩
  · exact ⟨none, 0, by rw [h0], by omega, .inl rfl, fun h => by omega⟩
  · refine ⟨_, _, rfl, hnc, .inr ⟨g, rfl, hbg, (Array.getElem?_eq_some_iff.1 hg).1, cur, hg⟩, fun hn => ⟨_, rfl, fun i u hi => ?_⟩⟩
    have hi2 : i < cs.length := (List.getElem?_eq_some_iff.1 hi).1
    have e : (⟨g, 0, none⟩ : Addr).add i = ⟨g, i, none⟩ := by simp [Addr.add]; omega
    rw [e, ucell hg]
    rw [← htake, List.getElem?_take, if_pos (by omega), Array.getElem?_toList] at hi
    exact hi
theorem own_push {t e : TypeId} {z : Value} {bytes : Nat} (ot : OneT t e z bytes) (ty : TypeId) (W : World) (base : Nat) (v : Value) (cs : List Value) (hown : OwnC W base e v cs) (hb : base ≤ W.heap.size) (hlen : cs.length ≤ 1000000000) (ad : Addr) (u : Value) (hu : W.cell? ad = some u) (h1 : u.oneCell' = true) :
    ∃ v' W', (Builtin.append_ #[t, t] ty #[v, .slice (some ad) 1 1]).run Try.prog W = .ok v' W' ∧ OwnC W' base e v' (cs ++ [u]) ∧ W.grownBy W' v.ownBlock ∧ (v'.ownBlock = v.ownBlock ∨ v'.ownBlock = some W.heap.size) := by
  obtain ⟨i, hi, hz⟩ := Option.map_eq_some_iff.1 ot.nf
  simp only [Prod.mk.injEq] at hz
  have hc : ∀ j x, ([u] : List Value)[j]? = some x → W.cell? (ad.add j) = some x := fun j x h => by
    have h0 : j = 0 := by
      have := (List.getElem?_eq_some_iff.1 h).1
      simp at this
      exact this
    subst h0
    rw [show ad.add 0 = ad by unfold Addr.add; split <;> simp_all, hu]
    simpa using h
  have hby := ot.by8
  obtain ⟨v', W', hrun, h2, h3, _, h5⟩ := run_append_own_at (P := Try.prog) W base t ty e i z 1 bytes ot.ut hi hz.1 hz.2.1 hz.2.2 ot.zs (by decide) v cs.length cs hown ad 1 1 [u] rfl hc (fun x hx => by rw [List.mem_singleton.1 hx]; exact h1) (by unfold maxLen; omega) (by
    have := Nat.mul_le_mul (show cs.length + 1 ≤ 1000000001 by omega) hby
    omega) hb
  refine ⟨v', W', hrun, ?_, h3, h5⟩
  unfold OwnC
  rw [List.length_append]
  exact h2
/-- Two rows side by side, made since world w0. -/
structure PairC (w0 W : World) (e f : TypeId) (v : Value) (cs : List Value) (v' : Value) (ds : List Value) : Prop where
  a : OwnC W w0.heap.size e v cs
  b : OwnC W w0.heap.size f v' ds
  bel : Below w0.heap.size w0 W
  ne : v.ownBlock = none ∨ v'.ownBlock = none ∨ v.ownBlock ≠ v'.ownBlock
theorem PairC.nil {w0 W : World} (e f : TypeId) (hb : Below w0.heap.size w0 W) : PairC w0 W e f (.slice none 0 0) [] (.slice none 0 0) [] := ⟨OwnC.nil _ _ _, OwnC.nil _ _ _, hb, .inl rfl⟩
theorem PairC.flip {w0 W : World} {e f : TypeId} {v v' : Value} {cs ds : List Value} (h : PairC w0 W e f v cs v' ds) : PairC w0 W f e v' ds v cs :=
  ⟨h.b, h.a, h.bel, by rcases h.ne with k | k | k
                       · exact .inr (.inl k)
                       · exact .inl k
                       · exact .inr (.inr (Ne.symm k))⟩
theorem PairC.below {w0 W W' : World} {e f : TypeId} {v v' : Value} {cs ds : List Value} (h : PairC w0 W e f v cs v' ds) (hb : Below W.heap.size W W') : PairC w0 W' e f v cs v' ds := ⟨h.a.below hb, h.b.below hb, ujoin h.bel hb, h.ne⟩
theorem apart_of {o p : Option Nat} (h : o = none ∨ p = none ∨ o ≠ p) : p = none ∨ p ≠ o := by
  cases p with
  | none => left; rfl
  | some q =>
    right
    rcases h with h | h | h
    · rw [h]; intro e; cases e
    · cases h
    · exact Ne.symm h
/-- One element more behind the first row: what else there is stays: blocks that are no row's. -/
theorem pair_push {w0 W : World} {e f t : TypeId} {z : Value} {bytes : Nat} (ot : OneT t e z bytes) (ty : TypeId) {v v' : Value} {cs ds : List Value} (h : PairC w0 W e f v cs v' ds) (hlen : cs.length ≤ 1000000000) (ad : Addr) (u : Value) (hu : W.cell? ad = some u) (h1 : u.oneCell' = true) :
    ∃ x W', (Builtin.append_ #[t, t] ty #[v, .slice (some ad) 1 1]).run Try.prog W = .ok x W' ∧ PairC w0 W' e f x (cs ++ [u]) v' ds ∧ W.grownBy W' v.ownBlock ∧ (x.ownBlock = v.ownBlock ∨ x.ownBlock = some W.heap.size) := by
  obtain ⟨x, W', k1, k2, k3, k4⟩ := own_push ot ty W w0.heap.size v cs h.a h.bel.size hlen ad u hu h1
  obtain ⟨-, -, -, -, hza, -⟩ := h.a.row
  obtain ⟨-, -, -, -, hzb, -⟩ := h.b.row
  refine ⟨x, W', k1, ⟨k2, h.b.kept k3 (apart_of h.ne), h.bel.grown k3 h.bel.size (fun k e => ?_), ?_⟩, k3, k4⟩
  · rcases hza with q1 | ⟨k', q1, q2, -⟩
    · rw [q1] at e; cases e
    · rw [q1] at e; injection e with e; omega
  · rcases k4 with k4 | k4
    · rw [k4]; exact h.ne
    · rcases hzb with q1 | ⟨k', q1, q2, q3, -⟩
      · exact .inr (.inl q1)
      · right; right; rw [k4, q1]; intro e; injection e with e; omega
end Go.Proofs.Ytdcpeeolfgohmaa
