/- Rows of spots: own rows, one element more; halidelaw28.sameSpots. -/
import Derived.Test.YtdcpeeolfgohmaaWmXQ
import Derived.Test.YtdcpeeolfgohmaaWords
import Derived.Maps.AppendAt
import Derived.Lib.AppendZeros
import Derived.OwnWalkIn
namespace Go.Proofs.Ytdcpeeolfgohmaa
open Go.RowKit Go.Proofs.YtdcpeeolfgohmaaW.PrintWords
set_option linter.unusedSimpArgs false
set_option linter.unusedVariables false
attribute [local go_sem] Oper.semAt_some

theorem wpC_cells0 {V : World} {g : Nat} {t : Wp} (h : V.heap[g]? = some (.cells (wpC t) 32)) :
    V.cell? ⟨g, 0, none⟩ = some (.int .i64 t.A) ∧ V.cell? ⟨g, 1, none⟩ = some (.int .i64 t.B) ∧ V.cell? ⟨g, 2, none⟩ = some (.int .i64 t.C) ∧ V.cell? ⟨g, 3, none⟩ = some (.int .i64 t.D) ∧ V.cell? ⟨g, 4, none⟩ = some (.int .i64 t.E) ∧ V.cell? ⟨g, 5, none⟩ = some (.int .i64 t.F) ∧ V.cell? ⟨g, 6, none⟩ = some (.int .i64 t.Q) :=
  ⟨ucell h 0, ucell h 1, ucell h 2, ucell h 3, ucell h 4, ucell h 5, ucell h 6⟩
def spF (L : List Spt) : List Value := L.flatMap fun s => [.int .i64 s.X, .int .i64 s.Y, .int .i64 s.N]
theorem spF_len (L : List Spt) : (spF L).length = L.length * 3 := by
  induction L with
  | nil => rfl
  | cons s L ih =>
    show ([Value.int .i64 s.X, .int .i64 s.Y, .int .i64 s.N] ++ spF L).length = _
    rw [List.length_append, ih]
    simp
    omega
theorem spF_get (L : List Spt) (i : Nat) (hi : i < L.length) : (spF L)[i * 3]? = some (.int .i64 L[i].X) ∧ (spF L)[i * 3 + 1]? = some (.int .i64 L[i].Y) ∧ (spF L)[i * 3 + 2]? = some (.int .i64 L[i].N) := by
  induction L generalizing i with
  | nil => simp at hi
  | cons s L ih =>
    have e : spF (s :: L) = [Value.int .i64 s.X, .int .i64 s.Y, .int .i64 s.N] ++ spF L := rfl
    cases i with
    | zero => rw [e]; exact ⟨rfl, rfl, rfl⟩
    | succ i =>
      have h := ih i (by simpa using hi)
      have k : ∀ j, (spF (s :: L))[3 + j]? = (spF L)[j]? := fun j => by
        rw [e, List.getElem?_append_right (by simp)]
        simp
      rw [show (i + 1) * 3 = 3 + i * 3 by omega, show 3 + i * 3 + 1 = 3 + (i * 3 + 1) by omega, show 3 + i * 3 + 2 = 3 + (i * 3 + 2) by omega, k, k, k]
      exact h
/-- A row of the call's own. -/
def OwnS (W : World) (base : Nat) (v : Value) (L : List Spt) : Prop := W.ownsRow base 51 3 v L.length (spF L)
theorem OwnS.nil (W : World) (base : Nat) : OwnS W base (.slice none 0 0) [] := ⟨rfl, .inl ⟨rfl, rfl⟩⟩
theorem OwnS.one {W : World} {base g : Nat} {s : Spt} (hb : base ≤ g) (hg : W.heap[g]? = some (.cells #[.int .i64 s.X, .int .i64 s.Y, .int .i64 s.N] 51 (0, 0))) : OwnS W base (.slice (some ⟨g, 0, none⟩) 1 1) [s] :=
  ⟨rfl, .inr ⟨g, 1, _, rfl, hb, hg, Nat.le_refl _, by decide, rfl, rfl⟩⟩
theorem below_drew0 {w w' : World} (h : Below w.drew.heap.size w.drew w') : Below w.heap.size w w' := ⟨h.os, h.tape, h.output, h.size, h.block⟩
theorem below_drewN0 {w w' : World} {n : Nat} (h : Below (w.drewN n).heap.size (w.drewN n) w') : Below w.heap.size w w' := ⟨h.os, h.tape, h.output, h.size, h.block⟩
theorem OwnS.same {W W' : World} {base : Nat} {v : Value} {L : List Spt} (h : OwnS W base v L) (hs : ∀ k, v.ownBlock = some k → W'.heap[k]? = W.heap[k]?) : OwnS W' base v L := by
  obtain ⟨hl, h⟩ := h
  rcases h with ⟨rfl, h0⟩ | ⟨g, cap, cur, rfl, hbg, hg, hr⟩
  · exact ⟨hl, .inl ⟨rfl, h0⟩⟩
  · exact ⟨hl, .inr ⟨g, cap, cur, rfl, hbg, (hs g rfl).trans hg, hr⟩⟩
theorem OwnS.lt {W : World} {base : Nat} {v : Value} {L : List Spt} (h : OwnS W base v L) : ∀ k, v.ownBlock = some k → base ≤ k ∧ k < W.heap.size := World.ownsRow.lt h
theorem OwnS.below {W W' : World} {base : Nat} {v : Value} {L : List Spt} (h : OwnS W base v L) (hb : Below W.heap.size W W') : OwnS W' base v L := h.same fun k hk => hb.block k (h.lt k hk).2
theorem OwnS.obj {W : World} {base : Nat} {v : Value} {L : List Spt} (h : OwnS W base v L) : ∀ k, v.ownBlock = some k → ∃ cu, W.heap[k]? = some (.cells cu 51 (0, 0)) := by
  obtain ⟨hl, h⟩ := h
  rcases h with ⟨rfl, h0⟩ | ⟨g, cap, cur, rfl, hbg, hg, hr⟩
  · intro k hk; cases hk
  · intro k hk
    simp only [Value.ownBlock, Option.some.injEq] at hk
    subst hk
    exact ⟨cur, hg⟩
theorem OwnS.sl {W : World} {base : Nat} {v : Value} {L : List Spt} (h : OwnS W base v L) : ∃ A n c, v = .slice A n c := by
  rcases h.2 with ⟨rfl, -⟩ | ⟨g, cap, cur, rfl, -⟩
  · exact ⟨_, _, _, rfl⟩
  · exact ⟨_, _, _, rfl⟩
theorem OwnS.base {W : World} {base base' : Nat} {v : Value} {L : List Spt} (h : OwnS W base v L) (hb : base' ≤ base) : OwnS W base' v L := by
  obtain ⟨hl, h⟩ := h
  rcases h with ⟨rfl, h0⟩ | ⟨g, cap, cur, rfl, hbg, hr⟩
  · exact ⟨hl, .inl ⟨rfl, h0⟩⟩
  · exact ⟨hl, .inr ⟨g, cap, cur, rfl, Nat.le_trans hb hbg, hr⟩⟩
/-- A row of spots, read. -/
def RowSp (W : World) (A : Option Addr) (L : List Spt) : Prop := 1 ≤ L.length → ∃ ad : Addr, A = some ad ∧ ∀ i (hi : i < L.length), W.cell? (ad.add (i * 3)) = some (.int .i64 L[i].X) ∧ W.cell? ⟨(ad.add (i * 3)).block, (ad.add (i * 3)).off + 1, none⟩ = some (.int .i64 L[i].Y) ∧ W.cell? ⟨(ad.add (i * 3)).block, (ad.add (i * 3)).off + 2, none⟩ = some (.int .i64 L[i].N)
theorem RowSp.below {W W' : World} {A : Option Addr} {L : List Spt} (h : RowSp W A L) (hb : Below W.heap.size W W') : RowSp W' A L := fun hn => by
  obtain ⟨ad, e, hc⟩ := h hn
  refine ⟨ad, e, fun i hi => ?_⟩
  obtain ⟨h1, h2, h3⟩ := hc i hi
  exact ⟨(hb.cell (World.block_lt_of_cell? _ _ h1)).trans h1, (hb.cell (World.block_lt_of_cell? _ _ h2)).trans h2, (hb.cell (World.block_lt_of_cell? _ _ h3)).trans h3⟩
theorem OwnS.row {W : World} {base : Nat} {v : Value} {L : List Spt} (h : OwnS W base v L) : ∃ A c, v = .slice A L.length c ∧ L.length ≤ c ∧ RowSp W A L ∧ (∀ ad, A = some ad → base ≤ ad.block ∧ ad = ⟨ad.block, 0, none⟩) := by
  obtain ⟨hl, h⟩ := h
  rcases h with ⟨rfl, h0⟩ | ⟨g, cap, cur, rfl, hbg, hg, hnc, hcm, hcs, htake⟩
  · refine ⟨none, 0, by rw [h0], by omega, fun h => by omega, fun ad e => by cases e⟩
  · refine ⟨_, _, rfl, hnc, fun hn => ⟨_, rfl, fun i hi => ?_⟩, fun ad e => by cases e; exact ⟨hbg, rfl⟩⟩
    obtain ⟨s1, s2, s3⟩ := spF_get L i hi
    have key : ∀ j u, (spF L)[j]? = some u → W.cell? ⟨g, j, none⟩ = some u := fun j u hj => by
      have hj2 := (List.getElem?_eq_some_iff.1 hj).1
      rw [spF_len] at hj2
      rw [ucell hg]
      rw [← htake, List.getElem?_take, if_pos hj2, Array.getElem?_toList] at hj
      exact hj
    have e : (⟨g, 0, none⟩ : Addr).add (i * 3) = ⟨g, i * 3, none⟩ := by simp [Addr.add]; omega
    rw [e]
    exact ⟨key _ _ s1, key _ _ s2, key _ _ s3⟩
theorem spot_info : (Try.prog.info? 51).map (fun i => (i.zero, i.size, i.bytes)) = some (some (.agg #[.int .i64 0, .int .i64 0, .int .i64 0]), 3, 24) := by kernel_rfl
/-- One spot more. -/
theorem own_spot (ty : TypeId) (W : World) (base : Nat) (v : Value) (L : List Spt) (hown : OwnS W base v L) (hb : base ≤ W.heap.size) (hlen : L.length ≤ 1000000000) (g : Nat) (t : TypeId) (s : Spt) (hg : W.heap[g]? = some (.cells #[.int .i64 s.X, .int .i64 s.Y, .int .i64 s.N] t (0, 0))) :
    ∃ v' W', (Builtin.append_ #[44, 44] ty #[v, .slice (some ⟨g, 0, none⟩) 1 1]).run Try.prog W = .ok v' W' ∧ OwnS W' base v' (L ++ [s]) ∧ W.grownBy W' v.ownBlock ∧ (v'.ownBlock = v.ownBlock ∨ v'.ownBlock = some W.heap.size) := by
  obtain ⟨i, hi, hz⟩ := Option.map_eq_some_iff.1 spot_info
  simp only [Prod.mk.injEq] at hz
  have hc : ∀ j x, ([.int .i64 s.X, .int .i64 s.Y, .int .i64 s.N] : List Value)[j]? = some x → W.cell? ((⟨g, 0, none⟩ : Addr).add j) = some x := fun j x h => by
    have e : (⟨g, 0, none⟩ : Addr).add j = ⟨g, j, none⟩ := by simp [Addr.add]; omega
    rw [e, ucell hg, List.getElem?_toArray]
    exact h
  obtain ⟨v', W', hrun, h2, h3, _, h5⟩ := run_append_own_at (P := Try.prog) W base 44 ty 51 i (.agg #[.int .i64 0, .int .i64 0, .int .i64 0]) 3 24 Try.underlying44 hi hz.1 hz.2.1 hz.2.2 rfl (by decide) v L.length (spF L) hown ⟨g, 0, none⟩ 1 1 [.int .i64 s.X, .int .i64 s.Y, .int .i64 s.N] rfl hc (fun x hx => by
    simp only [List.mem_cons, List.not_mem_nil, or_false] at hx
    rcases hx with rfl | rfl | rfl <;> rfl) (by unfold maxLen; omega) (by omega) hb
  refine ⟨v', W', hrun, ?_, h3, h5⟩
  unfold OwnS
  rw [List.length_append, show spF (L ++ [s]) = spF L ++ [.int .i64 s.X, .int .i64 s.Y, .int .i64 s.N] by simp [spF, List.flatMap_append]]
  exact h2

theorem eqA_Spot (d : Nat) (w : World) (x0 y0 : Int) (x1 y1 : Int) (x2 y2 : Int) :
    (Op.equalIn (d + 2) 51 (.agg #[.int .i64 x0, .int .i64 x1, .int .i64 x2]) (.agg #[.int .i64 y0, .int .i64 y1, .int .i64 y2])).run Try.prog w = .ok (x0 == y0 && (x1 == y1 && (x2 == y2))) w := by
  refine eqA_of Try.underlying51 (by kernel_rfl) ?_
  refine eqf_cons (by rfl) (by go_simp; rfl) (by go_simp; rfl) (by go_simp) ?_
  refine eqf_cons (by rfl) (by go_simp; rfl) (by go_simp; rfl) (by go_simp) ?_
  exact eqf_last (by rfl) (by go_simp; rfl) (by go_simp; rfl) (by go_simp)
attribute [local go_sem high] eqA_Spot
set_option maxHeartbeats 1600000 in
set_option maxRecDepth 100000 in
theorem sameSpots_yes (w : World) (A B : Option Addr) (c d : Nat) (L : List Spt) (hx : RowSp w A L) (hy : RowSp w B L) (hn : L.length ≤ 4611686018427387904) :
    Calls Try.prog 27 #[.slice A L.length c, .slice B L.length d] w fun e w' => e = .returned (.bool true) ∧ Drawn0 w w' := by
  obtain ⟨n, en⟩ : ∃ n, n = L.length := ⟨_, rfl⟩
  have EN := Lib.hid en
  rw [← en] at hn ⊢
  by_cases h0 : n = 0
  · subst h0
    clear hx hy en
    go_enter Try.func27, Try.ntmps27
    go_wp2_with fail
    go_loop [5] (fun v5 => v5 = .int .i64 0) (fun _ => 0)
    case atStart => rfl
    case round =>
      subst hrel
      go_wp2
      go_ret
      exact ⟨rfl, Drawn0.refl _⟩
  · obtain ⟨ax, rfl, cx⟩ := hx (by omega)
    obtain ⟨ay, rfl, cy⟩ := hy (by omega)
    have CX := Lib.hid cx
    have CY := Lib.hid cy
    have heq : ((n : Int) == (n : Int)) = true := beq_iff_eq.2 rfl
    clear hx hy cx cy en
    go_enter Try.func27, Try.ntmps27
    go_wp2_with fail
    go_loopg [5] n (fun kq v5 wr => ∃ i : Nat, v5 = .int .i64 i ∧ i ≤ n ∧ n ≤ i + kq ∧ Aside (Drawn0 w wr))
    case atStart => exact ⟨0, rfl, by omega, by omega, Drawn0.refl _⟩
    case round =>
      obtain ⟨i, rfl, hi, hk, HD0⟩ := hrel
      obtain ⟨qn, rfl⟩ := HD0.out.out
      by_cases hlt : i < n
      · have hltz : (i : Int) < (n : Int) := by omega
        obtain ⟨c1, c2, c3⟩ := CX.out i (by rw [← EN.out]; exact hlt)
        obtain ⟨c4, c5, c6⟩ := CY.out i (by rw [← EN.out]; exact hlt)
        generalize (L[i]'(by rw [← EN.out]; exact hlt)) = s at c1 c2 c3 c4 c5 c6
        go_wp2
        repeat (go_quiet (fail); try go_wp2)
        go_roundg (n - (i + 1))
        case measure => omega
        case rel => exact ⟨i + 1, by go_num, by omega, by omega, Drawn0.mk ⟨_, rfl⟩⟩
      · have hltz : ¬ (i : Int) < (n : Int) := by omega
        have e : i = n := by omega
        subst e
        go_wp2
        go_ret
        exact ⟨rfl, HD0.out⟩
end Go.Proofs.Ytdcpeeolfgohmaa
