/- Rows of spots: own rows, one element more; halidelaw28.sameSpots. halideref28.spots: the walk. slices.AppendSeq, Collect over a place's spots: the walk. slices.Collect; warp.Spots and halideref28.Spots: the walks. -/
import Derived.Test.YtdcpeeolfgohmaaWmXQ
import Derived.Test.YtdcpeeolfgohmaaWords
import Derived.Maps.AppendAt
import Derived.Lib.AppendZeros
import Derived.OwnWalkIn
import Derived.Test.YtdcpeeolfgohmaaWsA
import Derived.Test.YtdcpeeolfgohmaaShareR
import Derived.Deep.RegionHeld3
import Derived.Test.YtdcpeeolfgohmaaRfGH
namespace Go.Proofs.Ytdcpeeolfgohmaa
open Go.RowKit Go.Proofs.YtdcpeeolfgohmaaW.PrintWords
set_option linter.unusedSimpArgs false
set_option linter.unusedVariables false
attribute [local go_sem] Oper.semAt_some

theorem wpC_cells0 {V : World} {g : Nat} {t : Wp} (h : V.heap[g]? = some (.cells (wpC t) 32)) :
    V.cell? ⟨g, 0, none⟩ = some (.int .i64 t.A) ∧ V.cell? ⟨g, 1, none⟩ = some (.int .i64 t.B) ∧ V.cell? ⟨g, 2, none⟩ = some (.int .i64 t.C) ∧ V.cell? ⟨g, 3, none⟩ = some (.int .i64 t.D) ∧ V.cell? ⟨g, 4, none⟩ = some (.int .i64 t.E) ∧ V.cell? ⟨g, 5, none⟩ = some (.int .i64 t.F) ∧ V.cell? ⟨g, 6, none⟩ = some (.int .i64 t.Q) :=
  ⟨ucell h 0, ucell h 1, ucell h 2, ucell h 3, ucell h 4, ucell h 5, ucell h 6⟩
def spF (L : List Spt) : List Value := L.flatMap fun s => [.int .i64 s.X, .int .i64 s.Y, .int .i64 s.N]
theorem spF_len (L : List Spt) : (spF L).length = L.length * 3 := by
  induction L with
  | nil => rfl
  | cons s L ih =>
    show ([Value.int .i64 s.X, .int .i64 s.Y, .int .i64 s.N] ++ spF L).length = _
    rw [List.length_append, ih]
    simp
    omega
theorem spF_get (L : List Spt) (i : Nat) (hi : i < L.length) : (spF L)[i * 3]? = some (.int .i64 L[i].X) ∧ (spF L)[i * 3 + 1]? = some (.int .i64 L[i].Y) ∧ (spF L)[i * 3 + 2]? = some (.int .i64 L[i].N) := by
  induction L generalizing i with
  | nil => simp at hi
  | cons s L ih =>
    have e : spF (s :: L) = [Value.int .i64 s.X, .int .i64 s.Y, .int .i64 s.N] ++ spF L := rfl
    cases i with
    | zero => rw [e]; exact ⟨rfl, rfl, rfl⟩
    | succ i =>
      have h := ih i (by simpa using hi)
      have k : ∀ j, (spF (s :: L))[3 + j]? = (spF L)[j]? := fun j => by
        rw [e, List.getElem?_append_right (by simp)]
        simp
      rw [show (i + 1) * 3 = 3 + i * 3 by omega, show 3 + i * 3 + 1 = 3 + (i * 3 + 1) by omega, show 3 + i * 3 + 2 = 3 + (i * 3 + 2) by omega, k, k, k]
      exact h
/-- A row of the call's own. -/
def OwnS (W : World) (base : Nat) (v : Value) (L : List Spt) : Prop := W.ownsRow base 51 3 v L.length (spF L)
theorem OwnS.nil (W : World) (base : Nat) : OwnS W base (.slice none 0 0) [] := ⟨rfl, .inl ⟨rfl, rfl⟩⟩
theorem OwnS.one {W : World} {base g : Nat} {s : Spt} (hb : base ≤ g) (hg : W.heap[g]? = some (.cells #[.int .i64 s.X, .int .i64 s.Y, .int .i64 s.N] 51 (0, 0))) : OwnS W base (.slice (some ⟨g, 0, none⟩) 1 1) [s] :=
  ⟨rfl, .inr ⟨g, 1, _, rfl, hb, hg, Nat.le_refl _, by decide, rfl, rfl⟩⟩
theorem below_drew0 {w w' : World} (h : Below w.drew.heap.size w.drew w') : Below w.heap.size w w' := ⟨h.os, h.tape, h.output, h.size, h.block⟩
theorem below_drewN0 {w w' : World} {n : Nat} (h : Below (w.drewN n).heap.size (w.drewN n) w') : Below w.heap.size w w' := ⟨h.os, h.tape, h.output, h.size, h.block⟩
theorem OwnS.same {W W' : World} {base : Nat} {v : Value} {L : List Spt} (h : OwnS W base v L) (hs : ∀ k, v.ownBlock = some k → W'.heap[k]? = W.heap[k]?) : OwnS W' base v L := by
  obtain ⟨hl, h⟩ := h
  rcases h with ⟨rfl, h0⟩ | ⟨g, cap, cur, rfl, hbg, hg, hr⟩
  · exact ⟨hl, .inl ⟨rfl, h0⟩⟩
  · exact ⟨hl, .inr ⟨g, cap, cur, rfl, hbg, (hs g rfl).trans hg, hr⟩⟩
theorem OwnS.lt {W : World} {base : Nat} {v : Value} {L : List Spt} (h : OwnS W base v L) : ∀ k, v.ownBlock = some k → base ≤ k ∧ k < W.heap.size := World.ownsRow.lt h
theorem OwnS.below {W W' : World} {base : Nat} {v : Value} {L : List Spt} (h : OwnS W base v L) (hb : Below W.heap.size W W') : OwnS W' base v L := h.same fun k hk => hb.block k (h.lt k hk).2
theorem OwnS.obj {W : World} {base : Nat} {v : Value} {L : List Spt} (h : OwnS W base v L) : ∀ k, v.ownBlock = some k → ∃ cu, W.heap[k]? = some (.cells cu 51 (0, 0)) := by
  obtain ⟨hl, h⟩ := h
  rcases h with ⟨rfl, h0⟩ | ⟨g, cap, cur, rfl, hbg, hg, hr⟩
  · intro k hk; cases hk
  · intro k hk
    simp only [Value.ownBlock, Option.some.injEq] at hk
    subst hk
    exact ⟨cur, hg⟩
theorem OwnS.sl {W : World} {base : Nat} {v : Value} {L : List Spt} (h : OwnS W base v L) : ∃ A n c, v = .slice A n c := by
  rcases h.2 with ⟨rfl, -⟩ | ⟨g, cap, cur, rfl, -⟩
  · exact ⟨_, _, _, rfl⟩
  · exact ⟨_, _, _, rfl⟩
theorem OwnS.base {W : World} {base base' : Nat} {v : Value} {L : List Spt} (h : OwnS W base v L) (hb : base' ≤ base) : OwnS W base' v L := by
  obtain ⟨hl, h⟩ := h
  rcases h with ⟨rfl, h0⟩ | ⟨g, cap, cur, rfl, hbg, hr⟩
  · exact ⟨hl, .inl ⟨rfl, h0⟩⟩
  · exact ⟨hl, .inr ⟨g, cap, cur, rfl, Nat.le_trans hb hbg, hr⟩⟩
/-- A row of spots, read. -/
def RowSp (W : World) (A : Option Addr) (L : List Spt) : Prop := 1 ≤ L.length → ∃ ad : Addr, A = some ad ∧ ∀ i (hi : i < L.length), W.cell? (ad.add (i * 3)) = some (.int .i64 L[i].X) ∧ W.cell? ⟨(ad.add (i * 3)).block, (ad.add (i * 3)).off + 1, none⟩ = some (.int .i64 L[i].Y) ∧ W.cell? ⟨(ad.add (i * 3)).block, (ad.add (i * 3)).off + 2, none⟩ = some (.int .i64 L[i].N)
theorem RowSp.below {W W' : World} {A : Option Addr} {L : List Spt} (h : RowSp W A L) (hb : Below W.heap.size W W') : RowSp W' A L := fun hn => by
  obtain ⟨ad, e, hc⟩ := h hn
  refine ⟨ad, e, fun i hi => ?_⟩
  obtain ⟨h1, h2, h3⟩ := hc i hi
  exact ⟨(hb.cell (World.block_lt_of_cell? _ _ h1)).trans h1, (hb.cell (World.block_lt_of_cell? _ _ h2)).trans h2, (hb.cell (World.block_lt_of_cell? _ _ h3)).trans h3⟩
theorem OwnS.row {W : World} {base : Nat} {v : Value} {L : List Spt} (h : OwnS W base v L) : ∃ A c, v = .slice A L.length c ∧ L.length ≤ c ∧ RowSp W A L ∧ (∀ ad, A = some ad → base ≤ ad.block ∧ ad = ⟨ad.block, 0, none⟩) := by
  obtain ⟨hl, h⟩ := h
  rcases h with ⟨rfl, h0⟩ | ⟨g, cap, cur, rfl, hbg, hg, hnc, hcm, hcs, htake⟩
  · refine ⟨none, 0, by rw [h0], by omega, fun h => by omega, fun ad e => by cases e⟩
  · refine ⟨_, _, rfl, hnc, fun hn => ⟨_, rfl, fun i hi => ?_⟩, fun ad e => by cases e; exact ⟨hbg, rfl⟩⟩
    obtain ⟨s1, s2, s3⟩ := spF_get L i hi
    have key : ∀ j u, (spF L)[j]? = some u → W.cell? ⟨g, j, none⟩ = some u := fun j u hj => by
      have hj2 := (List.getElem?_eq_some_iff.1 hj).1
      rw [spF_len] at hj2
      rw [ucell hg]
      rw [← htake, List.getElem?_take, if_pos hj2, Array.getElem?_toList] at hj
      exact hj
    have e : (⟨g, 0, none⟩ : Addr).add (i * 3) = ⟨g, i * 3, none⟩ := by simp [Addr.add]; omega
    rw [e]
    exact ⟨key _ _ s1, key _ _ s2, key _ _ s3⟩
theorem spot_info : (Try.prog.info? 51).map (fun i => (i.zero, i.size, i.bytes)) = some (some (.agg #[.int .i64 0, .int .i64 0, .int .i64 0]), 3, 24) := by kernel_rfl
/-- One spot more. -/
theorem own_spot (ty : TypeId) (W : World) (base : Nat) (v : Value) (L : List Spt) (hown : OwnS W base v L) (hb : base ≤ W.heap.size) (hlen : L.length ≤ 1000000000) (g : Nat) (t : TypeId) (s : Spt) (hg : W.heap[g]? = some (.cells #[.int .i64 s.X, .int .i64 s.Y, .int .i64 s.N] t (0, 0))) :
    ∃ v' W', (Builtin.append_ #[44, 44] ty #[v, .slice (some ⟨g, 0, none⟩) 1 1]).run Try.prog W = .ok v' W' ∧ OwnS W' base v' (L ++ [s]) ∧ W.grownBy W' v.ownBlock ∧ (v'.ownBlock = v.ownBlock ∨ v'.ownBlock = some W.heap.size) := by
  obtain ⟨i, hi, hz⟩ := Option.map_eq_some_iff.1 spot_info
  simp only [Prod.mk.injEq] at hz
  have hc : ∀ j x, ([.int .i64 s.X, .int .i64 s.Y, .int .i64 s.N] : List Value)[j]? = some x → W.cell? ((⟨g, 0, none⟩ : Addr).add j) = some x := fun j x h => by
    have e : (⟨g, 0, none⟩ : Addr).add j = ⟨g, j, none⟩ := by simp [Addr.add]; omega
    rw [e, ucell hg, List.getElem?_toArray]
    exact h
  obtain ⟨v', W', hrun, h2, h3, _, h5⟩ := run_append_own_at (P := Try.prog) W base 44 ty 51 i (.agg #[.int .i64 0, .int .i64 0, .int .i64 0]) 3 24 Try.underlying44 hi hz.1 hz.2.1 hz.2.2 rfl (by decide) v L.length (spF L) hown ⟨g, 0, none⟩ 1 1 [.int .i64 s.X, .int .i64 s.Y, .int .i64 s.N] rfl hc (fun x hx => by
    simp only [List.mem_cons, List.not_mem_nil, or_false] at hx
    rcases hx with rfl | rfl | rfl <;> rfl) (by unfold maxLen; omega) (by omega) hb
  refine ⟨v', W', hrun, ?_, h3, h5⟩
  unfold OwnS
  rw [List.length_append, show spF (L ++ [s]) = spF L ++ [.int .i64 s.X, .int .i64 s.Y, .int .i64 s.N] by simp [spF, List.flatMap_append]]
  exact h2

theorem eqA_Spot (d : Nat) (w : World) (x0 y0 : Int) (x1 y1 : Int) (x2 y2 : Int) :
    (Op.equalIn (d + 2) 51 (.agg #[.int .i64 x0, .int .i64 x1, .int .i64 x2]) (.agg #[.int .i64 y0, .int .i64 y1, .int .i64 y2])).run Try.prog w = .ok (x0 == y0 && (x1 == y1 && (x2 == y2))) w := by
  refine eqA_of Try.underlying51 (by kernel_rfl) ?_
  refine eqf_cons (by rfl) (by go_simp; rfl) (by go_simp; rfl) (by go_simp) ?_
  refine eqf_cons (by rfl) (by go_simp; rfl) (by go_simp; rfl) (by go_simp) ?_
  exact eqf_last (by rfl) (by go_simp; rfl) (by go_simp; rfl) (by go_simp)
attribute [local go_sem high] eqA_Spot
set_option maxHeartbeats 1600000 in
set_option maxRecDepth 100000 in
theorem sameSpots_yes (w : World) (A B : Option Addr) (c d : Nat) (L : List Spt) (hx : RowSp w A L) (hy : RowSp w B L) (hn : L.length ≤ 4611686018427387904) :
    Calls Try.prog 27 #[.slice A L.length c, .slice B L.length d] w fun e w' => e = .returned (.bool true) ∧ Drawn0 w w' := by
  obtain ⟨n, en⟩ : ∃ n, n = L.length := ⟨_, rfl⟩
  have EN := Lib.hid en
  rw [← en] at hn ⊢
  by_cases h0 : n = 0
  · subst h0
    clear hx hy en
    go_enter Try.func27, Try.ntmps27
    go_wp2_with fail
    go_loop [5] (fun v5 => v5 = .int .i64 0) (fun _ => 0)
    case atStart => rfl
    case round =>
      subst hrel
      go_wp2
      go_ret
      exact ⟨rfl, Drawn0.refl _⟩
  · obtain ⟨ax, rfl, cx⟩ := hx (by omega)
    obtain ⟨ay, rfl, cy⟩ := hy (by omega)
    have CX := Lib.hid cx
    have CY := Lib.hid cy
    have heq : ((n : Int) == (n : Int)) = true := beq_iff_eq.2 rfl
    clear hx hy cx cy en
    go_enter Try.func27, Try.ntmps27
    go_wp2_with fail
    go_loopg [5] n (fun kq v5 wr => ∃ i : Nat, v5 = .int .i64 i ∧ i ≤ n ∧ n ≤ i + kq ∧ Aside (Drawn0 w wr))
    case atStart => exact ⟨0, rfl, by omega, by omega, Drawn0.refl _⟩
    case round =>
      obtain ⟨i, rfl, hi, hk, HD0⟩ := hrel
      obtain ⟨qn, rfl⟩ := HD0.out.out
      by_cases hlt : i < n
      · have hltz : (i : Int) < (n : Int) := by omega
        obtain ⟨c1, c2, c3⟩ := CX.out i (by rw [← EN.out]; exact hlt)
        obtain ⟨c4, c5, c6⟩ := CY.out i (by rw [← EN.out]; exact hlt)
        generalize (L[i]'(by rw [← EN.out]; exact hlt)) = s at c1 c2 c3 c4 c5 c6
        go_wp2
        repeat (go_quiet (fail); try go_wp2)
        go_roundg (n - (i + 1))
        case measure => omega
        case rel => exact ⟨i + 1, by go_num, by omega, by omega, Drawn0.mk ⟨_, rfl⟩⟩
      · have hltz : ¬ (i : Int) < (n : Int) := by omega
        have e : i = n := by omega
        subst e
        go_wp2
        go_ret
        exact ⟨rfl, HD0.out⟩
attribute [local go_sem] Oper.semAt_some

theorem rshare4_calls (q f g : Int) (hq : 1 ≤ q ∧ q ≤ 4096) (hf : 0 ≤ f ∧ f < q) (hg : 0 ≤ g ∧ g < q) (W : World) (ad : Addr) (hr : ∀ i, i < 4 → W.cell? (ad.add i) = some (.int .i64 (wt4 q f g i))) :
    Calls Try.prog 55 #[.slice (some ad) 4 4] W fun e w' => ∃ bo res, e = .returned (.tuple #[.slice (some ⟨bo, 0, none⟩) 4 4, .int .i64 0]) ∧ W.heap.size ≤ bo ∧ w'.heap[bo]? = some (.cells (arrI 4 res) 3 (0, 0)) ∧ IsShared (wt4 q f g) 4 res ∧ Below W.heap.size W w' := by
  obtain ⟨_, _, _, a1, a2⟩ := mulq (q - f) (q - g) (by omega) (by omega)
  obtain ⟨_, _, _, b1, b2⟩ := mulq f (q - g) (by omega) (by omega)
  obtain ⟨_, _, _, c1, c2⟩ := mulq (q - f) g (by omega) (by omega)
  obtain ⟨_, _, _, d1, d2⟩ := mulq f g (by omega) (by omega)
  have hok : ShareOk (wt4 q f g) 4 := by
    refine ⟨by omega, by omega, ?_, ?_⟩
    · intro i hi
      have : i = 0 ∨ i = 1 ∨ i = 2 ∨ i = 3 := by omega
      rcases this with rfl | rfl | rfl | rfl <;> simp only [wt4] <;> omega
    · rw [wt4_sum]
      have := Int.mul_le_mul hq.1 hq.1 (by omega) (by omega)
      omega
  refine (rShare_calls W 4 4 (wt4 q f g) (some ad) (fun _ => ⟨ad, rfl, hr⟩) (by omega)).mono ?_
  rintro e w' (⟨_, bo, S, rfl, hS⟩ | ⟨hno, _⟩)
  · exact ⟨bo, fun k => shOf (wt4 q f g) (sumTo (wt4 q f g) 4) k + ((S k).toNat : Int), rfl, hS.lo, hS.io, ⟨S, hS.ts, fun k _ => rfl⟩, hS.be⟩
  · exact absurd hok hno
/-- What a place's spots are, as a row of the call's own. -/
def SpotsEnd (w : World) (kind border : Int) (t : Wp) (W H x y : Int) (v : Value) (w' : World) : Prop := ∃ L, IsSpots kind border t W H x y L ∧ OwnS w' w.heap.size v L ∧ Below w.heap.size w w'

set_option maxHeartbeats 6400000 in
set_option maxRecDepth 100000 in
theorem rspots_near (w : World) (border : Int) (t : Wp) (W H x y : Int) (hr : RightIn 1 border t W H) (hx : 0 ≤ x ∧ x ≤ 1024) (hy : 0 ≤ y ∧ y ≤ 1024) :
    Calls Try.prog 65 #[.int .i64 1, .int .i64 border, wpV t, .int .i64 W, .int .i64 H, .int .i64 x, .int .i64 y] w fun e w' => ∃ v, e = .returned v ∧ SpotsEnd w 1 border t W H x y v w' := by
  obtain ⟨⟨u1, u2⟩, v1, v2⟩ := fromU_bd hr.wp hx hy
  have hq := hr.q
  obtain ⟨hA, hB, hC, hD, hE, hF, hQ⟩ := hr.wp
  obtain ⟨p1, e1, M1, b1⟩ := mulp t.A x (by omega) (by omega)
  obtain ⟨p2, e2, M2, b2⟩ := mulp t.B y (by omega) (by omega)
  obtain ⟨p3, e3, M3, b3⟩ := mulp t.D x (by omega) (by omega)
  obtain ⟨p4, e4, M4, b4⟩ := mulp t.E y (by omega) (by omega)
  have HU : Hid (fromU t x y = p1 + p2 + t.C ∧ fromV t x y = p3 + p4 + t.F) := (show _ ∧ _ from by unfold fromU fromV; rw [e1, e2, e3, e4]; exact ⟨rfl, rfl⟩)
  rw [HU.out.1] at u1 u2
  rw [HU.out.2] at v1 v2
  clear e1 e2 e3 e4
  have W1 : IntKind.i64.wrap (p1 + p2) = p1 + p2 := IntWalk.i64_in _ (by omega)
  have W3 : IntKind.i64.wrap (p3 + p4) = p3 + p4 := IntWalk.i64_in _ (by omega)
  obtain ⟨u, eu⟩ : ∃ u, u = p1 + p2 + t.C := ⟨_, rfl⟩
  obtain ⟨v, ev⟩ : ∃ u, u = p3 + p4 + t.F := ⟨_, rfl⟩
  rw [← eu] at HU u1 u2
  rw [← ev] at HU v1 v2
  have W2 : IntKind.i64.wrap (p1 + p2 + t.C) = u := by rw [eu]; exact IntWalk.i64_in _ (by omega)
  have W4 : IntKind.i64.wrap (p3 + p4 + t.F) = v := by rw [ev]; exact IntWalk.i64_in _ (by omega)
  obtain ⟨q, eq⟩ : ∃ q, q = t.Q := ⟨_, rfl⟩
  rw [← eq] at hq
  obtain ⟨hq1, hq2⟩ := hq
  have X1 : IntKind.i64.wrap (2 * u) = 2 * u := IntWalk.i64_in _ (by omega)
  have X2 : IntKind.i64.wrap (2 * u + q) = 2 * u + q := IntWalk.i64_in _ (by omega)
  have X3 : IntKind.i64.wrap (2 * v) = 2 * v := IntWalk.i64_in _ (by omega)
  have X4 : IntKind.i64.wrap (2 * v + q) = 2 * v + q := IntWalk.i64_in _ (by omega)
  have X5 : IntKind.i64.wrap (2 * q) = 2 * q := IntWalk.i64_in _ (by omega)
  have HF1 := Lib.hid fun W => floor_calls W (2 * u + q) (2 * q) (by omega) (by omega) (by omega)
  have HF2 := Lib.hid fun W => floor_calls W (2 * v + q) (2 * q) (by omega) (by omega) (by omega)
  have g1 : ((2 * u + q) / (2 * q)).natAbs ≤ (2 * u + q).natAbs := Int.natAbs_ediv_le_natAbs _ _
  have g2 : ((2 * v + q) / (2 * q)).natAbs ≤ (2 * v + q).natAbs := Int.natAbs_ediv_le_natAbs _ _
  obtain ⟨i, ei⟩ : ∃ i, i = (2 * u + q) / (2 * q) := ⟨_, rfl⟩
  obtain ⟨j, ej⟩ : ∃ i, i = (2 * v + q) / (2 * q) := ⟨_, rfl⟩
  rw [← ei] at g1 HF1
  rw [← ej] at g2 HF2
  have HPT := Lib.hid fun w => put_calls w border W H i j 65536 hr.bw hr.bh (by omega) (by omega)
  have HIS : Hid (IsSpots 1 border t W H x y [sptAt border W H i j 65536]) := (show IsSpots _ _ _ _ _ _ _ _ from .inl ⟨rfl, by rw [ei, ej, eq, HU.out.1, HU.out.2]⟩)
  unfold sptAt at HIS
  obtain ⟨a, ea⟩ : ∃ a, a = borderV border W i := ⟨_, rfl⟩
  obtain ⟨b, eb⟩ : ∃ a, a = borderV border H j := ⟨_, rfl⟩
  rw [← ea, ← eb] at HIS
  rw [← ea, ← eb] at HPT
  unfold WGives at HPT
  have hbx := heap_alloc_new w (.cells (wpC t) 32)
  obtain ⟨c0, c1, c2, c3, c4, c5, c6⟩ := wpC_cells0 hbx
  rw [← eq] at c6
  have HBE := Lib.hid ((Below.refl w.heap.size w).alloc (Nat.le_refl _) (.cells (wpC t) 32))
  clear eu ev ei ej ea eb g1 g2 hA hB hC hD hE hF hQ hr hbx HU
  unfold wpV
  unfold wpC at c0 c1 c2 c3 c4 c5 c6 HBE ⊢
  rw [← eq] at c0 c1 c2 c3 c4 c5 c6 HBE
  go_enter Try.func65, Try.ntmps65
  rw [← eq]
  clear eq
  go_upto_region 1 with (fail)
  generalize w.alloc (.cells #[.int .i64 t.A, .int .i64 t.B, .int .i64 t.C, .int .i64 t.D, .int .i64 t.E, .int .i64 t.F, .int .i64 q] 32) = w1 at c0 c1 c2 c3 c4 c5 c6 HBE ⊢
  go_quiet (fail)
  go_upto_region 3 with (fail)
  go_cut [14] (fun v14 wc => ∃ g, v14 = .slice (some ⟨g, 0, none⟩) 1 1 ∧ Hid (wc.heap[g]? = some (.cells #[.int .i64 a, .int .i64 b, .int .i64 65536] 51 (0, 0))) ∧ Hid (w.heap.size ≤ g) ∧ Hid (Below w.heap.size w wc))
  case first =>
    have HSK : Hid (∀ W W' : World, W.cell? ⟨w.heap.size, 6, none⟩ = some (.int .i64 q) → Below W.heap.size W W' → W'.cell? ⟨w.heap.size, 6, none⟩ = some (.int .i64 q)) := (show ∀ W W' : World, _ → _ → _ from fun W W' h hb => (hb.cell (World.block_lt_of_cell? _ _ h)).trans h)
    go_region_held3 (fun W => W.cell? ⟨w.heap.size, 6, none⟩ = some (.int .i64 q)) (first | assumption | exact HSK.out _ _ (by assumption) (by assumption) | exact HSK.out _ _ (by assumption) ((Below.refl _ _).alloc (Nat.le_refl _) _) | simpa using c6) (first
      | (go_at_call 99; (with_reducible refine (HF1.out _).mono ?_); rintro e1 w2 ⟨rfl, rfl⟩)
      | (go_at_call 99; (with_reducible refine (HF2.out _).mono ?_); rintro e1 w2 ⟨rfl, rfl⟩)
      | (go_at_call 98; (with_reducible refine (HPT.out _).mono ?_); rintro e1 w3 ⟨rfl, hb⟩))
    all_goals (go_wp2; go_meet; case rel => exact ⟨_, rfl, heap_alloc_new w3 _, (show _ ≤ _ from Nat.le_trans HBE.out.size hb.size), (show Below _ _ _ from ujoin (ujoin HBE.out (below_drewN0 hb)) ((Below.refl _ _).alloc (Nat.le_refl _) _))⟩)
  case rest =>
    obtain ⟨g, rfl, HG, HLO, HB⟩ := hcut
    go_wp2
    go_ret
    exact ⟨_, rfl, _, HIS.out, OwnS.one HLO.out (s := ⟨a, b, 65536⟩) HG.out, HB.out⟩

set_option maxHeartbeats 6400000 in
set_option maxRecDepth 100000 in
theorem rspots_linear (w : World) (border : Int) (t : Wp) (W H x y : Int) (hr : RightIn 2 border t W H) (hx : 0 ≤ x ∧ x ≤ 1024) (hy : 0 ≤ y ∧ y ≤ 1024) :
    Calls Try.prog 65 #[.int .i64 2, .int .i64 border, wpV t, .int .i64 W, .int .i64 H, .int .i64 x, .int .i64 y] w fun e w' => ∃ v, e = .returned v ∧ SpotsEnd w 2 border t W H x y v w' := by
  obtain ⟨⟨u1, u2⟩, v1, v2⟩ := fromU_bd hr.wp hx hy
  have hq := hr.q
  obtain ⟨hA, hB, hC, hD, hE, hF, hQ⟩ := hr.wp
  obtain ⟨p1, e1, M1, b1⟩ := mulp t.A x (by omega) (by omega)
  obtain ⟨p2, e2, M2, b2⟩ := mulp t.B y (by omega) (by omega)
  obtain ⟨p3, e3, M3, b3⟩ := mulp t.D x (by omega) (by omega)
  obtain ⟨p4, e4, M4, b4⟩ := mulp t.E y (by omega) (by omega)
  have HU : Hid (fromU t x y = p1 + p2 + t.C ∧ fromV t x y = p3 + p4 + t.F) := (show _ ∧ _ from by unfold fromU fromV; rw [e1, e2, e3, e4]; exact ⟨rfl, rfl⟩)
  rw [HU.out.1] at u1 u2
  rw [HU.out.2] at v1 v2
  clear e1 e2 e3 e4
  have W1 : IntKind.i64.wrap (p1 + p2) = p1 + p2 := IntWalk.i64_in _ (by omega)
  have W3 : IntKind.i64.wrap (p3 + p4) = p3 + p4 := IntWalk.i64_in _ (by omega)
  obtain ⟨u, eu⟩ : ∃ u, u = p1 + p2 + t.C := ⟨_, rfl⟩
  obtain ⟨v, ev⟩ : ∃ u, u = p3 + p4 + t.F := ⟨_, rfl⟩
  rw [← eu] at HU u1 u2
  rw [← ev] at HU v1 v2
  have W2 : IntKind.i64.wrap (p1 + p2 + t.C) = u := by rw [eu]; exact IntWalk.i64_in _ (by omega)
  have W4 : IntKind.i64.wrap (p3 + p4 + t.F) = v := by rw [ev]; exact IntWalk.i64_in _ (by omega)
  obtain ⟨q, eq⟩ : ∃ q, q = t.Q := ⟨_, rfl⟩
  rw [← eq] at hq
  obtain ⟨hq1, hq2⟩ := hq
  have HF1 := Lib.hid fun W => floor_calls W u q (by omega) (by omega) (by omega)
  have HF2 := Lib.hid fun W => floor_calls W v q (by omega) (by omega) (by omega)
  have g1 : (u / q).natAbs ≤ u.natAbs := Int.natAbs_ediv_le_natAbs _ _
  have g2 : (v / q).natAbs ≤ v.natAbs := Int.natAbs_ediv_le_natAbs _ _
  have f1 := Int.emod_nonneg u (b := q) (by omega)
  have f2 := Int.emod_lt_of_pos u (b := q) (by omega)
  have f3 := Int.emod_nonneg v (b := q) (by omega)
  have f4 := Int.emod_lt_of_pos v (b := q) (by omega)
  have d1 := Int.mul_ediv_add_emod u q
  have d2 := Int.mul_ediv_add_emod v q
  obtain ⟨i, ei⟩ : ∃ i, i = u / q := ⟨_, rfl⟩
  obtain ⟨j, ej⟩ : ∃ i, i = v / q := ⟨_, rfl⟩
  obtain ⟨f, ef⟩ : ∃ i, i = u % q := ⟨_, rfl⟩
  obtain ⟨g, eg⟩ : ∃ i, i = v % q := ⟨_, rfl⟩
  rw [← ei] at g1 HF1
  rw [← ej] at g2 HF2
  rw [← ei, ← ef] at d1
  rw [← ej, ← eg] at d2
  rw [← ef] at f1 f2
  rw [← eg] at f3 f4
  rw [Int.mul_comm] at d1 d2
  obtain ⟨m1, em1⟩ : ∃ m, m = i * q := ⟨_, rfl⟩
  obtain ⟨m2, em2⟩ : ∃ m, m = j * q := ⟨_, rfl⟩
  rw [← em1] at d1
  rw [← em2] at d2
  have V1 : IntKind.i64.wrap (i * q) = m1 := by rw [em1]; exact IntWalk.i64_in _ (by rw [← em1]; omega)
  have V2 : IntKind.i64.wrap (j * q) = m2 := by rw [em2]; exact IntWalk.i64_in _ (by rw [← em2]; omega)
  have V3 : IntKind.i64.wrap (u - m1) = f := by rw [IntWalk.i64_in _ (by omega)]; omega
  have V4 : IntKind.i64.wrap (v - m2) = g := by rw [IntWalk.i64_in _ (by omega)]; omega
  have V5 : IntKind.i64.wrap (q - f) = q - f := IntWalk.i64_in _ (by omega)
  have V6 : IntKind.i64.wrap (q - g) = q - g := IntWalk.i64_in _ (by omega)
  obtain ⟨s1, y1, N1, a1⟩ := mulq (q - f) (q - g) (by omega) (by omega)
  obtain ⟨s2, y2, N2, a2⟩ := mulq f (q - g) (by omega) (by omega)
  obtain ⟨s3, y3, N3, a3⟩ := mulq (q - f) g (by omega) (by omega)
  obtain ⟨s4, y4, N4, a4⟩ := mulq f g (by omega) (by omega)
  have HSH : Hid (∀ (W : World) (ad : Addr), (W.cell? (ad.add 0) = some (.int .i64 s1) ∧ W.cell? (ad.add 1) = some (.int .i64 s2) ∧ W.cell? (ad.add 2) = some (.int .i64 s3) ∧ W.cell? (ad.add 3) = some (.int .i64 s4)) → Calls Try.prog 55 #[.slice (some ad) 4 4] W fun e w' => ∃ bo res, e = .returned (.tuple #[.slice (some ⟨bo, 0, none⟩) 4 4, .int .i64 0]) ∧ W.heap.size ≤ bo ∧ w'.heap[bo]? = some (.cells (arrI 4 res) 3 (0, 0)) ∧ IsShared (wt4 q f g) 4 res ∧ Below W.heap.size W w') := (show ∀ _ _, _ → _ from fun W ad hc => rshare4_calls q f g ⟨by omega, by omega⟩ ⟨by omega, by omega⟩ ⟨by omega, by omega⟩ W ad fun k hk => by
    have hk4 : k = 0 ∨ k = 1 ∨ k = 2 ∨ k = 3 := by omega
    rcases hk4 with rfl | rfl | rfl | rfl
    · rw [hc.1]; simp only [wt4, y1]
    · rw [hc.2.1]; simp only [wt4, y2]
    · rw [hc.2.2.1]; simp only [wt4, y3]
    · rw [hc.2.2.2]; simp only [wt4, y4])
  have HS : Hid (∀ res, IsShared (wt4 q f g) 4 res → IsSpots 2 border t W H x y (spotsTo border W H i j res 4)) := (show ∀ _, _ from fun res hres => .inr ⟨by decide, res, by rw [← eq, HU.out.1, HU.out.2, ← ef, ← eg]; exact hres, by rw [ei, ej, eq, HU.out.1, HU.out.2]⟩)
  have HPT : Hid (∀ w (a c r : Int), (-34376515584 ≤ a ∧ a ≤ 34376515585) → (-34376515584 ≤ c ∧ c ≤ 34376515585) → Calls Try.prog 98 #[.int .i64 border, .int .i64 W, .int .i64 H, .int .i64 a, .int .i64 c, .int .i64 r] w fun e w' => e = .returned (.agg (sptC (sptAt border W H a c r))) ∧ Below w.heap.size w w') := (show ∀ w _ _ _, _ → _ → _ from fun w a c r h1 h2 => put_calls w border W H a c r hr.bw hr.bh (by omega) (by omega))
  have i1 : -34376515584 ≤ i ∧ i ≤ 34376515584 := by omega
  have j1 : -34376515584 ≤ j ∧ j ≤ 34376515584 := by omega
  have hbx := heap_alloc_new w (.cells (wpC t) 32)
  obtain ⟨c0, c1, c2, c3, c4, c5, c6⟩ := wpC_cells0 hbx
  rw [← eq] at c6
  have HBE := Lib.hid ((Below.refl w.heap.size w).alloc (Nat.le_refl _) (.cells (wpC t) 32))
  clear eu ev ei ej ef eg g1 g2 hA hB hC hD hE hF hQ hr hbx HU y1 y2 y3 y4 a1 a2 a3 a4 d1 d2 em1 em2 f1 f2 f3 f4
  unfold wpV
  unfold wpC at c0 c1 c2 c3 c4 c5 c6 HBE ⊢
  rw [← eq] at c0 c1 c2 c3 c4 c5 c6 HBE
  go_enter Try.func65, Try.ntmps65
  rw [← eq]
  clear eq
  go_upto_region 1 with (fail)
  generalize w.alloc (.cells #[.int .i64 t.A, .int .i64 t.B, .int .i64 t.C, .int .i64 t.D, .int .i64 t.E, .int .i64 t.F, .int .i64 q] 32) = w1 at c0 c1 c2 c3 c4 c5 c6 HBE ⊢
  go_quiet (fail)
  have k6 : (w1.drewN nq).cell? ⟨w.heap.size, 6, none⟩ = some (.int .i64 q) := c6
  have HBE2 : Hid (Below w.heap.size w (w1.drewN nq)) := (show Below _ _ _ from ⟨HBE.out.os, HBE.out.tape, HBE.out.output, HBE.out.size, HBE.out.block⟩)
  go_upto_region 4 with (fail)
  generalize w1.drewN nq = w2 at k6 HBE2 ⊢
  clear c0 c1 c2 c3 c4 c5 c6 HBE
  go_quiet ((first
    | (go_at_call 99; with_reducible exact Calls.quiet_of_same ((HF1.out _).mono fun _ _ h => ⟨h.1, h.2.symm⟩))
    | (go_at_call 99; with_reducible exact Calls.quiet_of_same ((HF2.out _).mono fun _ _ h => ⟨h.1, h.2.symm⟩))))
  have k6' : (w2.drewN nq).cell? ⟨w.heap.size, 6, none⟩ = some (.int .i64 q) := k6
  have HBE3 : Hid (Below w.heap.size w (w2.drewN nq)) := (show Below _ _ _ from ⟨HBE2.out.os, HBE2.out.tape, HBE2.out.output, HBE2.out.size, HBE2.out.block⟩)
  go_upto_region 5 with (fail)
  generalize w2.drewN nq = w3 at k6' HBE3 ⊢
  go_quiet (fail)
  have k7 : (w3.drewN nq).cell? ⟨w.heap.size, 6, none⟩ = some (.int .i64 q) := k6'
  have HBE4 : Hid (Below w.heap.size w (w3.drewN nq)) := (show Below _ _ _ from ⟨HBE3.out.os, HBE3.out.tape, HBE3.out.output, HBE3.out.size, HBE3.out.block⟩)
  go_upto_region 6 with (fail)
  generalize w3.drewN nq = w4 at k7 HBE4 ⊢
  clear k6 k6' HBE2 HBE3 HF1 HF2
  go_wp2_with (go_at_call 55; refine (HSH.out _ _ ⟨ucell (heap_alloc_new w4 _) 0, ucell (heap_alloc_new w4 _) 1, ucell (heap_alloc_new w4 _) 2, ucell (heap_alloc_new w4 _) 3⟩).mono ?_; rintro e1 w5 ⟨bo, res, rfl, hlo, hio, hres, hbl⟩; have HB5 := Lib.hid (ujoin (ujoin HBE4.out ((Below.refl _ w4).alloc (Nat.le_refl _) _)) hbl); have HIO := Lib.hid hio; have HRES := Lib.hid hres; have HLO : Hid (w.heap.size < bo) := (show _ < _ from by have := HBE4.out.size; simp at hlo; omega); clear hlo hio hres hbl k7)
  clear HSH HBE4 N1 N2 N3 N4 V1 V2 V3 V4 V5 V6
  go_loopw [23, 24] (fun v23 v24 wr => ∃ k : Nat, v24 = .int .i64 (k : Int) ∧ k ≤ 4 ∧ Hid (OwnS wr w.heap.size v23 (spotsTo border W H i j res k)) ∧ Hid (wr.heap[bo]? = some (.cells (arrI 4 res) 3 (0, 0))) ∧ Hid (v23.ownBlock ≠ some bo) ∧ Hid (Below w.heap.size w wr)) (fun _ v24 _ => 4 - (intOf v24).toNat)
  case atStart => exact ⟨0, rfl, by omega, (show OwnS _ _ _ _ from OwnS.nil _ _), HIO.out, (show _ ≠ _ from by simp [Value.ownBlock]), HB5.out⟩
  case round =>
    obtain ⟨k, rfl, hk, HO, HR, HNE, HB⟩ := hrel
    by_cases hlt : k < 4
    · have hltz : (k : Int) < 4 := by omega
      obtain ⟨r, er⟩ : ∃ r, r = res k := ⟨_, rfl⟩
      have cr := (ucell HR.out k).trans (arrI_get 4 res k hlt)
      rw [← er] at cr
      by_cases hr : r = 0
      · subst hr
        have HE : Hid (spotsTo border W H i j res (k + 1) = spotsTo border W H i j res k) := (show _ = _ from by rw [spotsTo, if_pos er.symm])
        clear er
        go_wp2
        go_roundw
        case rel => exact ⟨k + 1, by first | rfl | go_num, by omega, (show OwnS _ _ _ _ from by rw [HE.out]; exact HO.out), HR.out, HNE.out, HB.out⟩
        case measure => simp [intOf]; omega
      · have hr0 : (r != 0) = true := by rw [bne_iff_ne]; exact hr
        obtain ⟨m, em⟩ : ∃ m, m = ((k % 2 : Nat) : Int) := ⟨_, rfl⟩
        obtain ⟨d, ed⟩ : ∃ m, m = ((k / 2 : Nat) : Int) := ⟨_, rfl⟩
        have TM : (k : Int).tmod 2 = m := by rw [em]; rfl
        have TD : (k : Int).tdiv 2 = d := by rw [ed]; rfl
        have W3 : IntKind.i64.wrap m = m := IntWalk.i64_in _ (by omega)
        have W4 : IntKind.i64.wrap d = d := IntWalk.i64_in _ (by omega)
        have W5 : IntKind.i64.wrap (i + m) = i + m := IntWalk.i64_in _ (by omega)
        have W6 : IntKind.i64.wrap (j + d) = j + d := IntWalk.i64_in _ (by omega)
        have HA := Lib.hid fun W => HPT.out W (i + m) (j + d) r (by omega) (by omega)
        obtain ⟨s, es⟩ : ∃ s, s = sptAt border W H (i + m) (j + d) r := ⟨_, rfl⟩
        rw [← es] at HA
        unfold sptC at HA
        have HE : Hid (spotsTo border W H i j res (k + 1) = spotsTo border W H i j res k ++ [s]) := (show _ = _ from by rw [spotsTo, if_neg (fun h => hr (er.trans h)), es, em, ed, er])
        have hlen := spotsTo_len border W H i j res k
        obtain ⟨A0, n0, c0, e0⟩ := HO.out.sl
        subst e0
        clear er em ed es hr
        go_wp2_with (first
          | (go_at_call 98; (with_reducible refine (HA.out _).mono ?_); rintro e1 w6 ⟨rfl, hbl⟩; have hb2 := ujoin hbl ((Below.refl _ w6).alloc (Nat.le_refl _) (.cells #[.int .i64 s.X, .int .i64 s.Y, .int .i64 s.N] 51)); obtain ⟨v', V', hrun, p1, p2, p3⟩ := own_spot 44 _ w.heap.size _ _ (HO.out.below hb2) (Nat.le_trans HB.out.size hb2.size) (by omega) w6.heap.size 51 s (heap_alloc_new w6 _); have HO2 : Hid (OwnS V' w.heap.size v' (spotsTo border W H i j res (k + 1))) := (show OwnS _ _ _ _ from by rw [HE.out]; exact p1); have hro := heap_lt' HR.out; have HR2 : Hid (V'.heap[bo]? = some (.cells (arrI 4 res) 3 (0, 0))) := (show _ = _ from (p2.block bo (Nat.lt_of_lt_of_le hro hb2.size) (fun e => HNE.out e.symm)).trans ((hb2.block bo hro).trans HR.out)); have HNE2 : Hid (v'.ownBlock ≠ some bo) := (show _ ≠ _ from by (rcases p3 with p3 | p3); (rw [p3]; exact HNE.out); (rw [p3]; intro e; injection e with e; have := hb2.size; omega)); have HB2 : Hid (Below w.heap.size w V') := (show Below _ _ _ from ((ujoin HB.out hb2).grown p2 (Nat.le_trans HB.out.size hb2.size) (fun z ez => (HO.out.lt z (by first | exact ez | exact ez.symm)).1))); obtain ⟨A9, n9, c9, e9⟩ := p1.sl; subst e9; clear hbl p1 p2 p3 hb2 hro)
          | (at_builtin; refine Go.Lib.wpList_append_run _ rfl _ _ 44 44 rfl _ _ rfl rfl _ V' hrun ?_))
        go_roundw
        case rel => exact ⟨k + 1, by first | rfl | go_num, by omega, HO2.out, HR2.out, HNE2.out, HB2.out⟩
        case measure => simp [intOf]; omega
    · have hltz : ¬ (k : Int) < 4 := by omega
      have e : k = 4 := by omega
      subst e
      go_wp2
      go_ret
      exact ⟨_, rfl, _, HS.out _ HRES.out, HO.out, HB.out⟩
attribute [local go_sem] Oper.semAt_some

theorem wpListIn_append_s {F : Fence} {n : Nat} {P : Program} (w : World) {ops : Array Oper} {rest : List Oper} {o : Oper} {a : Act} {Q : Exit → Act → World → Prop} (hg : o.guard = none) (s x : Operand) (t tn : TypeId)
    (ho : o.op = .call { callee := .builtin .append, args := #[s, x], argTypes := #[t, tn] }) (vs vx : Value) (hs : a.eval s = vs) (hx : a.eval x = vx)
    (v' : Value) (w' : World) (hr : (Builtin.append_ #[t, tn] o.type #[vs, vx]).run P w = .ok v' w') (h : wpListIn F n P ops Q rest (a.put o.dst v') w') : wpListIn F n P ops Q (o :: rest) a w := by
  refine wpListIn_plain hg fun K hK' => ?_
  unfold Oper.wpIn
  refine ⟨?_, ?_⟩
  · simp [Oper.about, ho, resolve, Target.leads, Sem.run_pure]
  · rw [Oper.semAt_plain F _ _ (by rw [ho]; intro c hc'; cases hc')]
    simp [execOp, ho, resolve, invoke, builtin, hs, hx, hr, Result.andThen]
    exact hK' _ _ h
/-- Between two spots: the row so far, in its box. -/
structure AsR (N n0 : Nat) (w0 : World) (v : Value) (B : Nat → Prop) (pre : List Spt) (V : World) : Prop where
  c : V.cell? ⟨n0, 0, none⟩ = some v
  f : V.frozen? ⟨n0, 0, none⟩ = false
  r : OwnS V N v pre
  bl : Below w0.heap.size w0 V
  sep : ∀ k, B k → N ≤ k ∧ k < V.heap.size ∧ v.ownBlock ≠ some k
  sz : N ≤ V.heap.size
def AsI (N n0 : Nat) (w0 : World) (B : Nat → Prop) (pre : List Spt) (V : World) : Prop := ∃ v, AsR N n0 w0 v B pre V
section
variable {N n0 : Nat} {w0 : World} {v : Value} {B B' : Nat → Prop} {pre : List Spt} {V V' : World}
theorem AsR.keep (hN : n0 < N ∧ w0.heap.size ≤ n0) (h1 : AsR N n0 w0 v B pre V) (hs : ∀ k, k < N ∨ v.ownBlock = some k → V'.heap[k]? = V.heap[k]?) (hb : V'.os = V.os ∧ V'.tape = V.tape ∧ V'.output = V.output) (hz : V.heap.size ≤ V'.heap.size) (hB : ∀ k, B' k → B k ∨ (V.heap.size ≤ k ∧ k < V'.heap.size)) : AsR N n0 w0 v B' pre V' where
  c := wcell_same (hs _ (.inl hN.1)) h1.c
  f := (World.frozen?_of_block (a := ⟨n0, 0, none⟩) (hs n0 (.inl hN.1))).trans h1.f
  r := h1.r.same fun k hk => hs k (.inr hk)
  bl := ⟨hb.1.trans h1.bl.os, hb.2.1.trans h1.bl.tape, hb.2.2.trans h1.bl.output, Nat.le_trans h1.bl.size hz, fun k hk => (hs k (.inl (by omega))).trans (h1.bl.block k hk)⟩
  sep := fun k hk => by
    rcases hB k hk with hk | ⟨k1, k2⟩
    · obtain ⟨s1, s2, s3⟩ := h1.sep k hk
      exact ⟨s1, Nat.lt_of_lt_of_le s2 hz, s3⟩
    · have := h1.sz
      exact ⟨by omega, k2, fun e => by have := (h1.r.lt k e).2; omega⟩
  sz := Nat.le_trans h1.sz hz
theorem asI_own (hN : n0 < N ∧ w0.heap.size ≤ n0) : OwnB N (AsI N n0 w0) where
  ab := fun B s V V' ⟨v, h1⟩ hg => by
    refine ⟨v, h1.keep hN (fun k hk => hg.block k ?_ (fun hb => ?_)) ⟨hg.os, hg.tape, hg.output⟩ hg.size (fun k hk => hk)⟩
    · rcases hk with hk | hk
      · exact Nat.lt_of_lt_of_le hk h1.sz
      · exact (h1.r.lt k hk).2
    · obtain ⟨s1, s2, s3⟩ := h1.sep k hb
      rcases hk with hk | hk
      · omega
      · exact s3 hk
  alloc := fun B s V o ⟨v, h1⟩ => by
    have hz := h1.sz
    exact ⟨v, h1.keep hN (fun k hk => Below.heap_alloc V o k (by
      rcases hk with hk | hk
      · omega
      · exact (h1.r.lt k hk).2)) ⟨rfl, rfl, rfl⟩ (by simp) (fun k hk => .inl hk)⟩
  put := fun B s V r o o' ⟨v, h1⟩ hr ho hc => by
    have hne : ∀ k, k < N ∨ v.ownBlock = some k → k ≠ r := fun k hk e => by
      subst e
      rcases hk with hk | hk
      · omega
      · obtain ⟨cu, hcu⟩ := h1.r.obj k hk
        rw [hcu] at ho
        injection ho with ho
        rw [← ho] at hc
        cases hc
    exact ⟨v, h1.keep hN (fun k hk => World.putObj_heap_other (hne k hk)) ⟨rfl, rfl, rfl⟩ (by simp) (fun k hk => .inl hk)⟩
/-- The round's end. -/
theorem asR_next {W2 : World} {v' : Value} {s : Spt} {o : Obj} (hN : n0 < N ∧ w0.heap.size ≤ n0) (h1 : AsR N n0 w0 v B pre W2) (p1 : OwnS V N v' (pre ++ [s])) (p2 : (W2.alloc o).grownBy V v.ownBlock) (p3 : v'.ownBlock = v.ownBlock ∨ v'.ownBlock = some (W2.alloc o).heap.size) (K0 : Nat → Prop) (hK : ∀ k, K0 k → k < N ∧ k ≠ n0) :
    KeepsFrom N W2 (V.setCell ⟨n0, 0, none⟩ v') ∧ KeepB (fun b => B b ∨ K0 b) W2 (V.setCell ⟨n0, 0, none⟩ v') ∧ AsI N n0 w0 B (pre ++ [s]) (V.setCell ⟨n0, 0, none⟩ v') := by
  have hz : (V.setCell ⟨n0, 0, none⟩ v').heap.size = V.heap.size := by simp [World.setCell]
  have hgs : W2.heap.size < V.heap.size := by have := p2.size; simp at this; omega
  have hsz := h1.sz
  have sm : ∀ k, k < W2.heap.size → v.ownBlock ≠ some k → V.heap[k]? = W2.heap[k]? := fun k hk hn => (p2.block k (by simp; omega) (fun e => hn e.symm)).trans (Below.heap_alloc W2 o k hk)
  have st : ∀ k, k ≠ n0 → (V.setCell ⟨n0, 0, none⟩ v').heap[k]? = V.heap[k]? := fun k hk => Below.heap_setCell _ _ _ _ hk
  have low : ∀ k, k < N → V.heap[k]? = W2.heap[k]? := fun k hk => sm k (by omega) (fun e => by have := (h1.r.lt k e).1; omega)
  have hv' : ∀ k, v'.ownBlock = some k → N ≤ k ∧ k < V.heap.size := p1.lt
  have c2 : V.cell? ⟨n0, 0, none⟩ = some v := wcell_same (low n0 hN.1) h1.c
  refine ⟨⟨by omega, fun k o' hkN hk ho => ?_⟩, ⟨by omega, fun k hk => ?_⟩, v', ?_⟩
  · have hk2 := (Array.getElem?_eq_some_iff.1 hk).1
    refine (st k (by omega)).trans ((sm k hk2 (fun e => ?_)).trans hk)
    obtain ⟨cu, hcu⟩ := h1.r.obj k e
    rw [hcu] at hk
    injection hk with hk
    rw [← hk] at ho
    cases ho
  · rcases hk with hk | hk
    · obtain ⟨s1, s2, s3⟩ := h1.sep k hk
      exact (st k (by omega)).trans (sm k s2 s3)
    · obtain ⟨k1, k2⟩ := hK k hk
      exact (st k k2).trans (low k k1)
  · refine ⟨World.cell?_setCell_same' _ _ _ (by rw [c2]; rfl), ?_, p1.same fun k hk => st k (by have := (hv' k hk).1; omega), ?_, fun k hk => ?_, by omega⟩
    · rw [World.frozen?_setCell]
      exact (World.frozen?_of_block (a := ⟨n0, 0, none⟩) (low n0 hN.1)).trans h1.f
    · have hb1 : Below w0.heap.size w0 V := ⟨p2.os.trans h1.bl.os, p2.tape.trans h1.bl.tape, p2.output.trans h1.bl.output, Nat.le_trans h1.bl.size (by omega), fun k hk => (low k (by omega)).trans (h1.bl.block k hk)⟩
      exact hb1.setCell (by show w0.heap.size ≤ n0; omega) _
    · obtain ⟨s1, s2, s3⟩ := h1.sep k hk
      refine ⟨s1, by omega, fun e => ?_⟩
      rcases p3 with q | q
      · rw [q] at e; exact s3 e
      · rw [q] at e; injection e with e; simp at e; omega
end

set_option maxHeartbeats 3200000 in
set_option maxRecDepth 100000 in
theorem appendSeq_in (kind border : Int) (t : Wp) (W H x y : Int) (w : World) (b : Nat) (hb3 : b + 3 ≤ w.heap.size) (hr : RightIn kind border t W H) (hb : Boxes b kind border t W H x y w) (hx : 0 ≤ x ∧ x ≤ 1024) (hy : 0 ≤ y ∧ y ≤ 1024) :
    CallsIn Fence.wide 9 Try.prog 101 #[.slice none 0 0, .func (.func 102) #[] #[.pointer (some ⟨b, 0, none⟩), .pointer (some ⟨b + 1, 0, none⟩), .pointer (some ⟨b + 2, 0, none⟩)]] w fun e w' => ∃ v L, e = .returned v ∧ IsSpots kind border t W H x y L ∧ OwnS w' w.heap.size v L ∧ Below w.heap.size w w' := by
  obtain ⟨w1, e1⟩ : ∃ w1, w1 = w.alloc (.cells #[.slice none 0 0] 44) := ⟨_, rfl⟩
  have ba : Below w.heap.size w w1 := by rw [e1]; exact (Below.refl _ _).alloc (Nat.le_refl _) _
  have z1 : w1.heap.size = w.heap.size + 1 := by rw [e1]; simp
  have q1 : w1.heap[w.heap.size]? = some (.cells #[.slice none 0 0] 44) := by rw [e1]; exact heap_alloc_new w _
  have hN : w.heap.size < w1.heap.size ∧ w.heap.size ≤ w.heap.size := ⟨by omega, Nat.le_refl _⟩
  have HSQ := Lib.hid (spots_seq kind border t W H x y w1 b hr (hb.below (Nat.le_refl _) ba) hx hy (9 - 1) (by decide))
  have H0 : Hid (AsI w1.heap.size w.heap.size w (fun _ => False) [] w1) := (show AsI _ _ _ _ _ _ from ⟨.slice none 0 0, ucell q1 0, ufree q1 0, OwnS.nil _ _, ba, fun k h => h.elim, Nat.le_refl _⟩)
  refine callsIn_of_wp_marks Try.func101 rfl trivial ?_ rfl
  simp only [Try.ntmps101, List.size_toArray, List.length_cons, List.length_nil, Nat.reduceAdd, Nat.reduceSub, Array.replicate_succ, Array.replicate_zero, List.push_toArray, List.append_toArray, List.nil_append, List.cons_append]
  gi_wp2
  rw [← e1]
  have HN := Lib.hid hN
  clear e1 ba q1 hN
  refine wpIn_rangeFunc_G2 (F := Fence.wide) (n := 9) rfl (by decide) (gf := 102) (lb := #[.pointer (some ⟨b, 0, none⟩), .pointer (some ⟨b + 1, 0, none⟩), .pointer (some ⟨b + 2, 0, none⟩)]) rfl trivial (enters_of Try.func102 (by kernel_rfl) rfl)
    HSQ.out (Below.refl _ _) (fun k hk => by omega) (fun _ => rfl) (fun B pre x W r o o' h ho hc => h)
    (AsI w1.heap.size w.heap.size w) (fun _ _ _ _ => False) (asI_own HN.out) (fun c => ⟨fun _ _ _ _ h _ => h, fun _ _ _ _ h => h, fun _ _ _ _ _ _ h _ _ _ => h⟩) H0.out
    (fun s W => W.alloc (.cells #[.int .i64 s.X, .int .i64 s.Y, .int .i64 s.N] 51)) (fun s W => (Below.refl _ _).alloc (Nat.le_refl _) _) (fun B pre s W h => (asI_own HN.out).alloc B pre W _ h) (fun _ _ _ _ h => h) (fun B pre W h => by obtain ⟨v, h⟩ := h; exact ⟨h.sz, fun k hk => (h.sep k hk).2.1⟩) ?ab ?done ?stop
  case stop =>
    rintro D c B pre W1 _ _ h _
    exact h.elim
  case done =>
    rintro D B L W4 hD hSL ⟨v, HR⟩ hdef
    have c := HR.c
    have hIS : Hid (IsSpots kind border t W H x y L) := (show IsSpots _ _ _ _ _ _ _ _ from hSL)
    have HRH := Lib.hid HR
    have hDz : w.heap.size ≤ D := by omega
    obtain ⟨A0, n0, c0, e0⟩ := HR.r.sl
    subst e0
    have hms : Marks w.heap.size [D] W4 := ⟨hDz, hdef, by simp, trivial⟩
    have HMS := Lib.hid hms
    clear HR hSL hD hdef hms
    gi_wp2
    refine leaves_marks (N := w.heap.size) [D] W4 HRH.out.bl.size HMS.out (fun W' hW' => ?_)
    refine ⟨_, results_tmp rfl _ _ _, _, _, rfl, hIS.out, ?_, HRH.out.bl.trans hW'.be⟩
    have hr0 := HRH.out.r
    have h2 : OwnS W' w1.heap.size (.slice A0 n0 c0) L := hr0.same fun k hk => by
      obtain ⟨cu, hcu⟩ := hr0.obj k hk
      exact (hW'.ce _ _ hcu rfl).trans hcu.symm
    exact h2.base (by omega)
  case ab =>
    apply Exists.intro
    apply And.intro
    · intro l s W1 K hK
      dsimp only [encS, sptC]
      gi_wp2
      exact hK
    · rintro l B pre s W1 W2 ⟨v1', HI1⟩ ⟨L, hL, hpre⟩ hlen hbig hsz2 hsame hos htp hou ⟨v, HI⟩
      obtain ⟨g5, eg5⟩ : ∃ g5, g5 = W1.heap.size := ⟨_, rfl⟩
      have hbox : W2.heap[g5]? = some (.cells #[.int .i64 s.X, .int .i64 s.Y, .int .i64 s.N] 51) := by
        rw [eg5]
        exact (hsame _ (by omega)).trans (heap_alloc_new W1 _)
      have c := HI.c
      have f := HI.f
      have d0 : W2.cell? ⟨g5, 0, none⟩ = some (.int .i64 s.X) := ucell hbox 0
      have d1 : W2.cell? ⟨g5, 1, none⟩ = some (.int .i64 s.Y) := ucell hbox 1
      have d2 : W2.cell? ⟨g5, 2, none⟩ = some (.int .i64 s.N) := ucell hbox 2
      have ha := (Below.refl W2.heap.size W2).alloc (Nat.le_refl _) (.cells #[.int .i64 s.X, .int .i64 s.Y, .int .i64 s.N] 51)
      obtain ⟨v', V', hrun, p1, p2, p3⟩ := own_spot 44 _ w1.heap.size v pre (HI.r.below ha) (Nat.le_trans HI.sz ha.size) (by omega) W2.heap.size 51 s (heap_alloc_new W2 _)
      obtain ⟨A9, n9, c9, e9⟩ := p1.sl
      subst e9
      have hN := HN.out
      have HNX := Lib.hid (asR_next (K0 := fun k => k = b ∨ k = b + 1 ∨ k = b + 2) HN.out HI p1 p2 p3 (fun k hk => by omega))
      have hlt : w.heap.size < W2.heap.size := by have h1 := HI.sz; have h2 := HN.out.1; omega
      have hbb : V'.heap[w.heap.size]? = W2.heap[w.heap.size]? := (p2.block _ (by rw [World.size_alloc]; omega) (fun e => by have h1 := (HI.r.lt _ e.symm).1; have h2 := HN.out.1; exact absurd h1 (Nat.not_le.2 h2))).trans (Below.heap_alloc W2 _ _ hlt)
      have hc9 : V'.cell? ⟨w.heap.size, 0, none⟩ = some v := wcell_same hbb HI.c
      have hf9 : V'.frozen? ⟨w.heap.size, 0, none⟩ = false := (World.frozen?_of_block (a := ⟨w.heap.size, 0, none⟩) hbb).trans HI.f
      obtain ⟨A0, n0, c0, e0⟩ := HI.r.sl
      subst e0
      clear hbb hlt hsame hbox hos htp hou HI HI1 hL hpre hsz2 hbig p1 p2 p3 ha hN hlen
      rw [← eg5]
      clear eg5
      gi_wp2_with (gi_at_builtin; refine wpListIn_append_s _ rfl _ _ 44 44 rfl _ _ rfl rfl _ V' hrun ?_)
      exact HNX.out
attribute [local go_sem] Oper.semAt_some

set_option maxRecDepth 100000 in
theorem collect_calls (kind border : Int) (t : Wp) (W H x y : Int) (w : World) (b : Nat) (hb3 : b + 3 ≤ w.heap.size) (hr : RightIn kind border t W H) (hb : Boxes b kind border t W H x y w) (hx : 0 ≤ x ∧ x ≤ 1024) (hy : 0 ≤ y ∧ y ≤ 1024) :
    Calls Try.prog 67 #[.func (.func 102) #[] #[.pointer (some ⟨b, 0, none⟩), .pointer (some ⟨b + 1, 0, none⟩), .pointer (some ⟨b + 2, 0, none⟩)]] w fun e w' => ∃ v, e = .returned v ∧ SpotsEnd w kind border t W H x y v w' := by
  have HA := Lib.hid ((callsIn_wide (n := 9)).1 (appendSeq_in kind border t W H x y w b hb3 hr hb hx hy))
  clear hr hb hb3
  go_enter Try.func67, Try.ntmps67
  go_wp2_with (go_at_call 101; refine HA.out.mono ?_; rintro e1 w1 ⟨v, L, rfl, hL, hO, hB⟩; have HL := Lib.hid hL; have HO := Lib.hid hO; have HB := Lib.hid hB; clear hL hO hB)
  go_ret
  exact ⟨_, rfl, _, HL.out, HO.out, HB.out⟩

/-- Why no spots are told. -/
def spotsErr (kind border : Int) (t : Wp) (W H x y : Int) : Int := if rightE kind border t W H ≠ 0 then rightE kind border t W H else if x < 0 ∨ 1024 ≤ x ∨ y < 0 ∨ 1024 ≤ y then 282 else 0
def SpotsRet (w : World) (kind border : Int) (t : Wp) (W H x y : Int) (e : Ending) (w' : World) : Prop :=
  (spotsErr kind border t W H x y ≠ 0 ∧ e = .returned (.tuple #[.slice none 0 0, .int .i64 (spotsErr kind border t W H x y)]) ∧ Below w.heap.size w w') ∨
  (spotsErr kind border t W H x y = 0 ∧ ∃ v, e = .returned (.tuple #[v, .int .i64 0]) ∧ SpotsEnd w kind border t W H x y v w')
theorem SpotsRet.err {w w' : World} {kind border : Int} {t : Wp} {W H x y er : Int} (h : spotsErr kind border t W H x y = er) (h0 : er ≠ 0) (hb : Below w.heap.size w w') : SpotsRet w kind border t W H x y (.returned (.tuple #[.slice none 0 0, .int .i64 er])) w' := by
  subst h
  exact .inl ⟨h0, rfl, hb⟩

theorem SpotsEnd.wider {w0 w w' : World} {kind border : Int} {t : Wp} {W H x y : Int} {v : Value} (h : SpotsEnd w kind border t W H x y v w') (hb : Below w0.heap.size w0 w) : SpotsEnd w0 kind border t W H x y v w' := by
  obtain ⟨L, h1, h2, h3⟩ := h
  exact ⟨L, h1, h2.base hb.size, ujoin hb h3⟩
set_option maxHeartbeats 3200000 in
set_option maxRecDepth 100000 in
theorem rSpots_calls (w : World) (kind border : Int) (t : Wp) (W H x y : Int) :
    Calls Try.prog 25 #[.int .i64 kind, .int .i64 border, wpV t, .int .i64 W, .int .i64 H, .int .i64 x, .int .i64 y] w fun e w' => SpotsRet w kind border t W H x y e w' := by
  have HWR := Lib.hid fun W' => wrong_calls W' kind border t W H
  have HB0 : Hid (Below w.heap.size w (w.alloc (.cells #[.int .i64 t.A, .int .i64 t.B, .int .i64 t.C, .int .i64 t.D, .int .i64 t.E, .int .i64 t.F, .int .i64 t.Q] 32))) := (show Below _ _ _ from (Below.refl _ _).alloc (Nat.le_refl _) _)
  have HT0 : Hid ((w.alloc (.cells #[.int .i64 t.A, .int .i64 t.B, .int .i64 t.C, .int .i64 t.D, .int .i64 t.E, .int .i64 t.F, .int .i64 t.Q] 32)).heap[w.heap.size]? = some (.cells (wpC t) 32)) := (show _ = _ from heap_alloc_new w _)
  unfold wpV wpC WGives at HWR
  unfold wpV wpC
  by_cases hr : rightE kind border t W H = 0
  · have HRI := Lib.hid (rightE_in hr)
    rw [hr] at HWR
    have h0 : ∀ er, (if x < 0 ∨ 1024 ≤ x ∨ y < 0 ∨ 1024 ≤ y then (282 : Int) else 0) = er → spotsErr kind border t W H x y = er := fun er h => by unfold spotsErr; rw [if_neg (fun hc => hc hr)]; exact h
    have H0 := Lib.hid h0
    clear hr h0
    by_cases x1 : x < 0
    · have HE : Hid (spotsErr kind border t W H x y = 282) := (show _ = _ from H0.out _ (if_pos (.inl x1)))
      clear HRI H0
      go_enter Try.func25, Try.ntmps25
      go_wp2_with (go_at_call 64; refine (HWR.out _).mono ?_; rintro e1 w1 ⟨rfl, hb⟩; have HB1 := Lib.hid (ujoin HB0.out hb); clear hb)
      go_ret2
      exact SpotsRet.err HE.out (by decide) HB1.out
    · skip
      by_cases x2 : 1024 ≤ x
      · have HE : Hid (spotsErr kind border t W H x y = 282) := (show _ = _ from H0.out _ (if_pos (.inr (.inl x2))))
        clear HRI H0
        go_enter Try.func25, Try.ntmps25
        go_wp2_with (go_at_call 64; refine (HWR.out _).mono ?_; rintro e1 w1 ⟨rfl, hb⟩; have HB1 := Lib.hid (ujoin HB0.out hb); clear hb)
        go_ret2
        exact SpotsRet.err HE.out (by decide) HB1.out
      · skip
        by_cases y1 : y < 0
        · have HE : Hid (spotsErr kind border t W H x y = 282) := (show _ = _ from H0.out _ (if_pos (.inr (.inr (.inl y1)))))
          clear HRI H0
          go_enter Try.func25, Try.ntmps25
          go_wp2_with (go_at_call 64; refine (HWR.out _).mono ?_; rintro e1 w1 ⟨rfl, hb⟩; have HB1 := Lib.hid (ujoin HB0.out hb); clear hb)
          go_ret2
          exact SpotsRet.err HE.out (by decide) HB1.out
        · skip
          by_cases y2 : 1024 ≤ y
          · have HE : Hid (spotsErr kind border t W H x y = 282) := (show _ = _ from H0.out _ (if_pos (.inr (.inr (.inr y2)))))
            clear HRI H0
            go_enter Try.func25, Try.ntmps25
            go_wp2_with (go_at_call 64; refine (HWR.out _).mono ?_; rintro e1 w1 ⟨rfl, hb⟩; have HB1 := Lib.hid (ujoin HB0.out hb); clear hb)
            go_ret2
            exact SpotsRet.err HE.out (by decide) HB1.out
          · skip
            have HE : Hid (spotsErr kind border t W H x y = 0) := (show _ = _ from H0.out _ (if_neg (by omega)))
            clear H0
            have HSP : Hid (∀ W', Calls Try.prog 65 #[.int .i64 kind, .int .i64 border, .agg #[.int .i64 t.A, .int .i64 t.B, .int .i64 t.C, .int .i64 t.D, .int .i64 t.E, .int .i64 t.F, .int .i64 t.Q], .int .i64 W, .int .i64 H, .int .i64 x, .int .i64 y] W' fun e w' => ∃ v, e = .returned v ∧ SpotsEnd W' kind border t W H x y v w') := (show ∀ W', _ from fun W' => by
              have hri := HRI.out
              rcases hri.kd with e | e
              · subst e; exact rspots_near W' border t W H x y hri (by omega) (by omega)
              · subst e; exact rspots_linear W' border t W H x y hri (by omega) (by omega))
            clear HRI
            go_enter Try.func25, Try.ntmps25
            go_wp2_with (first
              | (go_at_call 64; refine (HWR.out _).mono ?_; rintro e1 w1 ⟨rfl, hb⟩; have HB1 := Lib.hid (ujoin HB0.out hb); have HT1 := Lib.hid ((hb.block _ (heap_lt' HT0.out)).trans HT0.out); obtain ⟨c0, c1, c2, c3, c4, c5, c6⟩ := wpC_cells0 HT1.out; clear hb)
              | (go_at_call 65; refine (HSP.out _).mono ?_; rintro e1 w2 ⟨v, rfl, hv⟩; have HV := Lib.hid hv; clear hv))
            go_ret2
            exact .inr ⟨HE.out, v, rfl, HV.out.wider HB1.out⟩
  · have HE : Hid (spotsErr kind border t W H x y = rightE kind border t W H) := (show _ = _ from if_pos hr)
    obtain ⟨er, eer⟩ : ∃ er, er = rightE kind border t W H := ⟨_, rfl⟩
    rw [← eer] at HWR HE hr
    have hz : (er != 0) = true := by rw [bne_iff_ne]; exact hr
    have HNZ := Lib.hid hr
    clear hr eer
    go_enter Try.func25, Try.ntmps25
    go_wp2_with (go_at_call 64; refine (HWR.out _).mono ?_; rintro e1 w1 ⟨rfl, hb⟩; have HB1 := Lib.hid (ujoin HB0.out hb); clear hb)
    go_ret2
    exact SpotsRet.err HE.out HNZ.out HB1.out
set_option maxHeartbeats 3200000 in
set_option maxRecDepth 100000 in
theorem pSpots_calls (w : World) (kind border : Int) (t : Wp) (W H x y : Int) :
    Calls Try.prog 26 #[.int .i64 kind, .int .i64 border, wpV t, .int .i64 W, .int .i64 H, .int .i64 x, .int .i64 y] w fun e w' => SpotsRet w kind border t W H x y e w' := by
  have HWR := Lib.hid fun W' => right_calls W' kind border t W H
  have HB0 : Hid (Below w.heap.size w ((w.alloc (.cells #[.int .i64 t.A, .int .i64 t.B, .int .i64 t.C, .int .i64 t.D, .int .i64 t.E, .int .i64 t.F, .int .i64 t.Q] 32)).alloc (.cells #[.int .i64 kind, .int .i64 border, .int .i64 t.A, .int .i64 t.B, .int .i64 t.C, .int .i64 t.D, .int .i64 t.E, .int .i64 t.F, .int .i64 t.Q, .int .i64 W, .int .i64 H] 115))) := (show Below _ _ _ from ujoin ((Below.refl _ _).alloc (Nat.le_refl _) _) ((Below.refl _ _).alloc (Nat.le_refl _) _))
  have HT0 : Hid (((w.alloc (.cells #[.int .i64 t.A, .int .i64 t.B, .int .i64 t.C, .int .i64 t.D, .int .i64 t.E, .int .i64 t.F, .int .i64 t.Q] 32)).alloc (.cells #[.int .i64 kind, .int .i64 border, .int .i64 t.A, .int .i64 t.B, .int .i64 t.C, .int .i64 t.D, .int .i64 t.E, .int .i64 t.F, .int .i64 t.Q, .int .i64 W, .int .i64 H] 115)).heap[w.heap.size + 1]? = some (.cells (wayC kind border t W H) 115)) := (show _ = _ from by
    have h := heap_alloc_new (w.alloc (.cells #[.int .i64 t.A, .int .i64 t.B, .int .i64 t.C, .int .i64 t.D, .int .i64 t.E, .int .i64 t.F, .int .i64 t.Q] 32)) (.cells (wayC kind border t W H) 115)
    rw [World.size_alloc] at h
    exact h)
  have HTD := Lib.hid fun W' => spots_calls W' kind border t W H x y
  unfold wayV wayC at HTD
  unfold wayV wayC WGives at HWR
  unfold wpV wpC
  by_cases hr : rightE kind border t W H = 0
  · have HRI := Lib.hid (rightE_in hr)
    rw [hr] at HWR
    have h0 : ∀ er, (if x < 0 ∨ 1024 ≤ x ∨ y < 0 ∨ 1024 ≤ y then (282 : Int) else 0) = er → spotsErr kind border t W H x y = er := fun er h => by unfold spotsErr; rw [if_neg (fun hc => hc hr)]; exact h
    have H0 := Lib.hid h0
    clear hr h0
    by_cases x1 : x < 0
    · have HE : Hid (spotsErr kind border t W H x y = 282) := (show _ = _ from H0.out _ (if_pos (.inl x1)))
      clear HRI H0
      go_enter Try.func26, Try.ntmps26
      go_wp2_with (go_at_call 66; refine (HWR.out _).mono ?_; rintro e1 w1 ⟨rfl, hb⟩; have HB1 := Lib.hid (ujoin HB0.out hb); clear hb)
      go_ret2
      exact SpotsRet.err HE.out (by decide) HB1.out
    · skip
      by_cases x2 : 1024 ≤ x
      · have HE : Hid (spotsErr kind border t W H x y = 282) := (show _ = _ from H0.out _ (if_pos (.inr (.inl x2))))
        clear HRI H0
        go_enter Try.func26, Try.ntmps26
        go_wp2_with (go_at_call 66; refine (HWR.out _).mono ?_; rintro e1 w1 ⟨rfl, hb⟩; have HB1 := Lib.hid (ujoin HB0.out hb); clear hb)
        go_ret2
        exact SpotsRet.err HE.out (by decide) HB1.out
      · skip
        by_cases y1 : y < 0
        · have HE : Hid (spotsErr kind border t W H x y = 282) := (show _ = _ from H0.out _ (if_pos (.inr (.inr (.inl y1)))))
          clear HRI H0
          go_enter Try.func26, Try.ntmps26
          go_wp2_with (go_at_call 66; refine (HWR.out _).mono ?_; rintro e1 w1 ⟨rfl, hb⟩; have HB1 := Lib.hid (ujoin HB0.out hb); clear hb)
          go_ret2
          exact SpotsRet.err HE.out (by decide) HB1.out
        · skip
          by_cases y2 : 1024 ≤ y
          · have HE : Hid (spotsErr kind border t W H x y = 282) := (show _ = _ from H0.out _ (if_pos (.inr (.inr (.inr y2)))))
            clear HRI H0
            go_enter Try.func26, Try.ntmps26
            go_wp2_with (go_at_call 66; refine (HWR.out _).mono ?_; rintro e1 w1 ⟨rfl, hb⟩; have HB1 := Lib.hid (ujoin HB0.out hb); clear hb)
            go_ret2
            exact SpotsRet.err HE.out (by decide) HB1.out
          · skip
            have HE : Hid (spotsErr kind border t W H x y = 0) := (show _ = _ from H0.out _ (if_neg (by omega)))
            clear H0
            have hx : 0 ≤ x ∧ x ≤ 1024 := by omega
            have hy : 0 ≤ y ∧ y ≤ 1024 := by omega
            have HCO := Lib.hid fun W' b h1 h2 => collect_calls kind border t W H x y W' b h1 HRI.out h2 hx hy
            clear HRI hx hy
            go_enter Try.func26, Try.ntmps26
            go_wp2_with (first
              | (go_at_call 66; refine (HWR.out _).mono ?_; rintro e1 w1 ⟨rfl, hb⟩; have HB1 := Lib.hid (ujoin HB0.out hb); have HT1 := Lib.hid ((hb.block _ (heap_lt' HT0.out)).trans HT0.out); obtain ⟨c0, c1, c2, c3, c4, c5, c6, c7, c8, c9, c10⟩ := wayC_cells HT1.out; clear hb)
              | (go_at_call 68; refine (HTD.out _).mono ?_; rintro e1 w2 ⟨b, rfl, hb0, hb3, k0, k1, k2, hb⟩; have HB2 := Lib.hid (ujoin HB1.out hb); have HBX : Hid (Boxes b kind border t W H x y w2) := (show Boxes _ _ _ _ _ _ _ _ _ from ⟨k0, k1, k2⟩); have HB3 := Lib.hid hb3; clear hb0 hb3 k0 k1 k2 hb)
              | (go_at_call 67; refine (HCO.out _ _ HB3.out HBX.out).mono ?_; rintro e1 w3 ⟨v, rfl, hv⟩; have HV := Lib.hid hv; clear hv))
            go_ret2
            exact .inr ⟨HE.out, v, rfl, HV.out.wider HB2.out⟩
  · have HE : Hid (spotsErr kind border t W H x y = rightE kind border t W H) := (show _ = _ from if_pos hr)
    obtain ⟨er, eer⟩ : ∃ er, er = rightE kind border t W H := ⟨_, rfl⟩
    rw [← eer] at HWR HE hr
    have hz : (er != 0) = true := by rw [bne_iff_ne]; exact hr
    have HNZ := Lib.hid hr
    clear hr eer
    go_enter Try.func26, Try.ntmps26
    go_wp2_with (go_at_call 66; refine (HWR.out _).mono ?_; rintro e1 w1 ⟨rfl, hb⟩; have HB1 := Lib.hid (ujoin HB0.out hb); clear hb)
    go_ret2
    exact SpotsRet.err HE.out HNZ.out HB1.out
end Go.Proofs.Ytdcpeeolfgohmaa
