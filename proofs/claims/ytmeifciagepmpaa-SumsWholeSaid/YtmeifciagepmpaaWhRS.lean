/- For SumsWhole: a row of whole numbers and a row of samples of the call's own, one element more at a time. halidelaw3.SumsWhole: the walk. -/
import Derived.Test.YtmeifciagepmpaaWhPQ
import Derived.Test.YtmeifciagepmpaaLgCD
namespace Go.Proofs.Ytmeifciagepmpaa
open Go.RowKit Go.Proofs.YtmeifciagepmpaaW.PrintWords
set_option linter.unusedSimpArgs false
set_option linter.unusedVariables false

theorem z_info : (Try.prog.info? 3).map (fun i => (i.zero, i.size, i.bytes)) = some (some (.int .i64 0), 1, 8) := by kernel_rfl
def rowZL (n : Nat) (x : Nat → Int) : List Value := (List.range n).map fun k => .int .i64 (x k)
theorem rowZL_len (n : Nat) (x : Nat → Int) : (rowZL n x).length = n := by simp [rowZL]
def pushZ (x : Nat → Int) (n : Nat) (v : Int) : Nat → Int := fun k => if k < n then x k else v
theorem rowZL_push (n : Nat) (x : Nat → Int) (v : Int) : rowZL n x ++ [.int .i64 v] = rowZL (n + 1) (pushZ x n v) := by
  apply List.ext_getElem?
  intro i
  rw [List.getElem?_append, rowZL_len]
  by_cases h : i < n
  · have h2 : i < n + 1 := by omega
    simp [rowZL, pushZ, h, h2]
  · rw [if_neg h]
    by_cases h2 : i = n
    · subst h2
      simp [rowZL, pushZ]
    · have h3 : ¬ i < n + 1 := by omega
      rw [List.getElem?_eq_none (by simp; omega), List.getElem?_eq_none (by simp [rowZL]; omega)]
def OwnZ (W : World) (base : Nat) (v : Value) (n : Nat) (x : Nat → Int) : Prop := W.ownsRow base 3 1 v n (rowZL n x)
theorem OwnZ.nil (W : World) (base : Nat) (x : Nat → Int) : OwnZ W base (.slice none 0 0) 0 x := ⟨rfl, .inl ⟨rfl, rfl⟩⟩
theorem OwnZ.kept {W W' : World} {base : Nat} {v : Value} {n : Nat} {x : Nat → Int} (h : OwnZ W base v n x) {row : Option Nat} (hg : W.grownBy W' row) (hne : v.ownBlock = none ∨ v.ownBlock ≠ row) : OwnZ W' base v n x := World.ownsRow.kept h hg hne
theorem OwnZ.below {W W' : World} {base : Nat} {v : Value} {n : Nat} {x : Nat → Int} (h : OwnZ W base v n x) (hb : Below W.heap.size W W') : OwnZ W' base v n x :=
  h.kept (grown_below none hb) (by cases v.ownBlock <;> simp)
theorem OwnZ.row {W : World} {base : Nat} {v : Value} {n : Nat} {x : Nat → Int} (h : OwnZ W base v n x) : ∃ A c, v = .slice A n c ∧ n ≤ c ∧ RowZ W A n x ∧ (v.ownBlock = none ∨ ∃ k, v.ownBlock = some k ∧ base ≤ k ∧ k < W.heap.size) := by
  obtain ⟨hl, h⟩ := h
  rcases h with ⟨rfl, rfl⟩ | ⟨g, cap, cur, rfl, hbg, hg, hnc, hcm, hcs, htake⟩
  · exact ⟨none, 0, rfl, Nat.le_refl _, fun h => by omega, .inl rfl⟩
  · refine ⟨_, _, rfl, hnc, fun hn => ⟨_, rfl, fun i hi => ?_⟩, .inr ⟨g, rfl, hbg, (Array.getElem?_eq_some_iff.1 hg).1⟩⟩
    rw [add_plain, ucell hg]
    have h1 : (rowZL n x)[i]? = some (.int .i64 (x i)) := by simp [rowZL, hi]
    rw [← htake, List.getElem?_take, if_pos (by omega), Array.getElem?_toList] at h1
    exact h1
set_option maxRecDepth 100000 in
theorem run_pushZ (W : World) (base : Nat) (v : Value) (n : Nat) (x : Nat → Int) (y : Int) (hown : OwnZ W base v n x) (hb : base ≤ W.heap.size) (hlen : n ≤ 1000000000) :
    ∃ v' W', (Builtin.append_ #[31, 31] 31 #[v, .slice (some ⟨W.heap.size, 0, none⟩) 1 1]).run Try.prog (W.alloc (.cells #[.int .i64 y] 3)) = .ok v' W' ∧ OwnZ W' base v' (n + 1) (pushZ x n y) ∧ (W.alloc (.cells #[.int .i64 y] 3)).grownBy W' v.ownBlock ∧ (v'.ownBlock = v.ownBlock ∨ v'.ownBlock = some (W.alloc (.cells #[.int .i64 y] 3)).heap.size) := by
  obtain ⟨i, hi, hz⟩ := Option.map_eq_some_iff.1 z_info
  simp only [Prod.mk.injEq] at hz
  have hbl : Below W.heap.size W (W.alloc (.cells #[.int .i64 y] 3)) := (Below.refl _ _).alloc (Nat.le_refl _) _
  have hc : ∀ j u, ([.int .i64 y] : List Value)[j]? = some u → (W.alloc (.cells #[.int .i64 y] 3)).cell? ((⟨W.heap.size, 0, none⟩ : Addr).add j) = some u := fun j u h => by
    have h0 : j = 0 := by
      have := (List.getElem?_eq_some_iff.1 h).1
      simp at this
      exact this
    subst h0
    rw [u_add0, ucell (heap_alloc_new W _)]
    simpa using h
  obtain ⟨v', w', hrun, h2, h3, _, h5⟩ := run_append_own_at (P := Try.prog) (W.alloc (.cells #[.int .i64 y] 3)) base 31 31 3 i (.int .i64 0) 1 8 Try.underlying31 hi hz.1 hz.2.1 hz.2.2 rfl (by decide) v n (rowZL n x) (hown.below hbl) ⟨W.heap.size, 0, none⟩ 1 1 [.int .i64 y] rfl hc (by simp [Value.oneCell']) (by unfold maxLen; omega) (by omega) (Nat.le_trans hb hbl.size)
  refine ⟨v', w', hrun, ?_, h3, h5⟩
  unfold OwnZ
  rw [← rowZL_push]
  exact h2
/-- The two rows. -/
structure PairG (w1 W : World) (vw : Value) (n : Nat) (y : Nat → Int) (vr : Value) (m : Nat) (x : Nat → Nat) : Prop where
  z : OwnZ W w1.heap.size vw n y
  u : OwnV W w1.heap.size vr m x
  bel : Below w1.heap.size w1 W
  ne : vw.ownBlock = none ∨ vr.ownBlock = none ∨ vw.ownBlock ≠ vr.ownBlock
theorem PairG.below {w1 W W' : World} {vw vr : Value} {n m : Nat} {y : Nat → Int} {x : Nat → Nat} (h : PairG w1 W vw n y vr m x) (hb : Below W.heap.size W W') : PairG w1 W' vw n y vr m x := ⟨h.z.below hb, h.u.below hb, ujoin h.bel hb, h.ne⟩
theorem ne_two {o p : Option Nat} (h : o = none ∨ p = none ∨ o ≠ p) : p = none ∨ p ≠ o := by
  cases p with
  | none => left; rfl
  | some q =>
    right
    rcases h with h | h | h
    · rw [h]; intro e; cases e
    · cases h
    · exact Ne.symm h
theorem pair_pushZ {w1 W : World} {vw vr : Value} {n m : Nat} {y : Nat → Int} {x : Nat → Nat} (h : PairG w1 W vw n y vr m x) (hn : n ≤ 100000) (v : Int) :
    ∃ vw' W', (Builtin.append_ #[31, 31] 31 #[vw, .slice (some ⟨W.heap.size, 0, none⟩) 1 1]).run Try.prog (W.alloc (.cells #[.int .i64 v] 3)) = .ok vw' W' ∧ PairG w1 W' vw' (n + 1) (pushZ y n v) vr m x := by
  have hbl : Below W.heap.size W (W.alloc (.cells #[.int .i64 v] 3)) := (Below.refl _ _).alloc (Nat.le_refl _) _
  have hs := h.bel.size
  have hs2 := hbl.size
  obtain ⟨vw', W', h1, h2, h3, h4⟩ := run_pushZ W w1.heap.size vw n y v h.z hs (by omega)
  obtain ⟨-, -, -, -, -, hzb⟩ := h.z.row
  have hub := h.u.blk
  refine ⟨vw', W', h1, h2, (h.u.below hbl).kept h3 (ne_two h.ne), (ujoin h.bel hbl).grown h3 (Nat.le_trans hs hs2) (fun k e => ?_), ?_⟩
  · rcases hzb with k1 | ⟨k', k1, k2, k3⟩
    · rw [k1] at e; cases e
    · rw [k1] at e; injection e with e; omega
  · rcases h4 with h4 | h4
    · rw [h4]; exact h.ne
    · rcases hub with k1 | ⟨k', k1, k2, k3⟩
      · exact .inr (.inl k1)
      · right; right; rw [h4, k1]; intro e; injection e with e; omega
theorem pair_pushU {w1 W : World} {vw vr : Value} {n m : Nat} {y : Nat → Int} {x : Nat → Nat} (h : PairG w1 W vw n y vr m x) (hn : m ≤ 100000) (a : Nat) :
    ∃ vr' W', (Builtin.append_ #[23, 23] 23 #[vr, .slice (some ⟨W.heap.size, 0, none⟩) 1 1]).run Try.prog (W.alloc (.cells #[.int .u32 (a : Int)] 25)) = .ok vr' W' ∧ PairG w1 W' vw n y vr' (m + 1) (catN x m (ux [a])) := by
  have hbl : Below W.heap.size W (W.alloc (.cells #[.int .u32 (a : Int)] 25)) := (Below.refl _ _).alloc (Nat.le_refl _) _
  have hs := h.bel.size
  have hs2 := hbl.size
  obtain ⟨vr', W', h1, h2, h3, h4⟩ := run_appendU (W.alloc (.cells #[.int .u32 (a : Int)] 25)) w1.heap.size 23 vr m x (some ⟨W.heap.size, 0, none⟩) 1 1 (ux [a]) (h.u.below hbl) (Nat.le_trans hs hs2) (OwnV.lit W w1.heap.size [a] hs (by simp)).rowA.1 (by omega)
  obtain ⟨-, -, -, -, -, hzb⟩ := h.z.row
  have hub := h.u.blk
  have hne2 : vw.ownBlock = none ∨ vw.ownBlock ≠ vr.ownBlock := by
    rcases h.ne with k | k | k
    · exact .inl k
    · cases e : vw.ownBlock with
      | none => left; rfl
      | some q => right; rw [k]; intro e; cases e
    · exact .inr k
  refine ⟨vr', W', h1, (h.z.below hbl).kept h3 hne2, h2, (ujoin h.bel hbl).grown h3 (Nat.le_trans hs hs2) (fun k e => ?_), ?_⟩
  · rcases hub with k1 | ⟨k', k1, k2, k3⟩
    · rw [k1] at e; cases e
    · rw [k1] at e; injection e with e; omega
  · rcases h4 with h4 | h4
    · rw [h4]; exact h.ne
    · rcases hzb with k1 | ⟨k', k1, k2, k3⟩
      · exact .inl k1
      · right; right; rw [h4, k1]; intro e; injection e with e; omega
/-- The weights u and as many samples a. -/
def WeightS (w1 W : World) (vw vr : Value) (n m : Nat) (u : Nat → Int) (a : Nat) : Prop := ∃ y x, PairG w1 W vw n y vr m x ∧ (∀ k, k < n → y k = u k) ∧ ∀ k, k < m → x k = a
theorem WeightS.below {w1 W W' : World} {vw vr : Value} {n m a : Nat} {u : Nat → Int} (h : WeightS w1 W vw vr n m u a) (hb : Below W.heap.size W W') : WeightS w1 W' vw vr n m u a := by
  obtain ⟨y, x, h1, h2, h3⟩ := h
  exact ⟨y, x, h1.below hb, h2, h3⟩
theorem WeightS.start {w1 W : World} (u : Nat → Int) (a : Nat) (hb : Below w1.heap.size w1 W) : WeightS w1 W (.slice none 0 0) (.slice none 0 0) 0 0 u a := ⟨fun _ => 0, fun _ => 0, ⟨OwnZ.nil _ _ _, OwnV.nil _ _ _, hb, .inl rfl⟩, fun k h => by omega, fun k h => by omega⟩
theorem WeightS.bel {w1 W : World} {vw vr : Value} {n m a : Nat} {u : Nat → Int} (h : WeightS w1 W vw vr n m u a) : Below w1.heap.size w1 W := by
  obtain ⟨y, x, h1, _⟩ := h
  exact h1.bel
theorem weight_pushZ {w1 W : World} {vw vr : Value} {n m a : Nat} {u : Nat → Int} (h : WeightS w1 W vw vr n m u a) (hn : n ≤ 100000) (z : Int) (hz : z = u n) :
    ∃ vw' W', (Builtin.append_ #[31, 31] 31 #[vw, .slice (some ⟨W.heap.size, 0, none⟩) 1 1]).run Try.prog (W.alloc (.cells #[.int .i64 z] 3)) = .ok vw' W' ∧ WeightS w1 W' vw' vr (n + 1) m u a := by
  obtain ⟨y, x, h1, h2, h3⟩ := h
  obtain ⟨vw', W', k1, k2⟩ := pair_pushZ h1 hn z
  refine ⟨vw', W', k1, _, x, k2, fun k hk => ?_, h3⟩
  unfold pushZ
  by_cases hk2 : k < n
  · rw [if_pos hk2]; exact h2 k hk2
  · rw [if_neg hk2, show k = n by omega, ← hz]
theorem weight_pushU {w1 W : World} {vw vr : Value} {n m a : Nat} {u : Nat → Int} (h : WeightS w1 W vw vr n m u a) (hn : m ≤ 100000) :
    ∃ vr' W', (Builtin.append_ #[23, 23] 23 #[vr, .slice (some ⟨W.heap.size, 0, none⟩) 1 1]).run Try.prog (W.alloc (.cells #[.int .u32 (a : Int)] 25)) = .ok vr' W' ∧ WeightS w1 W' vw vr' n (m + 1) u a := by
  obtain ⟨y, x, h1, h2, h3⟩ := h
  obtain ⟨vr', W', k1, k2⟩ := pair_pushU h1 hn a
  refine ⟨vr', W', k1, y, _, k2, h2, fun k hk => ?_⟩
  unfold catN
  by_cases hk2 : k < m
  · rw [if_pos hk2]; exact h3 k hk2
  · rw [if_neg hk2, show k = m by omega, Nat.sub_self]; rfl
theorem isum_congr {y u : Nat → Int} : ∀ n, (∀ k, k < n → y k = u k) → isum y n = isum u n
  | 0, _ => rfl
  | n + 1, h => by rw [isum, isum, isum_congr n (fun k hk => h k (by omega)), h n (by omega)]
theorem asum_congr {y u : Nat → Int} : ∀ n, (∀ k, k < n → y k = u k) → asum y n = asum u n
  | 0, _ => rfl
  | n + 1, h => by rw [asum, asum, asum_congr n (fun k hk => h k (by omega)), h n (by omega)]
theorem weight_dot {w1 W : World} {vw vr : Value} {n a : Nat} {u : Nat → Int} (h : WeightS w1 W vw vr n n u a) (hn : n ≤ 2000) (ha : a < 4294967296) (hx : expN a ≠ 255) (hs : asum u n ≤ 268435456) :
    ∃ Aw cw Ar cr d, vw = .slice Aw n cw ∧ vr = .slice Ar n cr ∧ EndOf d (pE a) (isum u n * pN a) ∧ d < 18446744073709551616 ∧ Calls Try.prog 25 #[.slice Aw n cw, .slice Ar n cr] W fun e w' => Gives W (.tuple #[.int .u64 (d : Int), .int .i64 0]) e w' := by
  obtain ⟨y, x, h1, h2, h3⟩ := h
  obtain ⟨Aw, cw, rfl, hc, hz, -⟩ := h1.z.row
  obtain ⟨Ar, cr, rfl, hc2, hr, -, -⟩ := h1.u.row
  have hsy : asum y n ≤ 268435456 := by rw [asum_congr n h2]; exact hs
  have hd := pDot64_calls W Aw Ar n cw cr y x hz hr hc hc2 (by omega) (fun k hk => by rw [h3 k hk]; exact ha) (fun k hk => by have := Nat.le_trans (asum_at y hk) hsy; omega)
  have he := dot_whole y x n a ha hx h3 hsy
  rw [isum_congr n h2] at he
  refine ⟨Aw, cw, Ar, cr, dotOf64 y x n, rfl, rfl, he, ?_, hd⟩
  unfold dotOf64
  split
  · decide
  · cases n - 1 with
    | zero => exact mul64_lt _ _
    | succ k => exact add64_lt _ _
/-- The reference's number with another size and another sign. -/
def NumB (w1 W : World) (g : Nat) (q : Bool) (A : Option Addr) (MN c : Nat) (E : Int) : Prop := W.heap[g]? = some (.cells #[.int .i64 2, .bool q, .slice A (len32 MN) c, .int .i64 E, .bool false] 62 (0, 0)) ∧ NatAt W (.slice A (len32 MN) c) MN ∧ Below w1.heap.size w1 W
theorem NumB.drew {w1 W : World} {g : Nat} {q : Bool} {A : Option Addr} {MN c : Nat} {E : Int} (h : NumB w1 W g q A MN c E) : NumB w1 W.drew g q A MN c E := ⟨h.1, h.2.1.below (Below.refl _ _).drew, h.2.2.drew⟩
theorem bset2 {w : World} {g : Nat} {t : TypeId} {cs : Array Value} (h : w.heap[g]? = some (.cells cs t (0, 0))) (i : Nat) (u : Value) : (w.setCell ⟨g, i, none⟩ u).heap[g]? = some (.cells (cs.setIfInBounds i u) t (0, 0)) := by
  simp [World.setCell, Array.getElem?_modify, h]
theorem bfree2 {w : World} {g : Nat} {t : TypeId} {cs : Array Value} (h : w.heap[g]? = some (.cells cs t (0, 0))) (i : Nat) : w.frozen? ⟨g, i, none⟩ = false := by simp [World.frozen?, h]
theorem num_put {w1 W : World} {g n c : Nat} {sg q : Bool} {A : Option Addr} {E : Int} {v : Value} {MN : Nat} (hblk : W.heap[g]? = some (.cells #[.int .i64 2, .bool sg, .slice A n c, .int .i64 E, .bool false] 62 (0, 0))) (hn : NatAt W v MN) (hg : w1.heap.size ≤ g) (hb : Below w1.heap.size w1 W) :
    ∃ A' c', v = .slice A' (len32 MN) c' ∧ NumB w1 ((W.setCell ⟨g, 2, none⟩ v).setCell ⟨g, 1, none⟩ (.bool q)) g q A' MN c' E := by
  obtain ⟨A', c', rfl, hc, hr⟩ := hn
  have b1 := bset2 hblk 2 (.slice A' (len32 MN) c')
  have b2 := bset2 b1 1 (.bool q)
  have c2 : W.cell? ⟨g, 2, none⟩ = some (.slice A n c) := ucell hblk 2
  have c1 : (W.setCell ⟨g, 2, none⟩ (.slice A' (len32 MN) c')).cell? ⟨g, 1, none⟩ = some (.bool sg) := ucell b1 1
  refine ⟨A', c', rfl, b2, ⟨A', c', rfl, hc, ?_⟩, (hb.setCell (p := ⟨g, 2, none⟩) hg _).setCell (p := ⟨g, 1, none⟩) hg _⟩
  exact (hr.putN c2 (fun q e => by cases e) _).putN c1 (fun q e => by cases e) _
theorem num_put2 {w1 W : World} {g n c : Nat} {sg q : Bool} {A : Option Addr} {E : Int} {A' : Option Addr} {MN c' : Nat} (hblk : W.heap[g]? = some (.cells #[.int .i64 2, .bool sg, .slice A n c, .int .i64 E, .bool false] 62 (0, 0))) (hn : NatAt W (.slice A' (len32 MN) c') MN) (hg : w1.heap.size ≤ g) (hb : Below w1.heap.size w1 W) :
    NumB w1 ((W.setCell ⟨g, 2, none⟩ (.slice A' (len32 MN) c')).setCell ⟨g, 1, none⟩ (.bool q)) g q A' MN c' E := by
  obtain ⟨A2, c2, e, h⟩ := num_put (q := q) hblk hn hg hb
  injection e with e1 _ e2
  subst e1 e2
  exact h
theorem mask63 (d : Nat) (h : d = 0 ∨ d = 9223372036854775808) : bits .and .u64 (d : Int) 9223372036854775807 = 0 := by
  rcases h with rfl | rfl
  · decide +kernel
  · decide +kernel
theorem meet_facts {d wv : Nat} (h : d = wv ∨ ((d = 0 ∨ d = 9223372036854775808) ∧ (wv = 0 ∨ wv = 9223372036854775808))) :
    ((d : Int) == (wv : Int)) = true ∨ (((d : Int) == (wv : Int)) = false ∧ bits .and .u64 (d : Int) 9223372036854775807 = 0 ∧ bits .and .u64 (wv : Int) 9223372036854775807 = 0) := by
  by_cases e : d = wv
  · left; rw [e]; exact beq_self_eq_true _
  · right
    obtain ⟨h1, h2⟩ := h.resolve_left e
    exact ⟨by rw [beq_eq_false_iff_ne]; omega, mask63 d h1, mask63 wv h2⟩

theorem rowZ_of {w : World} {a : Option Addr} {len cap : Nat} {zs : List Int}
    (h : (a = none ∧ len = 0 ∧ cap = 0 ∧ zs = []) ∨ ∃ x, a = some x ∧ len ≤ cap ∧ cap ≤ maxLen ∧ zs.length = cap ∧ (∀ i, i < zs.length → w.cell? (x.add i) = some (.int .i64 (zs.getD i 0))) ∧ ∀ n ∈ zs, (Lit.int .i64 n).wf = true) :
    RowZ w a len (fun k => zs.getD k 0) ∧ len ≤ cap ∧ (∀ k, k < len → -9223372036854775808 ≤ zs.getD k 0 ∧ zs.getD k 0 ≤ 9223372036854775807) := by
  rcases h with ⟨rfl, rfl, rfl, rfl⟩ | ⟨x, rfl, hl, hm, hz, hcell, hwz⟩
  · exact ⟨fun h => by omega, Nat.le_refl _, fun k h => by omega⟩
  · have hw : ∀ k, k < zs.length → -9223372036854775808 ≤ zs.getD k 0 ∧ zs.getD k 0 ≤ 9223372036854775807 := fun k hk => by
      have h1 := hwz (zs.getD k 0) (by simp [hk])
      simp only [Lit.wf, IntKind.min, IntKind.max, IntKind.signed, IntKind.bits, Bool.and_eq_true, decide_eq_true_eq, if_true] at h1
      omega
    exact ⟨fun _ => ⟨x, rfl, fun i hi => hcell i (by omega)⟩, hl, fun k hk => hw k (by omega)⟩
/-- The samples of the whole numbers v. -/
def WholeS (w1 W : World) (vr : Value) (n : Nat) (v : Nat → Int) : Prop := ∃ x, PairG w1 W (.slice none 0 0) 0 (fun _ => 0) vr n x ∧ ∀ k, k < n → x k = fi (v k)
theorem WholeS.below {w1 W W' : World} {vr : Value} {n : Nat} {v : Nat → Int} (h : WholeS w1 W vr n v) (hb : Below W.heap.size W W') : WholeS w1 W' vr n v := by
  obtain ⟨x, h1, h2⟩ := h
  exact ⟨x, h1.below hb, h2⟩
theorem WholeS.start {w1 W : World} (v : Nat → Int) (hb : Below w1.heap.size w1 W) : WholeS w1 W (.slice none 0 0) 0 v := ⟨fun _ => 0, ⟨OwnZ.nil _ _ _, OwnV.nil _ _ _, hb, .inl rfl⟩, fun k h => by omega⟩
theorem whole_push {w1 W : World} {vr : Value} {n : Nat} {v : Nat → Int} (h : WholeS w1 W vr n v) (hn : n ≤ 100000) (z : Int) (hz : z = v n) :
    ∃ vr' W', (Builtin.append_ #[23, 23] 23 #[vr, .slice (some ⟨W.heap.size, 0, none⟩) 1 1]).run Try.prog (W.alloc (.cells #[.int .u32 ((fi z : Nat) : Int)] 25)) = .ok vr' W' ∧ WholeS w1 W' vr' (n + 1) v := by
  obtain ⟨x, h1, h2⟩ := h
  obtain ⟨vr', W', k1, k2⟩ := pair_pushU h1 hn (fi z)
  refine ⟨vr', W', k1, _, k2, fun k hk => ?_⟩
  unfold catN
  by_cases hk2 : k < n
  · rw [if_pos hk2]; exact h2 k hk2
  · rw [if_neg hk2, show k = n by omega, ← hz, Nat.sub_self]; rfl
theorem whole_sums {w1 W : World} {vr : Value} {n : Nat} {v : Nat → Int} (h : WholeS w1 W vr n v) (hn : n ≤ 2000) (hs : asum v n ≤ 2 ^ 24) : ∃ A c, vr = .slice A n c ∧ ∀ W', Below W.heap.size W W' →
    Calls Try.prog 14 #[.slice A n c] W' (fun e w' => Gives W' (.int .u32 ((fi (isum v n) : Nat) : Int)) e w') ∧
    Calls Try.prog 19 #[.slice A n c] W' (fun e w' => Gives W' (.int .u32 ((fi (isum v n) : Nat) : Int)) e w') ∧
    Calls Try.prog 21 #[.slice A n c] W' (fun e w' => Gives W' (.int .u32 ((fi (isum v n) : Nat) : Int)) e w') ∧
    Calls Try.prog 23 #[.slice A n c] W' (fun e w' => Gives W' (.int .u32 ((fi (isum v n) : Nat) : Int)) e w') := by
  obtain ⟨x, h1, h2⟩ := h
  obtain ⟨A, c, rfl, hc, hr, -, -⟩ := h1.u.row
  have hx : ∀ k, k < n → x k < 4294967296 := fun k hk => by rw [h2 k hk]; exact fi_lt _
  refine ⟨A, c, rfl, fun W' hb => ?_⟩
  have hr' := hr.below hb
  have l1 := pLeft_calls W' A n c x hr' hc (by omega) hx
  have l2 := pPairs_calls n W' A c x hr' hc (by omega) hx
  have l3 := pKahan_calls W' A n c x hr' hc (by omega) hx
  have l4 := pExact_calls W' A n c x hr' hc (by omega) hx
  rw [left_whole v x n h2 hs] at l1
  rw [pairs_whole n v x h2 hs] at l2
  rw [kahan_whole v x n h2 hs] at l3
  rw [exact_whole v x n h2 hs] at l4
  exact ⟨l1, l2, l3, l4⟩

set_option maxHeartbeats 1600000 in
set_option maxRecDepth 100000 in
theorem lawWhole_calls (w : World) (A0 A2 : Option Addr) (n c0 m c2 a : Nat) (z y : Nat → Int) (hz : RowZ w A0 n z) (hc0 : n ≤ c0) (hzb : ∀ k, k < n → -9223372036854775808 ≤ z k ∧ z k ≤ 9223372036854775807) (hy : RowZ w A2 m y) (hc2 : m ≤ c2) (hyb : ∀ k, k < m → -9223372036854775808 ≤ y k ∧ y k ≤ 9223372036854775807) (ha : a < 4294967296) :
    Calls Try.prog 10 #[.slice A0 n c0, .int .u32 (a : Int), .slice A2 m c2] w fun e w' => LawTrue w e w' := by
  have HZB := Lib.hid hzb
  have HYB := Lib.hid hyb
  have HRZ := Lib.hid hz
  have HRY := Lib.hid hy
  clear hz hy hzb hyb
  unfold LawTrue
  by_cases hlt : 2000 < n
  · have hb : (2000 : Int) < (n : Int) := by omega
    go_enter Try.func10, Try.ntmps10
    go_wp2_with (go_at_call 12; refine (known_calls _).mono ?_; rintro e1 w1 ⟨rfl, hbel⟩)
    go_ret
    exact ⟨rfl, hbel⟩
  · have hb : ¬ (2000 : Int) < (n : Int) := by omega
    by_cases hlt2 : 2000 < m
    · have hb2 : (2000 : Int) < (m : Int) := by omega
      go_enter Try.func10, Try.ntmps10
      go_wp2_with (go_at_call 12; refine (known_calls _).mono ?_; rintro e1 w1 ⟨rfl, hbel⟩)
      go_ret
      exact ⟨rfl, hbel⟩
    · have hb2 : ¬ (2000 : Int) < (m : Int) := by omega
      obtain ⟨v, ev⟩ : ∃ v : Nat → Int, v = fun k => z k % 16384 - 8192 := ⟨_, rfl⟩
      obtain ⟨u, eu⟩ : ∃ v : Nat → Int, v = fun k => y k % 131072 - 65536 := ⟨_, rfl⟩
      have HV : Hid (∀ k, v k = z k % 16384 - 8192) := (show ∀ k, _ from fun k => by rw [ev])
      have HU : Hid (∀ k, u k = y k % 131072 - 65536) := (show ∀ k, _ from fun k => by rw [eu])
      clear ev eu
      go_enter Try.func10, Try.ntmps10
      go_wp2_with (go_at_call 12; refine (known_calls _).mono ?_; rintro e1 w1 ⟨rfl, hbel⟩; have HB1 := Lib.hid hbel; have HZ1 := Lib.hid (HRZ.out.below hbel); have HY1 := Lib.hid (HRY.out.below hbel); clear hbel)
      clear HRZ HRY
      have H0 := Lib.hid (WholeS.start v (Below.refl w1.heap.size w1))
      go_loopg [7, 8, 9, 10, 11] n (fun kq v7 v8 v9 v10 v11 wr => ∃ i : Nat, v8 = .int .i64 (isum v i) ∧ v9 = .int .i64 ((asum v i : Nat) : Int) ∧ v10 = .int .i64 (i : Int) ∧ i ≤ n ∧ n ≤ i + kq ∧ asum v i ≤ 8192 * i ∧ Aside (WholeS w1 wr v7 i v))
      case atStart => exact ⟨0, rfl, rfl, rfl, Nat.zero_le _, by omega, Nat.zero_le _, H0.out⟩
      case round =>
        obtain ⟨i, rfl, rfl, rfl, hi, hik, hsz, HI⟩ := hrel
        clear H0
        by_cases hlt3 : i < n
        · have hltz : (i : Int) < (n : Int) := by omega
          have hi0 : (0 : Int) ≤ (i : Int) := by omega
          obtain ⟨ad, rfl, hca⟩ := HZ1.out (by omega)
          have hbz := HZB.out i hlt3
          obtain ⟨zi, ezi⟩ : ∃ q, q = z i := ⟨_, rfl⟩
          have hci : wr.cell? (ad.add i) = some (.int .i64 zi) := by
            have h1 := hca i hlt3
            rw [← ezi] at h1
            obtain ⟨x, hx, -⟩ := HI.out
            exact (hx.bel.cell (World.block_lt_of_cell? _ _ h1)).trans h1
          rw [← ezi] at hbz
          have HPL := Lib.hid fun W => place_calls W zi 16384 hbz (by decide) (by decide)
          obtain ⟨r, er⟩ : ∃ q, q = zi % 16384 := ⟨_, rfl⟩
          rw [← er] at HPL
          obtain ⟨vi, evi⟩ : ∃ q, q = v i := ⟨_, rfl⟩
          have hvi : vi = r - 8192 := by rw [evi, HV.out i, er, ezi]
          have hvb : -8192 ≤ vi ∧ vi ≤ 8191 := by omega
          obtain ⟨S, eS⟩ : ∃ q, q = isum v i := ⟨_, rfl⟩
          obtain ⟨T, eT⟩ : ∃ q, q = asum v i := ⟨_, rfl⟩
          have hST := isum_abs v i
          rw [← eS, ← eT] at hST
          rw [← eT] at hsz
          obtain ⟨S2, eS2⟩ : ∃ q, q = isum v (i + 1) := ⟨_, rfl⟩
          obtain ⟨T2, eT2⟩ : ∃ q, q = asum v (i + 1) := ⟨_, rfl⟩
          have hS2 : S2 = S + vi := by rw [eS2, isum, eS, evi]
          have hT2 : T2 = T + vi.natAbs := by rw [eT2, asum, eT, evi]
          have W1 : IntKind.i64.wrap (r - 8192) = vi := by rw [IntWalk.i64_in _ (by omega)]; omega
          have W2 : IntKind.i64.wrap (S + vi) = S2 := by rw [IntWalk.i64_in _ (by omega)]; omega
          have W3 : IntKind.i64.wrap (-vi) = -vi := IntWalk.i64_in _ (by omega)
          have W4 : max vi (-vi) = ((vi.natAbs : Nat) : Int) := by omega
          have W5 : IntKind.i64.wrap ((T : Int) + ((vi.natAbs : Nat) : Int)) = (T2 : Int) := by rw [IntWalk.i64_in _ (by omega)]; omega
          have HF := Lib.hid fun W => fromInt_calls vi (by omega) W
          have hsz2 : T2 ≤ 8192 * (i + 1) := by omega
          have EVI := Lib.hid evi
          have ES2 := Lib.hid eS2
          have ET2 := Lib.hid eT2
          rw [← eS, ← eT]
          clear ezi er evi hvi eS eT eS2 eT2 hS2 hT2 hca hST hbz
          go_wp2_with (first
            | (go_at_call 31; refine (HPL.out _).mono ?_; rintro e1 w2 ⟨rfl, rfl⟩)
            | (go_at_call 39; refine (HF.out _).mono ?_; rintro e1 w3 ⟨rfl, hbel⟩; have HI1 := Lib.hid (HI.out.below hbel); clear hbel)
            | (at_builtin; obtain ⟨l2, w5, hrun, hL⟩ := whole_push HI1.out (by omega) vi EVI.out; refine wpList_append_want rfl _ _ 23 rfl _ _ rfl rfl _ w5 hrun ?_; have HI2 := Lib.hid hL; clear hrun hL))
          go_roundg (n - (i + 1))
          case measure => omega
          case rel => exact ⟨i + 1, by rw [ES2.out], by rw [ET2.out], by go_num, by omega, by omega, by rw [← ET2.out]; exact hsz2, HI2.out⟩
        · have hltz : ¬ (i : Int) < (n : Int) := by omega
          have e : i = n := by omega
          subst e
          have hST := isum_abs v i
          obtain ⟨S, eS⟩ : ∃ q, q = isum v i := ⟨_, rfl⟩
          obtain ⟨T, eT⟩ : ∃ q, q = asum v i := ⟨_, rfl⟩
          rw [← eS, ← eT] at hST
          rw [← eS, ← eT]
          rw [← eT] at hsz
          have ES := Lib.hid eS
          have ET := Lib.hid eT
          clear eS eT HZ1 HZB HV
          go_upto_if 60 with (fail)
          go_cut [] (fun wc => Aside (Below w1.heap.size w1 wc))
          case first =>
            have HBE : Aside (Below w1.heap.size w1 wr) := (show Below _ _ _ by obtain ⟨x, h, -⟩ := HI.out; exact h.bel)
            by_cases h24 : (T : Int) ≤ 16777216
            · have hS24 : asum v i ≤ 2 ^ 24 := by rw [← ET.out]; omega
              have HSM := Lib.hid fun W vr h => whole_sums (w1 := w1) (W := W) (vr := vr) h (by omega) hS24
              have HF := Lib.hid fun W => fromInt_calls S (by omega) W
              rw [← ES.out] at HSM
              clear hS24
              obtain ⟨A, c, ev7, hall⟩ := HSM.out _ _ HI.out
              have HALL := Lib.hid hall
              subst ev7
              clear hall HSM
              obtain ⟨q, eq⟩ : ∃ q, q = fi S := ⟨_, rfl⟩
              rw [← eq] at HALL HF
              have t1 : ((q : Int) != (q : Int)) = false := by rw [bne_eq_false_iff_eq]
              clear eq hST hsz
              go_wp2_with (first
                | (go_at_call 39; refine (HF.out _).mono ?_; rintro e1 w3 ⟨rfl, hbel⟩; have HC3 := Lib.hid hbel; clear hbel)
                | (go_at_call 14; refine (HALL.out _ HC3.out).1.mono ?_; rintro e1 w4 ⟨rfl, hbel⟩; have HC4 := Lib.hid (ujoin HC3.out hbel); clear hbel)
                | (go_at_call 19; refine (HALL.out _ HC4.out).2.1.mono ?_; rintro e1 w5 ⟨rfl, hbel⟩; have HC5 := Lib.hid (ujoin HC4.out hbel); clear hbel)
                | (go_at_call 21; refine (HALL.out _ HC5.out).2.2.1.mono ?_; rintro e1 w6 ⟨rfl, hbel⟩; have HC6 := Lib.hid (ujoin HC5.out hbel); clear hbel)
                | (go_at_call 23; refine (HALL.out _ HC6.out).2.2.2.mono ?_; rintro e1 w7 ⟨rfl, hbel⟩; have HC7 := Lib.hid (ujoin HC6.out hbel); clear hbel))
              go_meet
              case rel => exact ujoin HBE.out HC7.out
            · clear hST hsz
              go_wp2
              go_meet
              case rel => exact HBE.out
          case rest =>
            have HC0 : Aside (Below w1.heap.size w1 wc) := hcut
            clear hcut HI hsz hST ES ET hi hik hlt3 hltz hc0 hb
            obtain ⟨s, es⟩ : ∃ s : Nat, s = a % 2147483648 := ⟨_, rfl⟩
            have WM := u_mask31 a ha
            rw [← es] at WM
            by_cases hf : (2139095040 : Int) ≤ (s : Int)
            · clear es
              go_wp2
              go_ret
              exact ⟨rfl, ujoin HB1.out HC0.out⟩
            · have hx : expN a ≠ 255 := fin_exp a (by rw [← es]; exact hf)
              have HX := Lib.hid hx
              clear es hx
              have H1 := Lib.hid (WeightS.start u a HC0.out)
              go_wp2
              go_loopg [9, 13, 14, 15, 16, 17] m (fun kq v9 v13 v14 v15 v16 v17 wr => ∃ j : Nat, v9 = .int .i64 ((asum u j : Nat) : Int) ∧ v13 = .int .i64 (isum u j) ∧ v16 = .int .i64 (j : Int) ∧ j ≤ m ∧ m ≤ j + kq ∧ asum u j ≤ 65536 * j ∧ Aside (WeightS w1 wr v15 v14 j j u a))
              case atStart => exact ⟨0, rfl, rfl, rfl, Nat.zero_le _, by omega, Nat.zero_le _, H1.out⟩
              case round =>
                obtain ⟨j, rfl, rfl, rfl, hj, hjk, hsz, HI⟩ := hrel
                clear H1 HC0
                by_cases hlt4 : j < m
                · have hltz : (j : Int) < (m : Int) := by omega
                  have hj0 : (0 : Int) ≤ (j : Int) := by omega
                  obtain ⟨ad, rfl, hca⟩ := HY1.out (by omega)
                  have hbz := HYB.out j hlt4
                  obtain ⟨zi, ezi⟩ : ∃ q, q = y j := ⟨_, rfl⟩
                  have hci : wr.cell? (ad.add j) = some (.int .i64 zi) := by
                    have h1 := hca j hlt4
                    rw [← ezi] at h1
                    exact (HI.out.bel.cell (World.block_lt_of_cell? _ _ h1)).trans h1
                  rw [← ezi] at hbz
                  have HPL := Lib.hid fun W => place_calls W zi 131072 hbz (by decide) (by decide)
                  obtain ⟨r, er⟩ : ∃ q, q = zi % 131072 := ⟨_, rfl⟩
                  rw [← er] at HPL
                  obtain ⟨vi, evi⟩ : ∃ q, q = u j := ⟨_, rfl⟩
                  have hvi : vi = r - 65536 := by rw [evi, HU.out j, er, ezi]
                  have hvb : -65536 ≤ vi ∧ vi ≤ 65535 := by omega
                  obtain ⟨S, eS⟩ : ∃ q, q = isum u j := ⟨_, rfl⟩
                  obtain ⟨T, eT⟩ : ∃ q, q = asum u j := ⟨_, rfl⟩
                  have hST := isum_abs u j
                  rw [← eS, ← eT] at hST
                  rw [← eT] at hsz
                  obtain ⟨S2, eS2⟩ : ∃ q, q = isum u (j + 1) := ⟨_, rfl⟩
                  obtain ⟨T2, eT2⟩ : ∃ q, q = asum u (j + 1) := ⟨_, rfl⟩
                  have hS2 : S2 = S + vi := by rw [eS2, isum, eS, evi]
                  have hT2 : T2 = T + vi.natAbs := by rw [eT2, asum, eT, evi]
                  have W1 : IntKind.i64.wrap (r - 65536) = vi := by rw [IntWalk.i64_in _ (by omega)]; omega
                  have W2 : IntKind.i64.wrap (S + vi) = S2 := by rw [IntWalk.i64_in _ (by omega)]; omega
                  have W3 : IntKind.i64.wrap (-vi) = -vi := IntWalk.i64_in _ (by omega)
                  have W4 : max vi (-vi) = ((vi.natAbs : Nat) : Int) := by omega
                  have W5 : IntKind.i64.wrap ((T : Int) + ((vi.natAbs : Nat) : Int)) = (T2 : Int) := by rw [IntWalk.i64_in _ (by omega)]; omega
                  have hsz2 : T2 ≤ 65536 * (j + 1) := by omega
                  have EVI := Lib.hid evi
                  have ES2 := Lib.hid eS2
                  have ET2 := Lib.hid eT2
                  rw [← eS, ← eT]
                  clear ezi er evi hvi eS eT eS2 eT2 hS2 hT2 hca hST hbz
                  go_wp2_with (first
                    | (go_at_call 31; refine (HPL.out _).mono ?_; rintro e1 w2 ⟨rfl, rfl⟩)
                    | (at_builtin; obtain ⟨l2, w5, hrun, hL⟩ := weight_pushZ HI.out (by omega) vi EVI.out; refine wpList_append_want rfl _ _ 31 rfl _ _ rfl rfl _ w5 hrun ?_; have HI2 := Lib.hid hL; clear hrun hL)
                    | (at_builtin; obtain ⟨l3, w6, hrun, hL⟩ := weight_pushU HI2.out (by omega); refine wpList_append_want rfl _ _ 23 rfl _ _ rfl rfl _ w6 hrun ?_; have HI3 := Lib.hid hL; clear hrun hL))
                  go_roundg (m - (j + 1))
                  case measure => omega
                  case rel => exact ⟨j + 1, by rw [ET2.out], by rw [ES2.out], by go_num, by omega, by omega, by rw [← ET2.out]; exact hsz2, HI3.out⟩
                · have hltz : ¬ (j : Int) < (m : Int) := by omega
                  have e : j = m := by omega
                  subst e
                  have hST := isum_abs u j
                  have HDD := Lib.hid fun vw vr (h : WeightS w1 wr vw vr j j u a) => weight_dot h (by omega) ha HX.out (by omega)
                  obtain ⟨Aw, cw, Ar, cr, d, e1, e2, hE, hdl, hD⟩ := HDD.out _ _ HI.out
                  subst e1 e2
                  have HBE := Lib.hid HI.out.bel
                  have HD := Lib.hid hD
                  obtain ⟨S, eS⟩ : ∃ q, q = isum u j := ⟨_, rfl⟩
                  obtain ⟨T, eT⟩ : ∃ q, q = asum u j := ⟨_, rfl⟩
                  rw [← eS, ← eT] at hST
                  rw [← eT] at hsz
                  rw [← eS] at hE
                  rw [← eS, ← eT]
                  have hg : ¬ (268435456 : Int) < (T : Int) := by omega
                  obtain ⟨N, eN⟩ : ∃ N, N = S.natAbs := ⟨_, rfl⟩
                  have hN : N ≤ 268435456 := by omega
                  have hr := (smp_read _ HX.out).resolve_right (by omega)
                  have hpb := pE_bd a
                  have hpm : pM a < 16777216 := by unfold pM fracN; split <;> omega
                  have hW := want_whole a HX.out S (by omega)
                  obtain ⟨nb, enb⟩ : ∃ b : Bool, b = decide (S < 0) := ⟨_, rfl⟩
                  rw [← eN, ← enb] at hW
                  have HME := Lib.hid (ends_meet hE hW)
                  have HOF := Lib.hid fun W => of_calls 23 8 150 255 isF32 a ha W
                  rw [show (fmt 23 8).read a = Ieee.Datum.number (sgnB a) (pM a) (pE a) from hr] at HOF
                  have HTI := Lib.hid fun W vv (h : NatAt W vv (pM a)) => times_calls W vv (pM a) N h (Nat.le_trans (small_lt (m := 2) (Nat.lt_of_lt_of_le hpm (by decide)) (by decide)) (by decide)) (by omega)
                  have hMN : pM a * N < 2 ^ 64 := Nat.lt_of_le_of_lt (Nat.mul_le_mul (Nat.le_of_lt hpm) hN) (by decide)
                  have HRO : Hid (∀ W A c, NatAt W (.slice A (len32 (pM a * N)) c) (pM a * N) → Calls Try.prog 44 #[formV 52 11, .agg #[.int .i64 2, .bool (sgnB a != nb), .slice A (len32 (pM a * N)) c, .int .i64 (pE a), .bool false]] W fun e w' => Gives W (.int .u64 ((told64 (.number (sgnB a != nb) (pM a * N) (pE a)) : Nat) : Int)) e w') := (show ∀ W A c, _ → _ from fun W A c h =>
                    round_calls 52 11 1075 2047 isF64 (.number (sgnB a != nb) (pM a * N) (pE a)) _ W ⟨A, c, rfl, h⟩ ⟨small_lt (m := 2) hMN (by decide), by omega, by omega⟩)
                  obtain ⟨wv, ewv⟩ : ∃ q, q = told64 (.number (sgnB a != nb) (pM a * N) (pE a)) := ⟨_, rfl⟩
                  rw [← ewv] at HME HRO
                  obtain ⟨MN, eMN⟩ : ∃ q, q = pM a * N := ⟨_, rfl⟩
                  rw [← eMN] at HRO HTI
                  obtain ⟨M, eM⟩ : ∃ q, q = pM a := ⟨_, rfl⟩
                  obtain ⟨E, eE⟩ : ∃ q, q = pE a := ⟨_, rfl⟩
                  obtain ⟨sg, esg⟩ : ∃ q, q = sgnB a := ⟨_, rfl⟩
                  rw [← eM] at HTI
                  rw [← eM, ← eE, ← esg] at HOF
                  rw [← eE, ← esg] at HRO
                  have HF := Lib.hid fun W => F32_calls W
                  have HF6 := Lib.hid fun W => F64_calls W
                  have WA := u_w64 a (by omega)
                  have WN : IntKind.u32.wrap (N : Int) = (N : Int) := u_w32 N (by omega)
                  have HCS : Hid ((nb = true ∧ IntKind.i64.wrap (-S) = (N : Int)) ∨ (nb = false ∧ S = (N : Int))) := (show _ ∨ _ by
                    by_cases h : S < 0
                    · left; exact ⟨by rw [enb]; exact decide_eq_true h, by rw [IntWalk.i64_in _ (by omega)]; omega⟩
                    · right; exact ⟨by rw [enb]; exact decide_eq_false h, by omega⟩)
                  have ENB := Lib.hid enb
                  clear HDD enb hD hE hW hr hMN hpm eMN eM eE esg ewv eN eS eT hST hsz HI HU HYB hj hjk hlt4 hltz HX
                  go_upto_if 127 with (go_at_call 25; refine HD.out.mono ?_; rintro e1 w2 ⟨rfl, hbel⟩; have HB2 := Lib.hid (ujoin HBE.out hbel); clear hbel)
                  rw [← ENB.out]
                  clear ENB
                  go_cut [13] (fun v13 wc => v13 = .int .i64 (N : Int) ∧ w2 = wc)
                  case first =>
                    rcases HCS.out with ⟨rfl, h2⟩ | ⟨rfl, h2⟩
                    · clear HCS HME HTI HRO HOF WM hdl hpb WA WN hg hf hN
                      go_wp2
                      go_meet
                      case rel => exact ⟨rfl, rfl⟩
                    · have h4 := Lib.hid h2
                      clear HCS HME HTI HRO HOF WM hdl hpb WA WN hg hf hN h2
                      go_wp2
                      go_meet
                      case rel => exact ⟨by rw [h4.out], rfl⟩
                  case rest =>
                    obtain ⟨rfl, rfl⟩ := hcut
                    clear HCS HD
                    go_upto_region 35 with (first
                      | (go_at_call 40; refine (HF.out _).mono ?_; rintro e1 w4 ⟨rfl, hbel⟩; have HB4 := Lib.hid (ujoin HB2.out hbel); unfold formV; clear hbel)
                      | (go_at_call 41; unfold formV at HOF; refine (HOF.out _).mono ?_; rintro e1 w5 ⟨un, rfl, ⟨A, c, rfl, hnat⟩, hbel⟩; have HNA := Lib.hid hnat; have HB5 := Lib.hid (ujoin HB4.out hbel); unfold numV; clear hnat hbel))
                    have hblk : (w5.alloc (.cells #[.int .i64 2, .bool sg, .slice A (len32 M) c, .int .i64 E, .bool false] 62)).heap[w5.heap.size]? = some (.cells #[.int .i64 2, .bool sg, .slice A (len32 M) c, .int .i64 E, .bool false] 62 (0, 0)) := heap_alloc_new w5 _
                    have hb0 : Below w5.heap.size w5 (w5.alloc (.cells #[.int .i64 2, .bool sg, .slice A (len32 M) c, .int .i64 E, .bool false] 62)) := (Below.refl _ _).alloc (Nat.le_refl _) _
                    have HNA1 := Lib.hid ((HNA.out.below hb0).below (Below.refl _ _).drew)
                    have HB6 := Lib.hid (ujoin HB5.out hb0)
                    have hgs : w1.heap.size ≤ w5.heap.size := HB5.out.size
                    obtain ⟨g, eg⟩ : ∃ g, g = w5.heap.size := ⟨_, rfl⟩
                    rw [← eg] at hblk hgs ⊢
                    clear hb0 eg HNA
                    generalize w5.alloc (.cells #[.int .i64 2, .bool sg, .slice A (len32 M) c, .int .i64 E, .bool false] 62) = W0 at hblk HNA1 HB6 ⊢
                    have x1 : W0.cell? ⟨g, 1, none⟩ = some (.bool sg) := ucell hblk 1
                    have x2 : W0.cell? ⟨g, 2, none⟩ = some (.slice A (len32 M) c) := ucell hblk 2
                    have HBL := Lib.hid hblk
                    have HGS := Lib.hid hgs
                    clear hblk hgs
                    go_cut [] (fun wc => ∃ A' c', Aside (NumB w1 wc g (sg != nb) A' MN c' E))
                    case first =>
                      clear HRO HME HOF WM hdl hpb WA hg hf hN HF HF6
                      go_region_with ((go_at_call 42; refine (HTI.out _ _ HNA1.out).mono ?_; rintro e1 w6 ⟨v', rfl, ⟨A', c', rfl, hcc, hrr⟩, hbel⟩; have hn : NatAt w6 (.slice A' (len32 MN) c') MN := ⟨A', c', rfl, hcc, hrr⟩; have hb6 := (hbel.block g (Array.getElem?_eq_some_iff.1 HBL.out).1).trans HBL.out; have y1 := ucell hb6 1; have y2 := ucell hb6 2; have f1 := bfree2 hb6 1; have f2 := bfree2 hb6 2; have HP := Lib.hid (num_put2 (q := (sg != nb)) hb6 hn HGS.out (ujoin HB6.out.drew hbel)); clear hn hbel hb6 hcc hrr))
                      all_goals go_wp2_with fail
                      all_goals go_meet
                      all_goals
                        case rel => exact ⟨_, _, HP.out⟩
                    case rest =>
                      obtain ⟨A', c', HNB⟩ := hcut
                      have hblk := HNB.out.1
                      have g0 : wc.cell? ⟨g, 0, none⟩ = some (.int .i64 2) := ucell hblk 0
                      have g1 : wc.cell? ⟨g, 1, none⟩ = some (.bool (sg != nb)) := ucell hblk 1
                      have g2 : wc.cell? ⟨g, 2, none⟩ = some (.slice A' (len32 MN) c') := ucell hblk 2
                      have g3 : wc.cell? ⟨g, 3, none⟩ = some (.int .i64 E) := ucell hblk 3
                      have g4 : wc.cell? ⟨g, 4, none⟩ = some (.bool false) := ucell hblk 4
                      have HR2 := Lib.hid fun W (hb : Below wc.heap.size wc W) => HRO.out W A' c' (HNB.out.2.1.below hb)
                      have HB7 := Lib.hid HNB.out.2.2
                      have HMF := Lib.hid (meet_facts HME.out)
                      obtain ⟨qb, eqb⟩ : ∃ b : Bool, b = (sg != nb) := ⟨_, rfl⟩
                      rw [← eqb] at g1 HR2
                      obtain ⟨sl, esl⟩ : ∃ v, v = Value.slice A' (len32 MN) c' := ⟨_, rfl⟩
                      rw [← esl] at g2 HR2
                      have hb0 : Below wc.heap.size wc wc := Below.refl _ _
                      clear hblk HNB eqb esl HRO HME HOF HTI WM hdl hpb WA WN hg hf hN HF x1 x2 HBL HGS HB2 HB4 HB5 HB6 HBE HNA1
                      go_upto_region 36 with (fail)
                      go_region_held3 (fun w' => w'.cell? ⟨g, 0, none⟩ = some (.int .i64 2) ∧ w'.cell? ⟨g, 1, none⟩ = some (.bool qb) ∧ w'.cell? ⟨g, 2, none⟩ = some sl ∧ w'.cell? ⟨g, 3, none⟩ = some (.int .i64 E) ∧ w'.cell? ⟨g, 4, none⟩ = some (.bool false) ∧ Below wc.heap.size wc w')
                        (first | exact ⟨g0, g1, g2, g3, g4, hb0.drew⟩ | exact keep6 hbel ‹_›) (first
                        | (go_at_call 43; refine (HF6.out _).mono ?_; rintro e1 w7 ⟨rfl, hbel⟩; have HB8 := Lib.hid (ujoin hb0.drew hbel); unfold formV)
                        | (go_at_call 44; refine (HR2.out w7 HB8.out).mono ?_; rintro e1 w8 ⟨rfl, hbel⟩))
                      rename_i hH
                      have HBZ := Lib.hid (ujoin HB1.out (ujoin HB7.out hH.2.2.2.2.2))
                      clear hH g0 g1 g2 g3 g4 HR2 HB7 hb0 HF6
                      rcases HMF.out with t1 | ⟨t1, t2, t3⟩
                      · clear HMF
                        go_wp2
                        go_ret
                        exact ⟨rfl, HBZ.out⟩
                      · clear HMF
                        go_wp2
                        go_ret
                        exact ⟨rfl, HBZ.out⟩
end Go.Proofs.Ytmeifciagepmpaa
