/- warp.Plane: its errors. Rows of samples of the call's own: append, store. halidehelp.Copy, Spoil. -/
import Derived.Test.YtdcpeeolfgohmaaNarQ
import Derived.Test.YtdcpeeolfgohmaaWmKL
import Derived.Test.YtdcpeeolfgohmaaPr
import Derived.Test.YtdcpeeolfgohmaaWmM
import Derived.Test.YtdcpeeolfgohmaaRgRK
import Derived.Maps.AppendAt
namespace Go.Proofs.Ytdcpeeolfgohmaa
open Go.RowKit Go.Proofs.YtdcpeeolfgohmaaW.PrintWords
set_option linter.unusedSimpArgs false
set_option linter.unusedVariables false
attribute [local go_sem] Oper.semAt_some

/-- Why a plane can't be warped. -/
def planeErr (kind border : Int) (t : Wp) (W H : Int) (np : Nat) (w h : Int) : Int := if plE W H np ≠ 0 then plE W H np else if rightE kind border t W H ≠ 0 then rightE kind border t W H else if sizeB w h = false then 282 else 0
/-- An error's answer: no plane. -/
def PlaneNo (w0 : World) (er : Int) (e : Ending) (w' : World) : Prop := e = .returned (.tuple #[.agg #[.int .i64 0, .int .i64 0, .slice none 0 0], .int .i64 er]) ∧ Below w0.heap.size w0 w'
set_option maxHeartbeats 3200000 in
set_option maxRecDepth 100000 in
theorem plane_no_in (W H : Int) (A : Option Addr) (np cp : Nat) (kind border : Int) (t : Wp) (w h : Int) (w0 : World) (hnp : np ≤ 1000000000) (he : planeErr kind border t W H np w h ≠ 0) :
    CallsIn Fence.wide 9 Try.prog 31 #[.agg (plC W H A np cp), .int .i64 kind, .int .i64 border, wpV t, .int .i64 w, .int .i64 h] w0 fun e w' => PlaneNo w0 (planeErr kind border t W H np w h) e w' := by
  have HPC : Hid (∀ W', CallsIn Fence.wide (9 - 1) Try.prog 71 #[.agg (plC W H A np cp)] W' fun e w' => e = .returned (.int .i64 (plE W H np)) ∧ Below W'.heap.size W' w') := (show ∀ W', _ from fun W' => callsIn_wide.2 ((pcheck_calls W' W H A np cp hnp).mono fun e w' h => ⟨h.1, h.2⟩))
  have HRI : Hid (∀ W', CallsIn Fence.wide (9 - 1) Try.prog 66 #[wayV kind border t W H] W' fun e w' => e = .returned (.int .i64 (rightE kind border t W H)) ∧ Below W'.heap.size W' w') := (show ∀ W', _ from fun W' => callsIn_wide.2 ((right_calls W' kind border t W H).mono fun e w' h => ⟨h.1, h.2⟩))
  have HSZ : Hid (∀ W', CallsIn Fence.wide (9 - 1) Try.prog 72 #[.int .i64 w, .int .i64 h] W' fun e w' => e = .returned (.bool (sizeB w h)) ∧ W' = w') := (show ∀ W', _ from fun W' => callsIn_wide.2 ((wsize_calls W' w h).mono fun e w' h => ⟨h.1, h.2⟩))
  have HST := Lib.hid (PlB.start W H A np cp t w0)
  unfold plC at HPC ⊢
  unfold wayV wayC at HRI
  unfold wpV wpC
  obtain ⟨er, eer⟩ : ∃ er, er = planeErr kind border t W H np w h := ⟨_, rfl⟩
  rw [← eer] at he ⊢
  unfold planeErr at eer
  have fin : ∀ (v : Array Value) (V : World) (hv : v.getD 12 undef = .pointer (some ⟨w0.heap.size + 1 + 1, 0, none⟩)) (hu : v.getD 13 undef = .int .i64 er) (hb : Below w0.heap.size w0 V) (hk : V.heap[w0.heap.size + 1 + 1]? = some (.cells #[.int .i64 0, .int .i64 0, .slice none 0 0] 55 (0, 0))),
      LeavesInM Fence.wide 9 Try.prog Try.f31 v (fun e w' => PlaneNo w0 er e w') [] .returning (((V.setCell ⟨w0.heap.size + 1 + 1, 0, none⟩ (.int .i64 0)).setCell ⟨w0.heap.size + 1 + 1, 1, none⟩ (.int .i64 0)).setCell ⟨w0.heap.size + 1 + 1, 2, none⟩ (.slice none 0 0)) := fun v V hv hu hb hk => by
    have q5 := st3_end hk (x := .int .i64 0) (y := .int .i64 0) (z := .slice none 0 0)
    have bl := st3_below hb (g := w0.heap.size + 1 + 1) (x := .int .i64 0) (y := .int .i64 0) (z := .slice none 0 0) (by omega)
    refine leaves_marks (N := w0.heap.size) [] _ bl.size trivial (fun W' hW' => ?_)
    have q6 := hW'.ce _ _ q5 rfl
    refine ⟨_, ret_plane rfl _ W' (w0.heap.size + 1 + 1) _ hv q6 rfl, by rw [hu], bl.trans hW'.be⟩
  have HFIN := Lib.hid fin
  clear fin
  by_cases h1 : plE W H np = 0
  · rw [if_neg (by rw [h1]; simp)] at eer
    rw [h1] at HPC
    by_cases h2 : rightE kind border t W H = 0
    · rw [if_neg (by rw [h2]; simp)] at eer
      rw [h2] at HRI
      cases h3 : sizeB w h with
      | true => rw [if_neg (by rw [h3]; decide)] at eer; exact absurd eer he
      | false =>
        rw [if_pos h3] at eer
        rw [h3] at HSZ
        subst eer
        clear h1 h2 h3 he
        refine callsIn_of_wp_marks Try.func31 rfl trivial ?_ rfl
        simp only [Try.ntmps31, List.size_toArray, List.length_cons, List.length_nil, Nat.reduceAdd, Nat.reduceSub, Array.replicate_succ, Array.replicate_zero, List.push_toArray, List.append_toArray, List.nil_append, List.cons_append]
        gi_wp2_with (first
          | ((refine ⟨trivial, ?_⟩); gi_at_call 71; (with_reducible refine (HPC.out _).mono ?_); rintro e1 w1 ⟨rfl, hb⟩; have HX1 := Lib.hid (HST.out.1.below hb); have HB1 := Lib.hid (ujoin HST.out.2 hb); obtain ⟨c0, c1, c2, c3, c4, c5, c6⟩ := wpC_cells HX1.out.k1; obtain ⟨d0, d1, d2⟩ := plC_cells HX1.out.k0; clear hb)
          | ((refine ⟨trivial, ?_⟩); gi_at_call 66; (with_reducible refine (HRI.out _).mono ?_); rintro e1 w2 ⟨rfl, hb2⟩; have hb3 := wbelow_of_alloc hb2; have HX2 := Lib.hid (HX1.out.below hb3); have HB2 := Lib.hid (ujoin HB1.out hb3); clear hb2 hb3)
          | ((refine ⟨trivial, ?_⟩); gi_at_call 72; (with_reducible refine (HSZ.out _).mono ?_); rintro e1 w3 ⟨rfl, rfl⟩; obtain ⟨k1, k2, k3, k4, k5, k6⟩ := st3 HX2.out.k2 (.int .i64 0) (.int .i64 0)))
        exact HFIN.out _ w2 rfl rfl HB2.out HX2.out.k2
    · rw [if_pos h2] at eer
      have hne : (rightE kind border t W H != 0) = true := by rw [bne_iff_ne]; exact h2
      rw [← eer] at HRI hne
      clear h1 h2 he eer HSZ
      refine callsIn_of_wp_marks Try.func31 rfl trivial ?_ rfl
      simp only [Try.ntmps31, List.size_toArray, List.length_cons, List.length_nil, Nat.reduceAdd, Nat.reduceSub, Array.replicate_succ, Array.replicate_zero, List.push_toArray, List.append_toArray, List.nil_append, List.cons_append]
      gi_wp2_with (first
        | ((refine ⟨trivial, ?_⟩); gi_at_call 71; (with_reducible refine (HPC.out _).mono ?_); rintro e1 w1 ⟨rfl, hb⟩; have HX1 := Lib.hid (HST.out.1.below hb); have HB1 := Lib.hid (ujoin HST.out.2 hb); obtain ⟨c0, c1, c2, c3, c4, c5, c6⟩ := wpC_cells HX1.out.k1; obtain ⟨d0, d1, d2⟩ := plC_cells HX1.out.k0; clear hb)
        | ((refine ⟨trivial, ?_⟩); gi_at_call 66; (with_reducible refine (HRI.out _).mono ?_); rintro e1 w2 ⟨rfl, hb2⟩; have hb3 := wbelow_of_alloc hb2; have HX2 := Lib.hid (HX1.out.below hb3); have HB2 := Lib.hid (ujoin HB1.out hb3); obtain ⟨k1, k2, k3, k4, k5, k6⟩ := st3 HX2.out.k2 (.int .i64 0) (.int .i64 0); clear hb2 hb3))
      exact HFIN.out _ w2 rfl rfl HB2.out HX2.out.k2
  · rw [if_pos h1] at eer
    have hne : (plE W H np != 0) = true := by rw [bne_iff_ne]; exact h1
    rw [← eer] at HPC hne
    clear h1 he eer HSZ HRI
    refine callsIn_of_wp_marks Try.func31 rfl trivial ?_ rfl
    simp only [Try.ntmps31, List.size_toArray, List.length_cons, List.length_nil, Nat.reduceAdd, Nat.reduceSub, Array.replicate_succ, Array.replicate_zero, List.push_toArray, List.append_toArray, List.nil_append, List.cons_append]
    gi_wp2_with ((refine ⟨trivial, ?_⟩); gi_at_call 71; (with_reducible refine (HPC.out _).mono ?_); rintro e1 w1 ⟨rfl, hb⟩; have HX1 := Lib.hid (HST.out.1.below hb); have HB1 := Lib.hid (ujoin HST.out.2 hb); obtain ⟨k1, k2, k3, k4, k5, k6⟩ := st3 HX1.out.k2 (.int .i64 0) (.int .i64 0); clear hb)
    exact HFIN.out _ w1 rfl rfl HB1.out HX1.out.k2
theorem plane_no (W H : Int) (A : Option Addr) (np cp : Nat) (kind border : Int) (t : Wp) (w h : Int) (w0 : World) (hnp : np ≤ 1000000000) (he : planeErr kind border t W H np w h ≠ 0) :
    Calls Try.prog 31 #[.agg (plC W H A np cp), .int .i64 kind, .int .i64 border, wpV t, .int .i64 w, .int .i64 h] w0 fun e w' => PlaneNo w0 (planeErr kind border t W H np w h) e w' :=
  (callsIn_wide (n := 9)).1 (plane_no_in W H A np cp kind border t w h w0 hnp he)
theorem planeErr_in {kind border : Int} {t : Wp} {W H : Int} {np : Nat} {w h : Int} (h0 : planeErr kind border t W H np w h = 0) : plE W H np = 0 ∧ rightE kind border t W H = 0 ∧ sizeB w h = true := by
  unfold planeErr at h0
  split at h0
  · rename_i h; exact absurd h0 h
  · rename_i h1
    split at h0
    · rename_i h; exact absurd h0 h
    · rename_i h2
      split at h0
      · exact absurd h0 (by decide)
      · rename_i h3
        exact ⟨by omega, by omega, by cases hh : sizeB w h <;> simp_all⟩
attribute [local go_sem] Oper.semAt_some

def rowL (n : Nat) (x : Nat → Nat) : List Value := (List.range n).map fun k => .int .u32 ((x k : Nat) : Int)
theorem rowL_get (n : Nat) (x : Nat → Nat) (i : Nat) (u : Value) (h : (rowL n x)[i]? = some u) : i < n ∧ u = .int .u32 ((x i : Nat) : Int) := by
  have h1 := (List.getElem?_eq_some_iff.1 h).1
  have h2 : i < n := by simpa [rowL] using h1
  refine ⟨h2, ?_⟩
  simp [rowL, h2] at h
  exact h.symm
def catN (x : Nat → Nat) (n : Nat) (y : Nat → Nat) : Nat → Nat := fun k => if k < n then x k else y (k - n)
theorem rowL_len (n : Nat) (x : Nat → Nat) : (rowL n x).length = n := by simp [rowL]
theorem rowL_cat (n m : Nat) (x y : Nat → Nat) : rowL n x ++ rowL m y = rowL (n + m) (catN x n y) := by
  apply List.ext_getElem?
  intro i
  rw [List.getElem?_append, rowL_len]
  by_cases h : i < n
  · have h2 : i < n + m := by omega
    simp [rowL, catN, h, h2]
  · rw [if_neg h]
    by_cases h2 : i < n + m
    · have h3 : i - n < m := by omega
      simp [rowL, catN, h, h2, h3]
    · rw [List.getElem?_eq_none (by simp [rowL]; omega), List.getElem?_eq_none (by simp [rowL]; omega)]
theorem rowL_set (n : Nat) (x : Nat → Nat) (k v : Nat) : (rowL n x).set k (.int .u32 (v : Int)) = rowL n (updN x k v) := by
  apply List.ext_getElem?
  intro i
  rw [List.getElem?_set]
  by_cases h : k = i
  · subst h
    rw [if_pos rfl, rowL_len]
    by_cases h2 : k < n
    · simp [rowL, updN, h2]
    · rw [if_neg h2, List.getElem?_eq_none (by simp [rowL]; omega)]
  · rw [if_neg h]
    by_cases h2 : i < n
    · simp [rowL, updN, h2, Ne.symm h]
    · rw [List.getElem?_eq_none (by simp [rowL]; omega), List.getElem?_eq_none (by simp [rowL]; omega)]
theorem rowL_one (n : Nat) (x : Nat → Nat) : ∀ u ∈ rowL n x, u.oneCell' = true := fun u hu => by
  simp only [rowL, List.mem_map] at hu
  obtain ⟨k, _, rfl⟩ := hu
  rfl
/-- A slice of samples in memory from block base on. -/
def OwnV (W : World) (base : Nat) (v : Value) (n : Nat) (x : Nat → Nat) : Prop := W.ownsRow base 65 1 v n (rowL n x)
theorem OwnV.row {W : World} {base : Nat} {v : Value} {n : Nat} {x : Nat → Nat} (h : OwnV W base v n x) : ∃ A c, v = .slice A n c ∧ n ≤ c ∧ RowU W A n x ∧ (∀ ad, A = some ad → base ≤ ad.block ∧ ad.block < W.heap.size ∧ v.ownBlock = some ad.block) ∧ (A = none → n = 0) := by
  obtain ⟨hl, h⟩ := h
  rcases h with ⟨rfl, rfl⟩ | ⟨g, cap, cur, rfl, hbg, hg, hnc, hcm, hcs, htake⟩
  · exact ⟨none, 0, rfl, Nat.le_refl _, RowU.nil _ _ _, (fun ad e => by cases e), fun _ => rfl⟩
  · refine ⟨_, _, rfl, hnc, fun hn => ⟨_, rfl, fun i hi => ?_⟩, fun ad e => ?_, fun e => by cases e⟩
    · rw [add_plain, ucell hg]
      have h1 : (rowL n x)[i]? = some (.int .u32 ((x i : Nat) : Int)) := by simp [rowL, hi]
      rw [← htake, List.getElem?_take, if_pos (by omega), Array.getElem?_toList] at h1
      exact h1
    · injection e with e
      subst e
      exact ⟨hbg, (Array.getElem?_eq_some_iff.1 hg).1, rfl⟩
theorem OwnV.nil (W : World) (base : Nat) (x : Nat → Nat) : OwnV W base (.slice none 0 0) 0 x := ⟨rfl, .inl ⟨rfl, rfl⟩⟩
theorem OwnV.kept {W W' : World} {base : Nat} {v : Value} {n : Nat} {x : Nat → Nat} (h : OwnV W base v n x) {row : Option Nat} (hg : W.grownBy W' row) (hne : v.ownBlock = none ∨ v.ownBlock ≠ row) : OwnV W' base v n x := World.ownsRow.kept h hg hne
theorem OwnV.below {W W' : World} {base : Nat} {v : Value} {n : Nat} {x : Nat → Nat} (h : OwnV W base v n x) (hb : Below W.heap.size W W') : OwnV W' base v n x :=
  h.kept (grown_of_below none hb) (by cases v.ownBlock <;> simp)
theorem OwnV.set {W : World} {base : Nat} {ad : Addr} {n c : Nat} {x : Nat → Nat} (h : OwnV W base (.slice (some ad) n c) n x) (k v : Nat) : OwnV (W.setCell ⟨ad.block, ad.off + k, none⟩ (.int .u32 (v : Int))) base (.slice (some ad) n c) n (updN x k v) := by
  obtain ⟨hl, h⟩ := h
  rcases h with ⟨e, rfl⟩ | ⟨g, cap, cur, e, hbg, hg, hnc, hcm, hcs, htake⟩
  · cases e
  · injection e with e1 e2 e3
    injection e1 with e1
    subst e1 e3
    refine ⟨by simp [rowL], .inr ⟨g, c, cur.setIfInBounds k (.int .u32 (v : Int)), rfl, hbg, ?_, hnc, hcm, by simpa using hcs, ?_⟩⟩
    · show (W.setCell ⟨g, 0 + k, none⟩ _).heap[g]? = _
      rw [Nat.zero_add]
      exact heap_setCell_same W g k cur _ _ hg
    · rw [Array.toList_setIfInBounds, List.take_set, htake, rowL_set]
theorem run_append_of_nil (W : World) (base : Nat) (ty : TypeId) (v : Value) (n : Nat) (xs : List Value) (hown : W.ownsRow base 65 1 v n xs) (c : Nat) : (Builtin.append_ #[53, 53] ty #[v, .slice none 0 c]).run Try.prog W = .ok v W := by
  obtain ⟨i, hi, hz⟩ := Option.map_eq_some_iff.1 u_info
  rcases hown.2 with ⟨rfl, rfl⟩ | ⟨g, cap, cur, rfl, _, _, hnc, _⟩
  · simp [Builtin.append_, run_underlying Try.underlying53, sizeOf, typeInfo, hi, Builtin.lenOf, Builtin.firstCells]
  · simp [Builtin.append_, run_underlying Try.underlying53, sizeOf, typeInfo, hi, Builtin.lenOf, Builtin.firstCells, hnc, storeCells]
set_option maxRecDepth 100000 in
theorem run_appendU (W : World) (base : Nat) (ty : TypeId) (v : Value) (n : Nat) (x : Nat → Nat) (A : Option Addr) (m c : Nat) (y : Nat → Nat) (hown : OwnV W base v n x) (hb : base ≤ W.heap.size) (hr : RowU W A m y) (hlen : n + m ≤ 1000000000) :
    ∃ v' w', (Builtin.append_ #[53, 53] ty #[v, .slice A m c]).run Try.prog W = .ok v' w' ∧ OwnV w' base v' (n + m) (catN x n y) ∧ W.grownBy w' v.ownBlock ∧ (v'.ownBlock = v.ownBlock ∨ v'.ownBlock = some W.heap.size) := by
  obtain ⟨i, hi, hz⟩ := Option.map_eq_some_iff.1 u_info
  simp only [Prod.mk.injEq] at hz
  have fin : ∀ {v' w'}, w'.ownsRow base 65 1 v' (n + m) (rowL n x ++ rowL m y) → OwnV w' base v' (n + m) (catN x n y) := fun h => by unfold OwnV; rw [← rowL_cat]; exact h
  cases A with
  | none =>
    have hm : m = 0 := by
      rcases Nat.eq_zero_or_pos m with h0 | h0
      · exact h0
      · obtain ⟨ad, h, _⟩ := hr h0; cases h
    subst hm
    exact ⟨v, W, run_append_of_nil W base ty v n _ hown c, fin (by have h : W.ownsRow base 65 1 v n (rowL n x) := hown; simpa [rowL] using h), World.grownBy.refl W _, .inl rfl⟩
  | some ad =>
    have hc : ∀ j u, (rowL m y)[j]? = some u → W.cell? (ad.add j) = some u := fun j u h => by
      obtain ⟨h1, h2⟩ := rowL_get m y j u h
      obtain ⟨ad', e, hc⟩ := hr (by omega)
      injection e with e
      subst e
      rw [h2, hc j h1]
    obtain ⟨v', w', hrun, h2, h3, _, h5⟩ := run_append_own_at (P := Try.prog) W base 53 ty 65 i (.int .u32 0) 1 4 Try.underlying53 hi hz.1 hz.2.1 hz.2.2 rfl (by decide) v n (rowL n x) hown ad m c (rowL m y) (by rw [rowL_len, Nat.mul_one]) hc (rowL_one m y) (by unfold maxLen; omega) (by omega) hb
    exact ⟨v', w', hrun, fin h2, h3, h5⟩
theorem OwnV.form {W : World} {base : Nat} {v : Value} {n : Nat} {x : Nat → Nat} (h : OwnV W base v n x) (hn : 0 < n) : ∃ g c, v = .slice (some ⟨g, 0, none⟩) n c ∧ base ≤ g ∧ n ≤ c ∧ (∀ k, k < n → W.cell? ⟨g, k, none⟩ = some (.int .u32 ((x k : Nat) : Int))) ∧ ∀ k, W.frozen? ⟨g, k, none⟩ = false := by
  obtain ⟨hl, h⟩ := h
  rcases h with ⟨e, e2⟩ | ⟨g, cap, cur, e, hbg, hg, hnc, hcm, hcs, htake⟩
  · subst e
    exact absurd hl (by omega)
  · refine ⟨g, cap, e, hbg, hnc, fun k hk => ?_, fun k => by simp [World.frozen?, hg]⟩
    rw [ucell hg]
    have h1 : (rowL n x)[k]? = some (.int .u32 ((x k : Nat) : Int)) := by simp [rowL, hk]
    rw [← htake, List.getElem?_take, if_pos (by omega), Array.getElem?_toList] at h1
    exact h1
theorem OwnV.far3 {W : World} {base : Nat} {v : Value} {n : Nat} {x : Nat → Nat} (h : OwnV W base v n x) {g : Nat} {a b d : Value} (hne : v.ownBlock ≠ some g) : OwnV (((W.setCell ⟨g, 0, none⟩ a).setCell ⟨g, 1, none⟩ b).setCell ⟨g, 2, none⟩ d) base v n x := by
  have st : ∀ k, k ≠ g → (((W.setCell ⟨g, 0, none⟩ a).setCell ⟨g, 1, none⟩ b).setCell ⟨g, 2, none⟩ d).heap[k]? = W.heap[k]? := fun k hk => (Below.heap_setCell _ ⟨g, 2, none⟩ _ _ hk).trans ((Below.heap_setCell _ ⟨g, 1, none⟩ _ _ hk).trans (Below.heap_setCell _ ⟨g, 0, none⟩ _ _ hk))
  obtain ⟨hl, h⟩ := h
  rcases h with ⟨rfl, h0⟩ | ⟨k, cap, cur, rfl, hbg, hg, hr⟩
  · exact ⟨hl, .inl ⟨rfl, h0⟩⟩
  · exact ⟨hl, .inr ⟨k, cap, cur, rfl, hbg, (st k (fun e => hne (by rw [e]; rfl))).trans hg, hr⟩⟩

/-- What is copied: a plane of its own memory. -/
def CopyEnd (w : World) (W H : Int) (n : Nat) (x : Nat → Nat) (e : Ending) (w' : World) : Prop := ∃ v, e = .returned (.agg #[.int .i64 W, .int .i64 H, v]) ∧ OwnV w' w.heap.size v n x ∧ Below w.heap.size w w'
/-- A box's three cells. -/
def Cel3 (g : Nat) (a b c : Value) (V : World) : Prop := V.cell? ⟨g, 0, none⟩ = some a ∧ V.cell? ⟨g, 1, none⟩ = some b ∧ V.cell? ⟨g, 2, none⟩ = some c
set_option maxHeartbeats 3200000 in
set_option maxRecDepth 100000 in
theorem copy_calls (w : World) (W H : Int) (A : Option Addr) (n c : Nat) (x : Nat → Nat) (hn : n ≤ 100000000) (hr : RowU w A n x) :
    Calls Try.prog 29 #[.agg (plC W H A n c)] w fun e w' => CopyEnd w W H n x e w' := by
  have z1 := heap_alloc_new w (.cells (plC W H A n c) 55)
  obtain ⟨w1, e1⟩ : ∃ w1, w1 = w.alloc (.cells (plC W H A n c) 55) := ⟨_, rfl⟩
  rw [← e1] at z1
  have z2 := heap_alloc_new w1 (.cells #[.int .i64 0, .int .i64 0, .slice none 0 0] 55)
  have s1 : w1.heap.size = w.heap.size + 1 := by rw [e1, World.size_alloc]
  obtain ⟨w2, e2⟩ : ∃ w2, w2 = w1.alloc (.cells #[.int .i64 0, .int .i64 0, .slice none 0 0] 55) := ⟨_, rfl⟩
  rw [← e2, s1] at z2
  have b1 : Below w.heap.size w w1 := by rw [e1]; exact (Below.refl _ _).alloc (Nat.le_refl _) _
  have b2 : Below w1.heap.size w1 w2 := by rw [e2]; exact (Below.refl _ _).alloc (Nat.le_refl _) _
  have HB := Lib.hid (ujoin b1 b2)
  have HZ1 := Lib.hid ((b2.block _ (heap_lt' z1)).trans z1)
  have HZ2 := Lib.hid z2
  have HR := Lib.hid (hr.below (ujoin b1 b2))
  have E1 := Lib.hid e1
  have E2 := Lib.hid e2
  clear z1 z2 s1 b1 b2 e1 e2 hr
  unfold plC at *
  go_enter Try.func29, Try.ntmps29
  go_upto_region 1 with (fail)
  rw [← E1.out, ← E2.out]
  clear E1 E2
  refine wp_region_any (by kernel_rfl) ?_
  change wpAny _ _ _ _ _ _ _ w2.drew
  have hd := (Below.refl w2.heap.size w2).drew
  have HB3 := Lib.hid (ujoin HB.out hd)
  have HZ3 := Lib.hid ((hd.block _ (heap_lt' HZ1.out)).trans HZ1.out)
  have HZ4 := Lib.hid ((hd.block _ (heap_lt' HZ2.out)).trans HZ2.out)
  have HR3 := Lib.hid (HR.out.below hd)
  clear hd HB HZ1 HZ2 HR
  generalize w2.drew = V0 at HB3 HZ3 HZ4 HR3 ⊢
  have hS : Cel3 w.heap.size (.int .i64 W) (.int .i64 H) (.slice A n c) V0 := ⟨ucell HZ3.out 0, ucell HZ3.out 1, ucell HZ3.out 2⟩
  refine wpAny_of_K (S := Cel3 w.heap.size (.int .i64 W) (.int .i64 H) (.slice A n c)) (T := [7, 8]) _ _ _ _ ?_
  refine wpAnyK_take [1, 7, 8] (i := 0) (v := ?_) rfl (by kernel_rfl) (by kernel_rfl) (by kernel_rfl) (by kernel_rfl) (fun _ _ _ h => h) (Or.inl ⟨by rfl, ?_⟩) hS ?_
  rotate_left
  · intro W' hSw; obtain ⟨s0, s1, s2⟩ := hSw; go_simp; try (with_reducible rfl)
  simp only [Act.put, List.setIfInBounds_toArray, List.set_cons_zero, List.set_cons_succ]
  refine wpAnyK_take [7, 8] (i := 1) (v := ?_) rfl (by kernel_rfl) (by kernel_rfl) (by kernel_rfl) (by kernel_rfl) (fun _ _ _ h => h) (Or.inl ⟨by rfl, ?_⟩) hS ?_
  rotate_left
  · intro W' hSw; obtain ⟨s0, s1, s2⟩ := hSw; go_simp; try (with_reducible rfl)
  simp only [Act.put, List.setIfInBounds_toArray, List.set_cons_zero, List.set_cons_succ]
  refine wpAnyK_take [3, 7, 8] (i := 2) (v := ?_) rfl (by kernel_rfl) (by kernel_rfl) (by kernel_rfl) (by kernel_rfl) (fun _ _ _ h => h) (Or.inl ⟨by rfl, ?_⟩) hS ?_
  rotate_left
  · intro W' hSw; obtain ⟨s0, s1, s2⟩ := hSw; go_simp; try (with_reducible rfl)
  simp only [Act.put, List.setIfInBounds_toArray, List.set_cons_zero, List.set_cons_succ]
  refine wpAnyK_take [7, 8] (i := 3) (v := ?_) rfl (by kernel_rfl) (by kernel_rfl) (by kernel_rfl) (by kernel_rfl) (fun _ _ _ h => h) (Or.inl ⟨by rfl, ?_⟩) hS ?_
  rotate_left
  · intro W' hSw; obtain ⟨s0, s1, s2⟩ := hSw; go_simp; try (with_reducible rfl)
  simp only [Act.put, List.setIfInBounds_toArray, List.set_cons_zero, List.set_cons_succ]
  refine wpAnyK_take [5, 6, 7, 8] (i := 4) (v := ?_) rfl (by kernel_rfl) (by kernel_rfl) (by kernel_rfl) (by kernel_rfl) (fun _ _ _ h => h) (Or.inl ⟨by rfl, ?_⟩) hS ?_
  rotate_left
  · intro W' hSw; obtain ⟨s0, s1, s2⟩ := hSw; go_simp; try (with_reducible rfl)
  simp only [Act.put, List.setIfInBounds_toArray, List.set_cons_zero, List.set_cons_succ]
  refine wpAnyK_take [6, 7, 8] (i := 5) (v := ?_) rfl (by kernel_rfl) (by kernel_rfl) (by kernel_rfl) (by kernel_rfl) (fun _ _ _ h => h) (Or.inl ⟨by rfl, ?_⟩) hS ?_
  rotate_left
  · intro W' hSw; obtain ⟨s0, s1, s2⟩ := hSw; go_simp; try (with_reducible rfl)
  simp only [Act.put, List.setIfInBounds_toArray, List.set_cons_zero, List.set_cons_succ]
  obtain ⟨v', V', hrun, hO, hG, hV⟩ := run_appendU V0 w.heap.size 53 (.slice none 0 0) 0 x A n c x (OwnV.nil _ _ _) HB3.out.size HR3.out (by omega)
  have hO2 : OwnV V' w.heap.size v' n x := by
    unfold OwnV at hO ⊢
    rw [Nat.zero_add] at hO
    rw [show rowL n (catN x 0 x) = rowL n x by unfold rowL; apply List.map_congr_left; intro i _; simp [catN]] at hO
    exact hO
  have hBV : Below w.heap.size w V' := HB3.out.grown hG HB3.out.size (fun k e => by cases e)
  have hbk := hG.block (w.heap.size + 1) (heap_lt' HZ4.out) (fun e => by cases e)
  have HK := Lib.hid (hbk.trans HZ4.out)
  have hz1 := (hG.block w.heap.size (heap_lt' HZ3.out) (fun e => by cases e)).trans HZ3.out
  have hS2 : Cel3 w.heap.size (.int .i64 W) (.int .i64 H) (.slice A n c) V' := ⟨ucell hz1 0, ucell hz1 1, ucell hz1 2⟩
  clear hz1
  have HO2 := Lib.hid hO2
  have HBV := Lib.hid hBV
  have HNE : Hid (v'.ownBlock ≠ some (w.heap.size + 1)) := (show _ ≠ _ from fun e => by
    rcases hV with h | h
    · rw [h] at e; cases e
    · rw [h] at e
      injection e with e
      have := heap_lt' HZ4.out
      omega)
  obtain ⟨d1, d2, d3, d4, d5, d6⟩ := st3 HK.out (.int .i64 W) (.int .i64 H)
  obtain ⟨A9, c9, e9, -, -, -, -⟩ := hO2.row
  subst e9
  clear hO hO2 hG hV hBV hbk
  refine wpAnyK_ready (rs := [6]) (by kernel_rfl) (by simp) (ReadyK.cons rfl (fun K hK => ?_) ReadyK.nil)
  rw [if_pos (by rfl)]
  refine Go.Lib.wp_append_run _ _ _ 53 53 rfl _ _ rfl rfl _ V' hrun ?_
  simp only [Act.put, List.setIfInBounds_toArray, List.set_cons_zero, List.set_cons_succ]
  refine hK.out _ _ (fun _ => hS2) ?_
  clear hK K hrun
  refine wpAnyK_ready (rs := [7]) (by kernel_rfl) (by simp) (ReadyK.cons rfl (fun K hK => ?_) ReadyK.nil)
  rw [if_pos (by rfl)]
  go_simp
  refine hK.out _ _ (fun h => absurd h (by decide)) ?_
  clear hK K
  refine wpAnyK_ready (rs := [8]) (by kernel_rfl) (by simp) (ReadyK.cons rfl (fun K hK => ?_) ReadyK.nil)
  rw [if_pos (by rfl)]
  go_simp
  refine hK.out _ _ (fun h => absurd h (by decide)) ?_
  clear hK K
  refine wpAnyK_done (by kernel_rfl) ?_ _
  go_wp2
  have hO9 : OwnV (((V'.setCell ⟨w.heap.size + 1, 0, none⟩ (.int .i64 W)).setCell ⟨w.heap.size + 1, 1, none⟩ (.int .i64 H)).setCell ⟨w.heap.size + 1, 2, none⟩ (.slice A9 n c9)) w.heap.size (.slice A9 n c9) n x := HO2.out.far3 HNE.out
  refine bodyPost_ret (results_cell_row rfl _ _ (w.heap.size + 1) 55 _ (0, 0) _ rfl (st3_end HK.out) Try.underlying55 rfl (by kernel_rfl)) rfl ?_
  exact ⟨_, rfl, hO9, st3_below HBV.out (by omega)⟩
end Go.Proofs.Ytdcpeeolfgohmaa
