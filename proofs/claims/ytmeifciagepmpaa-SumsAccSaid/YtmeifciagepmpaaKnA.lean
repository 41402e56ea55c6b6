/- halidelaw3.known: its numbers. halidelaw3.known: the walk. halidelaw3.lent, stays. -/
import Derived.Test.YtmeifciagepmpaaDot
import Derived.Deep.AppendSrc
namespace Go.Proofs.Ytmeifciagepmpaa
open Go.RowKit Go.Proofs.YtmeifciagepmpaaW.PrintWords
set_option linter.unusedSimpArgs false
set_option linter.unusedVariables false

def ux (l : List Nat) : Nat → Nat := fun k => l.getD k 0
def zx (l : List Int) : Nat → Int := fun k => l.getD k 0
theorem k_left : leftOf (ux [1065353216, 864026624, 864026624]) 3 = 1065353216 := by decide +kernel
theorem k_pairs : pairsOf (ux [1065353216, 864026624, 864026624]) 3 = 1065353217 := by
  rw [pairsOf_more _ (by decide) (show 1 = 3 / 2 from rfl), pairsOf_one, pairsOf_more _ (by decide) (show 1 = (3 - 1) / 2 from rfl), pairsOf_one, pairsOf_one]
  decide +kernel
theorem k_exact : exactOf (ux [1065353216, 864026624, 864026624]) 3 = 1065353217 := by decide +kernel
theorem k_kahan : kahanOf (ux [1065353216, 864026624, 864026624]) 3 = 1065353217 := by decide +kernel
theorem k_left64 : leftOf64 (ux [1065353216, 864026624, 864026624]) 3 = 4607182419336888320 := by decide +kernel
theorem k_left2 : leftOf (ux [2130706432, 2130706432, 4278190080]) 3 = 2139095040 := by decide +kernel
theorem k_exact2 : exactOf (ux [2130706432, 2130706432, 4278190080]) 3 = 2130706432 := by decide +kernel
theorem k_exact3 : exactOf (ux [2147483648, 2147483648]) 2 = 2147483648 := by decide +kernel
theorem k_dot64 : dotOf64 (zx [1, -1]) (ux [1065353216, 864026624]) 2 = 4607182418263146496 := by decide +kernel
theorem k_dotB : dotB (zx [32768, 32768]) (ux [1065353216, 1077936128]) 2 = 4611686018427387904 := by decide +kernel
theorem k_dot : dotOf (zx [32768, 32768]) (ux [1065353216, 1077936128]) 2 = 1073741824 := by unfold dotOf; rw [k_dotB]; decide +kernel
theorem k_narrow : NarrowOk (dotB (zx [32768, 32768]) (ux [1065353216, 1077936128]) 2) := by
  rw [k_dotB]
  intro s m p _
  decide +kernel
def kA : Ac := acAll acNone (ux [1065353216, 1065353216, 1]) 3
theorem k_none : ovrV acNone (acNone.n : Int) = 0 ∧ ovrE (acNone.n : Int) = 33 := by decide +kernel
theorem k_mean : ovrV kA (kA.n : Int) = 1059760811 ∧ ovrE (kA.n : Int) = 0 := by decide +kernel
theorem k_sum : ovr kA 1 = 1073741824 := by decide +kernel
theorem k_n : kA.n = 3 ∧ (acPlus kA kA).n = 6 := by decide +kernel
theorem k_sum2 : ovr (acPlus kA kA) 1 = 1082130432 := by decide +kernel

def litU (l : List Nat) : Array Value := (l.map fun (a : Nat) => Value.int .u32 (a : Int)).toArray
def litZ (l : List Int) : Array Value := (l.map fun a => Value.int .i64 a).toArray
theorem lit_rowU (w : World) (t : TypeId) (l : List Nat) : RowU (w.alloc (.cells (litU l) t)) (some ⟨w.heap.size, 0, none⟩) l.length (ux l) := fun _ =>
  ⟨_, rfl, fun i hi => by
    rw [add_plain, ucell (heap_alloc_new w _)]
    simp [litU, ux, hi]⟩
theorem lit_rowZ (w : World) (t : TypeId) (l : List Int) : RowZ (w.alloc (.cells (litZ l) t)) (some ⟨w.heap.size, 0, none⟩) l.length (zx l) := fun _ =>
  ⟨_, rfl, fun i hi => by
    rw [add_plain, ucell (heap_alloc_new w _)]
    simp [litZ, zx, hi]⟩
theorem ux_lt {l : List Nat} (h : ∀ a ∈ l, a < 4294967296) (k : Nat) : ux l k < 4294967296 := by
  unfold ux
  rw [List.getD_eq_getElem?_getD]
  cases e : l[k]? with
  | none => decide
  | some a => exact h a (List.mem_of_getElem? e)
theorem below_alloc1 {w w' : World} {o : Obj} (h : Below (w.alloc o).heap.size (w.alloc o) w') : Below w.heap.size w w' := ujoin ((Below.refl _ _).alloc (Nat.le_refl _) _) h
theorem mono_g {w : World} {v u : Value} {e : Ending} {w' : World} (h : v = u) (hg : Gives w v e w') : Gives w u e w' := by rw [← h]; exact hg
theorem gives_alloc {w : World} {o : Obj} {v : Value} {e : Ending} {w' : World} (h : Gives (w.alloc o) v e w') : Gives w v e w' := ⟨h.1, below_alloc1 h.2⟩
theorem int_cast {k : IntKind} {a : Nat} {b : Int} (h : (a : Int) = b) : Value.int k (a : Int) = .int k b := by rw [h]

set_option maxHeartbeats 1600000 in
set_option maxRecDepth 100000 in
theorem known_calls (w : World) :
    Calls Try.prog 12 #[] w fun e w' => e = .returned (.bool true) ∧ Below w.heap.size w w' := by
  have L1 : ∀ a ∈ [1065353216, 864026624, 864026624], a < 4294967296 := by decide
  have L2 : ∀ a ∈ [2130706432, 2130706432, 4278190080], a < 4294967296 := by decide
  have L3 : ∀ a ∈ [2147483648, 2147483648], a < 4294967296 := by decide
  have L4 : ∀ a ∈ [1065353216, 864026624], a < 4294967296 := by decide
  have L5 : ∀ a ∈ [1065353216, 1077936128], a < 4294967296 := by decide
  have HL := Lib.hid fun W g (h : RowU W (some ⟨g, 0, none⟩) 3 (ux [1065353216, 864026624, 864026624])) => (pLeft_calls W _ 3 3 _ h (by decide) (by decide) fun k _ => ux_lt L1 k).mono fun e w' hg => mono_g (u := .int .u32 1065353216) (int_cast (by rw [k_left]; rfl)) hg
  have HP := Lib.hid fun W g (h : RowU W (some ⟨g, 0, none⟩) 3 (ux [1065353216, 864026624, 864026624])) => (pPairs_calls 3 W _ 3 _ h (by decide) (by decide) fun k _ => ux_lt L1 k).mono fun e w' hg => mono_g (u := .int .u32 1065353217) (int_cast (by rw [k_pairs]; rfl)) hg
  have HE := Lib.hid fun W g (h : RowU W (some ⟨g, 0, none⟩) 3 (ux [1065353216, 864026624, 864026624])) => (pExact_calls W _ 3 3 _ h (by decide) (by decide) fun k _ => ux_lt L1 k).mono fun e w' hg => mono_g (u := .int .u32 1065353217) (int_cast (by rw [k_exact]; rfl)) hg
  have HK := Lib.hid fun W g (h : RowU W (some ⟨g, 0, none⟩) 3 (ux [1065353216, 864026624, 864026624])) => (pKahan_calls W _ 3 3 _ h (by decide) (by decide) fun k _ => ux_lt L1 k).mono fun e w' hg => mono_g (u := .int .u32 1065353217) (int_cast (by rw [k_kahan]; rfl)) hg
  have H64 := Lib.hid fun W g (h : RowU W (some ⟨g, 0, none⟩) 3 (ux [1065353216, 864026624, 864026624])) => (pLeft64_calls W _ 3 3 _ h (by decide) (by decide) fun k _ => ux_lt L1 k).mono fun e w' hg => mono_g (u := .int .u64 4607182419336888320) (int_cast (by rw [k_left64]; rfl)) hg
  have HL2 : Hid (∀ (W : World) (t : TypeId), Calls Try.prog 14 #[.slice (some ⟨W.heap.size, 0, none⟩) 3 3] (W.alloc (.cells #[.int .u32 2130706432, .int .u32 2130706432, .int .u32 4278190080] t)) fun e w' => Gives W (.int .u32 2139095040) e w') := (show ∀ W t, _ from fun W t =>
    (pLeft_calls _ _ 3 3 _ (lit_rowU W t [2130706432, 2130706432, 4278190080]) (by decide) (by decide) fun k _ => ux_lt L2 k).mono fun e w' hg => mono_g (int_cast (by rw [k_left2]; rfl)) (gives_alloc hg))
  have HE2 : Hid (∀ (W : World) (t : TypeId), Calls Try.prog 23 #[.slice (some ⟨W.heap.size, 0, none⟩) 3 3] (W.alloc (.cells #[.int .u32 2130706432, .int .u32 2130706432, .int .u32 4278190080] t)) fun e w' => Gives W (.int .u32 2130706432) e w') := (show ∀ W t, _ from fun W t =>
    (pExact_calls _ _ 3 3 _ (lit_rowU W t [2130706432, 2130706432, 4278190080]) (by decide) (by decide) fun k _ => ux_lt L2 k).mono fun e w' hg => mono_g (int_cast (by rw [k_exact2]; rfl)) (gives_alloc hg))
  have HE3 : Hid (∀ (W : World) (t : TypeId), Calls Try.prog 23 #[.slice (some ⟨W.heap.size, 0, none⟩) 2 2] (W.alloc (.cells #[.int .u32 2147483648, .int .u32 2147483648] t)) fun e w' => Gives W (.int .u32 2147483648) e w') := (show ∀ W t, _ from fun W t =>
    (pExact_calls _ _ 2 2 _ (lit_rowU W t [2147483648, 2147483648]) (by decide) (by decide) fun k _ => ux_lt L3 k).mono fun e w' hg => mono_g (int_cast (by rw [k_exact3]; rfl)) (gives_alloc hg))
  have HD1 : Hid (∀ (W : World) (t s : TypeId), Calls Try.prog 25 #[.slice (some ⟨W.heap.size, 0, none⟩) 2 2, .slice (some ⟨W.heap.size + 1, 0, none⟩) 2 2] ((W.alloc (.cells #[.int .i64 1, .int .i64 (-1)] t)).alloc (.cells #[.int .u32 1065353216, .int .u32 864026624] s)) fun e w' => Gives W (.tuple #[.int .u64 4607182418263146496, .int .i64 0]) e w') := (show ∀ W t s, _ from fun W t s => by
    have hr := lit_rowU (W.alloc (.cells (litZ [1, -1]) t)) s [1065353216, 864026624]
    rw [World.size_alloc] at hr
    exact (pDot64_calls _ _ _ 2 2 2 _ _ ((lit_rowZ W t [1, -1]).below ((Below.refl _ _).alloc (Nat.le_refl _) _)) hr (by decide) (by decide) (by decide) (fun k _ => ux_lt L4 k) (fun k hk => by rcases (show k = 0 ∨ k = 1 by omega) with rfl | rfl <;> decide)).mono fun e w' hg => by
      rw [k_dot64] at hg
      exact gives_alloc (gives_alloc hg))
  have HD2 : Hid (∀ (W : World) (t s : TypeId), Calls Try.prog 27 #[.slice (some ⟨W.heap.size, 0, none⟩) 2 2, .slice (some ⟨W.heap.size + 1, 0, none⟩) 2 2] ((W.alloc (.cells #[.int .i64 32768, .int .i64 32768] t)).alloc (.cells #[.int .u32 1065353216, .int .u32 1077936128] s)) fun e w' => Gives W (.tuple #[.int .u32 1073741824, .int .i64 0]) e w') := (show ∀ W t s, _ from fun W t s => by
    have hr := lit_rowU (W.alloc (.cells (litZ [32768, 32768]) t)) s [1065353216, 1077936128]
    rw [World.size_alloc] at hr
    exact (pDot_calls _ _ _ 2 2 2 _ _ ((lit_rowZ W t [32768, 32768]).below ((Below.refl _ _).alloc (Nat.le_refl _) _)) hr (by decide) (by decide) (by decide) (fun k _ => ux_lt L5 k) (fun k hk => by rcases (show k = 0 ∨ k = 1 by omega) with rfl | rfl <;> decide) k_narrow).mono fun e w' hg => by
      rw [k_dot] at hg
      exact gives_alloc (gives_alloc hg))
  have HD3 : Hid (∀ (W : World) (t : TypeId), Calls Try.prog 25 #[.slice (some ⟨W.heap.size, 0, none⟩) 1 1, .slice none 0 0] (W.alloc (.cells #[.int .i64 1] t)) fun e w' => e = .returned (.tuple #[.int .u64 0, .int .i64 30]) ∧ W.alloc (.cells #[.int .i64 1] t) = w') := (show ∀ W t, _ from fun W t =>
    pDot64_short _ _ _ 1 0 1 0 (by decide) (by decide) (by decide))
  clear L1 L2 L3 L4 L5
  go_enter Try.func12, Try.ntmps12
  go_upto_region 2 with (fail)
  have HR1 : Hid (RowU (w.alloc (.cells #[.int .u32 1065353216, .int .u32 864026624, .int .u32 864026624] 25)) (some ⟨w.heap.size, 0, none⟩) 3 (ux [1065353216, 864026624, 864026624])) := lit_rowU w 25 [1065353216, 864026624, 864026624]
  have HB1 : Hid (Below w.heap.size w (w.alloc (.cells #[.int .u32 1065353216, .int .u32 864026624, .int .u32 864026624] 25))) := (show Below _ _ _ from (Below.refl _ _).alloc (Nat.le_refl _) _)
  generalize w.alloc (.cells #[.int .u32 1065353216, .int .u32 864026624, .int .u32 864026624] 25) = w1 at HR1 HB1 ⊢
  obtain ⟨g, eg⟩ : ∃ g, g = w.heap.size := ⟨_, rfl⟩
  rw [← eg] at HR1 ⊢
  clear eg
  go_upto_region 4 with (first
    | (go_at_call 14; (with_reducible refine (HL.out _ _ HR1.out).mono ?_); rintro e1 w2 ⟨rfl, hbel⟩; have HR2 := Lib.hid (HR1.out.below hbel); have HB2 := Lib.hid (ujoin HB1.out hbel); clear hbel)
    | (go_at_call 19; (with_reducible refine (HP.out _ _ HR2.out).mono ?_); rintro e1 w3 ⟨rfl, hbel⟩; have HR3 := Lib.hid (HR2.out.below hbel); have HB3 := Lib.hid (ujoin HB2.out hbel); clear hbel)
    | (go_at_call 23; (with_reducible refine (HE.out _ _ HR3.out).mono ?_); rintro e1 w4 ⟨rfl, hbel⟩; have HR4 := Lib.hid (HR3.out.below hbel); have HB4 := Lib.hid (ujoin HB3.out hbel); clear hbel)
    | (go_at_call 21; (with_reducible refine (HK.out _ _ HR4.out).mono ?_); rintro e1 w5 ⟨rfl, hbel⟩; have HR5 := Lib.hid (HR4.out.below hbel); have HB5 := Lib.hid (ujoin HB4.out hbel); clear hbel)
    | (go_at_call 16; (with_reducible refine (H64.out _ _ HR5.out).mono ?_); rintro e1 w6 ⟨rfl, hbel⟩; have HB6 := Lib.hid (ujoin HB5.out hbel); clear hbel HR1 HR2 HR3 HR4 HR5 HB1 HB2 HB3 HB4 HB5))
  clear HL HP HE HK H64
  go_wp2_with fail
  refine (HL2.out w6 _).mono ?_
  rintro e1 w7 ⟨rfl, hbel⟩
  have HB7 := Lib.hid (ujoin HB6.out hbel)
  clear hbel HB6 HL2
  go_wp2_with fail
  refine (HE2.out w7 _).mono ?_
  rintro e1 w8 ⟨rfl, hbel⟩
  have HB8 := Lib.hid (ujoin HB7.out hbel)
  clear hbel HB7 HE2
  go_wp2_with fail
  refine (HE3.out w8 _).mono ?_
  rintro e1 w9 ⟨rfl, hbel⟩
  have HB9 := Lib.hid (ujoin HB8.out hbel)
  clear hbel HB8 HE3
  go_wp2_with fail
  refine (HD1.out w9 _ _).mono ?_
  rintro e1 w10 ⟨rfl, hbel⟩
  have HB10 := Lib.hid (ujoin HB9.out hbel)
  clear hbel HB9 HD1
  go_wp2_with fail
  refine (HD2.out w10 _ _).mono ?_
  rintro e1 w11 ⟨rfl, hbel⟩
  have HB11 := Lib.hid (ujoin HB10.out hbel)
  clear hbel HB10 HD2
  go_wp2_with fail
  refine (HD3.out w11 _).mono ?_
  rintro e1 w12 ⟨rfl, ew⟩
  have HB12 : Hid (Below w.heap.size w w12) := (show Below _ _ _ by rw [← ew]; exact ujoin HB11.out ((Below.refl _ _).alloc (Nat.le_refl _) _))
  clear ew HB11 HD3
  have hsz := Lib.hid HB12.out.size
  go_wp2_with fail
  refine (new_calls _).mono ?_
  rintro e1 w13 ⟨ga, rfl, hg, hA, hbel⟩
  have HG : Hid (w.heap.size ≤ ga) := Nat.le_trans hsz.out hg
  have HA := Lib.hid hA
  have HB13 := Lib.hid (ujoin HB12.out hbel)
  clear hg hA hbel HB12 hsz
  go_wp2_with fail
  refine (acMean_calls _ ga acNone HA.out acOk_none (by decide)).mono ?_
  rw [k_none.1, k_none.2]
  rintro e1 w14 ⟨rfl, hbel⟩
  have HA2 := Lib.hid (HA.out.below hbel)
  have HB14 := Lib.hid (ujoin HB13.out hbel)
  clear hbel HA HB13
  go_wp2_with fail
  have HADD : Hid (∀ t, Calls Try.prog 32 #[.pointer (some ⟨ga, 0, none⟩), .slice (some ⟨w14.heap.size, 0, none⟩) 3 3] (w14.alloc (.cells #[.int .u32 1065353216, .int .u32 1065353216, .int .u32 1] t)) fun e w' => e = .returned (.tuple #[]) ∧ AcAt w' ga kA ∧ Below w.heap.size w w') := (show ∀ t, _ from fun t =>
    have h0 : Below w14.heap.size w14 (w14.alloc (.cells (litU [1065353216, 1065353216, 1]) t)) := (Below.refl _ _).alloc (Nat.le_refl _) _
    (acAdd_calls _ ga acNone _ 3 3 _ (HA2.out.below h0) acOk_none (by decide) (lit_rowU w14 t [1065353216, 1065353216, 1]) (fun _ ad e => by
      injection e with e
      subst e
      have := HA2.out.lt
      show w14.heap.size ≠ ga
      omega) (by decide) (fun k _ => ux_lt (by decide) k)).mono fun e w' ⟨h1, h2⟩ => ⟨h1, h2.at, (ujoin HB14.out h0).grown h2.gr (Nat.le_trans HB14.out.size h0.size) (fun k e => by injection e with e; rw [← e]; exact HG.out)⟩)
  refine (HADD.out _).mono ?_
  rintro e1 w15 ⟨rfl, hA, hbel⟩
  have HA3 := Lib.hid hA
  have HB15 := Lib.hid hbel
  clear hA hbel HADD HA2 HB14
  go_wp2_with fail
  refine (acCopy_calls _ ga kA HA3.out).mono ?_
  rintro e1 w16 ⟨gb, rfl, hg, hA, hbel⟩
  have HNE : Hid (ga ≠ gb) := (show _ ≠ _ by have := HA3.out.lt; omega)
  have HGB : Hid (w.heap.size ≤ gb) := (show _ ≤ _ by have := HB15.out.size; omega)
  have HA4 := Lib.hid (HA3.out.below hbel)
  have HC4 := Lib.hid hA
  have HB16 := Lib.hid (ujoin HB15.out hbel)
  clear hg hA hbel HA3 HB15
  go_wp2_with fail
  have HOK : Hid (AcOk kA) := acOk_none.all _ 3
  refine (acMerge_calls _ gb ga kA kA HC4.out HA4.out HOK.out HOK.out (by decide +kernel)).mono ?_
  rintro e1 w17 ⟨rfl, hA⟩
  have HC5 := Lib.hid hA.at
  have HA5 := Lib.hid (HA4.out.grown hA.gr HNE.out)
  have HB17 := Lib.hid (HB16.out.grown hA.gr HB16.out.size (fun k e => by injection e with e; rw [← e]; exact HGB.out))
  clear hA HC4 HA4 HB16
  go_wp2_with fail
  refine (acMean_calls _ ga kA HA5.out HOK.out (by decide +kernel)).mono ?_
  rw [k_mean.1, k_mean.2]
  rintro e1 w18 ⟨rfl, hbel⟩
  have HA6 := Lib.hid (HA5.out.below hbel)
  have HC6 := Lib.hid (HC5.out.below hbel)
  have HB18 := Lib.hid (ujoin HB17.out hbel)
  clear hbel HA5 HC5 HB17
  go_wp2_with fail
  refine (acSum_calls _ ga kA HA6.out HOK.out (by decide +kernel)).mono ?_
  rw [k_sum]
  rintro e1 w19 ⟨rfl, hbel⟩
  have HA7 := Lib.hid (HA6.out.below hbel)
  have HC7 := Lib.hid (HC6.out.below hbel)
  have HB19 := Lib.hid (ujoin HB18.out hbel)
  clear hbel HA6 HC6 HB18
  go_wp2_with fail
  refine (acCount_calls _ ga kA HA7.out).mono ?_
  rw [k_n.1]
  rintro e1 w20 ⟨rfl, rfl⟩
  go_wp2_with fail
  refine (acCount_calls _ gb _ HC7.out).mono ?_
  rw [k_n.2]
  rintro e1 w21 ⟨rfl, rfl⟩
  go_wp2_with fail
  refine (acSum_calls _ gb _ HC7.out (HOK.out.plus HOK.out) (by rw [k_n.2]; decide)).mono ?_
  rw [k_sum2]
  rintro e1 w22 ⟨rfl, hbel⟩
  have HB22 := Lib.hid (ujoin HB19.out hbel)
  clear hbel HA7 HC7 HB19
  go_wp2_with fail
  go_ret
  exact ⟨rfl, HB22.out⟩

def lentF (x : Nat → Nat) (n : Nat) : Nat → Nat := fun k => if k < n then x k else if k = n then 2882338817 else 2882338818
def rowL (n : Nat) (x : Nat → Nat) : List Value := (List.range n).map fun k => .int .u32 ((x k : Nat) : Int)
theorem rowL_get (n : Nat) (x : Nat → Nat) (j : Nat) (u : Value) (h : (rowL n x)[j]? = some u) : j < n ∧ u = .int .u32 ((x j : Nat) : Int) := by
  have hj : j < n := by
    rcases Nat.lt_or_ge j n with h1 | h1
    · exact h1
    · rw [List.getElem?_eq_none (by simp [rowL]; exact h1)] at h; cases h
  refine ⟨hj, ?_⟩
  simp [rowL, hj] at h
  exact h.symm
theorem arrU_congr {n : Nat} {f g : Nat → Nat} (h : ∀ k, k < n → f k = g k) : arrU n f = arrU n g := by
  apply Array.ext
  · simp [arrU]
  · intro i h1 h2
    have hi : i < n := by simpa [arrU] using h2
    simp [arrU, h i hi]
theorem lent_row (n : Nat) (x : Nat → Nat) : ((arrU (n + 2) (fun _ => 0)).toList.take (0 * 1) ++ rowL n x ++ (arrU (n + 2) (fun _ => 0)).toList.drop (0 * 1 + (rowL n x).length)).toArray = arrU (n + 2) (fun k => if k < n then x k else 0) := by
  apply Array.ext
  · simp [arrU, rowL]
  · intro i h1 h2
    have hi : i < n + 2 := by simpa [arrU] using h2
    by_cases h : i < n
    · simp [arrU, rowL, h, List.getElem_append]
    · simp [arrU, rowL, h, List.getElem_append]
set_option maxRecDepth 100000 in
theorem run_lent (W : World) (g n c : Nat) (A : Option Addr) (x : Nat → Nat) (ty : TypeId) (hg : W.heap[g]? = some (.cells (arrU (n + 2) (fun _ => 0)) 25 (0, 0))) (hr : RowU W A n x) :
    ∃ w', (Builtin.append_ #[23, 23] ty #[.slice (some ⟨g, 0, none⟩) 0 (n + 2), .slice A n c]).run Try.prog W = .ok (.slice (some ⟨g, 0, none⟩) n (n + 2)) w' ∧ w'.heap[g]? = some (.cells (arrU (n + 2) (fun k => if k < n then x k else 0)) 25 (0, 0)) ∧ W.grownBy w' (some g) := by
  obtain ⟨i, hi, hz⟩ := Option.map_eq_some_iff.1 u_info
  simp only [Prod.mk.injEq] at hz
  cases A with
  | none =>
    rcases Nat.eq_zero_or_pos n with h0 | h0
    · subst h0
      refine ⟨W, ?_, ?_, World.grownBy.refl W _⟩
      · have := run_append_room_src (P := Try.prog) W 23 23 ty 25 i Try.underlying23 hi g 0 0 2 (.slice none 0 c) 0 [] (Src.ofNil W Try.underlying23 c) (by decide) (fun j h => by cases h) (fun j h => by cases h)
        simpa [World.setCells] using this
      · rw [hg]; rfl
    · obtain ⟨ad, e, _⟩ := hr h0
      cases e
  | some ad =>
    have hc : ∀ j u, (rowL n x)[j]? = some u → W.cell? (ad.add j) = some u := fun j u h => by
      obtain ⟨h1, h2⟩ := rowL_get n x j u h
      obtain ⟨ad', e, hc⟩ := hr (by omega)
      injection e with e
      subst e
      rw [h2, hc j h1]
    have hlen : (rowL n x).length = n := by simp [rowL]
    have := run_append_room (P := Try.prog) W 23 ty 25 i Try.underlying23 hi g 0 (n + 2) (arrU (n + 2) (fun _ => 0)) hg ad n c (rowL n x) (by rw [hlen, hz.2.1, Nat.mul_one]) hc (fun u hu => by
      simp only [rowL, List.mem_map] at hu
      obtain ⟨k, _, rfl⟩ := hu
      rfl) (by omega) (by rw [hlen, Nat.zero_mul]; simp [arrU])
    rw [Nat.zero_add, hz.2.1, lent_row] at this
    exact ⟨_, this, setRow_heap W g _ _ _ _ hg, ⟨rfl, rfl, rfl, by simp, fun k _ hk => setRow_other W g k _ (fun e => hk (by simp [e]))⟩⟩
theorem wpList_append_run {P : Program} {ops : Array Oper} {rest : List Oper} {o : Oper} {a : Act} {w : World} {Q : Exit → Act → World → Prop} (hgd : o.guard = none) (s x : Operand) (t : TypeId)
    (ho : o.op = .call { callee := .builtin .append, args := #[s, x], argTypes := #[t, t] }) (vs vx : Value) (hs : a.eval s = vs) (hx : a.eval x = vx) (v : Value) (w' : World)
    (hr : (Builtin.append_ #[t, t] o.type #[vs, vx]).run P w = .ok v w') (h : wpList P ops Q rest (a.put o.dst v) w') : wpList P ops Q (o :: rest) a w :=
  wpList_plain hgd fun _ hK => by
    unfold Oper.wp execOp
    simp only [ho, resolve, invoke, builtin, Sem.run_bind, Sem.run_pure, Result.andThen_ok, List.map_toArray, List.map_cons, List.map_nil, hs, hx, hr]
    exact hK _ _ h
theorem u_make0 (n : Nat) (hn : n ≤ 1000000000) (W : World) :
    (Instr.makeSlice 23 (.int .i64 0) (.int .i64 ((n : Int) + 2))).run Try.prog W = .ok (.slice (some ⟨W.heap.size, 0, none⟩) 0 (n + 2)) (W.alloc (.cells (arrU (n + 2) (fun _ => 0)) 25)) := by
  obtain ⟨i, hi, hz⟩ := Option.map_eq_some_iff.1 u_info
  simp only [Prod.mk.injEq] at hz
  have h := run_make (P := Try.prog) W 23 25 i (.int .u32 0) Try.underlying23 hi hz.1 .i64 .i64 0 (n + 2) (by omega) (by omega) (by rw [hz.2.2]; omega) (by omega)
  rw [hz.2.1] at h
  rw [← arrU_made]
  have e : ((n : Int) + 2).toNat = n + 2 := by omega
  simpa [Value.cells, e] using h
def LentEnd (w : World) (n : Nat) (x : Nat → Nat) (e : Ending) (w' : World) : Prop :=
  ∃ g, e = .returned (.slice (some ⟨g, 0, none⟩) n (n + 2)) ∧ w.heap.size ≤ g ∧ w'.heap[g]? = some (.cells (arrU (n + 2) (lentF x n)) 25 (0, 0)) ∧ Below w.heap.size w w'

set_option maxHeartbeats 1600000 in
set_option maxRecDepth 100000 in
theorem lent_calls (w : World) (A : Option Addr) (n c : Nat) (x : Nat → Nat) (hr : RowU w A n x) (hc : n ≤ c) (hn : n ≤ 100000000) :
    Calls Try.prog 13 #[.slice A n c] w fun e w' => LentEnd w n x e w' := by
  have hmk := u_make0 n (by omega) w
  have W1 : IntKind.i64.wrap ((n : Int) + 2) = (n : Int) + 2 := IntWalk.i64_in _ (by omega)
  obtain ⟨w2, hrun, hbl, hgr⟩ := run_lent (w.alloc (.cells (arrU (n + 2) (fun _ => 0)) 25)) w.heap.size n c A x 23 (heap_alloc_new w _) (hr.below ((Below.refl _ _).alloc (Nat.le_refl _) _))
  have HB2 : Hid (Below w.heap.size w w2) := ((Below.refl w.heap.size w).alloc (Nat.le_refl _) _).grown hgr (by simp) (fun k e => by injection e with e; omega)
  have f1 : w2.cell? ⟨w.heap.size, n, none⟩ = some (.int .u32 0) := (ucell hbl n).trans (by rw [arrU_get _ _ _ (by omega), if_neg (by omega)]; rfl)
  have f2 : w2.cell? ⟨w.heap.size, n + 1, none⟩ = some (.int .u32 0) := (ucell hbl (n + 1)).trans (by rw [arrU_get _ _ _ (by omega), if_neg (by omega)]; rfl)
  have z1 : w2.frozen? ⟨w.heap.size, n, none⟩ = false := ufree hbl n
  have z2 : w2.frozen? ⟨w.heap.size, n + 1, none⟩ = false := ufree hbl (n + 1)
  have HEND : Hid (((w2.setCell ⟨w.heap.size, n, none⟩ (.int .u32 2882338817)).setCell ⟨w.heap.size, n + 1, none⟩ (.int .u32 2882338818)).heap[w.heap.size]? = some (.cells (arrU (n + 2) (lentF x n)) 25 (0, 0)) ∧ Below w.heap.size w ((w2.setCell ⟨w.heap.size, n, none⟩ (.int .u32 2882338817)).setCell ⟨w.heap.size, n + 1, none⟩ (.int .u32 2882338818))) := (show _ ∧ _ from by
    refine ⟨?_, (HB2.out.setCell (p := ⟨w.heap.size, n, none⟩) (Nat.le_refl _) _).setCell (p := ⟨w.heap.size, n + 1, none⟩) (Nat.le_refl _) _⟩
    have h1 := uset (uset hbl n 2882338817) (n + 1) 2882338818
    refine h1.trans ?_
    rw [arrU_congr (f := updN (updN (fun k => if k < n then x k else 0) n 2882338817) (n + 1) 2882338818) (g := lentF x n) fun k hk => ?_]
    unfold updN lentF
    by_cases e1 : k = n + 1
    · rw [if_pos e1, if_neg (by omega), if_neg (by omega)]
    · rw [if_neg e1]
      by_cases e2 : k = n
      · rw [if_pos e2, if_neg (by omega), if_pos e2]
      · rw [if_neg e2]
        have e3 : k < n := by omega
        show (if k < n then x k else 0) = _
        rw [if_pos e3, if_pos e3])
  have HRUN := Lib.hid hrun
  clear hr hgr hbl hrun
  unfold LentEnd
  go_enter Try.func13, Try.ntmps13
  go_wp2_with (at_builtin; refine wpList_append_run rfl _ _ 23 rfl _ _ rfl rfl _ w2 HRUN.out ?_)
  go_ret
  exact ⟨_, rfl, Nat.le_refl _, HEND.out.1, HEND.out.2⟩

set_option maxHeartbeats 1600000 in
set_option maxRecDepth 100000 in
theorem stays_calls (w : World) (g : Nat) (A : Option Addr) (n c : Nat) (x : Nat → Nat) (hg : w.heap[g]? = some (.cells (arrU (n + 2) (lentF x n)) 25 (0, 0))) (hr : RowU w A n x) (hn : n ≤ 100000000) :
    Calls Try.prog 18 #[.slice (some ⟨g, 0, none⟩) n (n + 2), .slice A n c] w fun e w' => e = .returned (.bool true) ∧ Drawn0 w w' := by
  have HC : Hid (∀ k, k < n + 2 → w.cell? ⟨g, k, none⟩ = some (.int .u32 ((lentF x n k : Nat) : Int))) := (show ∀ k, _ → _ from fun k hk => (ucell hg k).trans (arrU_get _ _ _ hk))
  have f1 : Hid (w.cell? ⟨g, n, none⟩ = some (.int .u32 2882338817)) := (show _ = _ by rw [HC.out n (by omega), show lentF x n n = 2882338817 by unfold lentF; rw [if_neg (by omega), if_pos rfl]]; rfl)
  have f2 : Hid (w.cell? ⟨g, n + 1, none⟩ = some (.int .u32 2882338818)) := (show _ = _ by rw [HC.out (n + 1) (by omega), show lentF x n (n + 1) = 2882338818 by unfold lentF; rw [if_neg (by omega), if_neg (by omega)]]; rfl)
  have HR := Lib.hid hr
  have hb : ((n : Int) != (n : Int)) = false := by rw [bne_eq_false_iff_eq]
  have W1 : IntKind.i64.wrap ((n : Int) + 2) = (n : Int) + 2 := IntWalk.i64_in _ (by omega)
  have g1 : ¬ ((n + 2 : Nat) : Int) < (n : Int) + 2 := by omega
  clear hr hg
  go_enter Try.func18, Try.ntmps18
  go_wp2
  go_loopg [5] n (fun kq v5 wr => ∃ k : Nat, v5 = .int .i64 (k : Int) ∧ k ≤ n ∧ n ≤ k + kq ∧ Aside (Drawn0 w wr))
  case atStart => exact ⟨0, by first | rfl | go_num, by omega, by omega, Drawn0.refl _⟩
  case round =>
    obtain ⟨k, rfl, hk, hkq, HB⟩ := hrel
    by_cases hlt : k < n
    · have hltz : (k : Int) < (n : Int) := by omega
      have hk0 : (0 : Int) ≤ (k : Int) := by omega
      obtain ⟨ad, rfl, hca⟩ := HR.out (by omega)
      have c1 := HC.out k (by omega)
      have c2 := hca k hlt
      have e : lentF x n k = x k := if_pos hlt
      rw [e] at c1
      obtain ⟨a, ea⟩ : ∃ a, a = x k := ⟨_, rfl⟩
      rw [← ea] at c1 c2
      have d1 : wr.cell? ⟨g, k, none⟩ = some (.int .u32 (a : Int)) := by obtain ⟨q, rfl⟩ := HB.out.out; exact c1
      have d2 : wr.cell? (ad.add k) = some (.int .u32 (a : Int)) := by obtain ⟨q, rfl⟩ := HB.out.out; exact c2
      have hb2 : ((a : Int) != (a : Int)) = false := by rw [bne_eq_false_iff_eq]
      clear e ea c1 c2 hca hlt
      go_wp2
      go_quiet (fail)
      go_wp2
      go_roundg (n - (k + 1))
      case measure => omega
      case rel => exact ⟨k + 1, by go_num, by omega, by omega, HB.out.step _⟩
    · have hltz : ¬ (k : Int) < (n : Int) := by omega
      have d1 : wr.cell? ⟨g, n, none⟩ = some (.int .u32 2882338817) := by obtain ⟨q, rfl⟩ := HB.out.out; exact f1.out
      have d2 : wr.cell? ⟨g, n + 1, none⟩ = some (.int .u32 2882338818) := by obtain ⟨q, rfl⟩ := HB.out.out; exact f2.out
      clear hlt
      go_wp2
      go_ret
      exact ⟨rfl, HB.out⟩
end Go.Proofs.Ytmeifciagepmpaa
