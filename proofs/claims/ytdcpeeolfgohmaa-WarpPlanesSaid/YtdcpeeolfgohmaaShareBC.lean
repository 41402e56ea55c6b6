/- kernel.shares: the whole shared by weights: the first half: what is rounded down. kernel.Share. -/
import Derived.Test.YtdcpeeolfgohmaaShareA
import Derived.Test.YtdcpeeolfgohmaaTop
import Derived.Deep.OwnRows
import Derived.Deep.DeepCutAuto
import Derived.Deep.CutBlock
import Derived.Deep.RegionWith
namespace Go.Proofs.Ytdcpeeolfgohmaa
open Go.RowKit
set_option linter.unusedSimpArgs false
set_option linter.unusedVariables false

theorem info_int : (Try.prog.info? 3).map (fun i => (i.zero, i.size, i.bytes)) = some (some (.int .i64 0), 1, 8) := by kernel_rfl

theorem make_ints (n : Nat) (hn : n ≤ 1000000000) (W : World) :
    (Instr.makeSlice 93 (.int .i64 (n : Int)) (.int .i64 (n : Int))).run Try.prog W = .ok (.slice (some ⟨W.heap.size, 0, none⟩) n n) (W.alloc (.cells (madeCells #[.int .i64 0] n) 3)) := by
  obtain ⟨i, hi, hz⟩ := Option.map_eq_some_iff.1 info_int
  simp only [Prod.mk.injEq] at hz
  have h := run_make (P := Try.prog) W 93 3 i (.int .i64 0) Try.underlying93 hi hz.1 .i64 .i64 n n (by omega) (by omega) (by rw [hz.2.2]; omega) (by omega)
  rw [hz.2.1] at h
  simpa [Value.cells] using h

/-! ### Blocks -/
/-- A row of n numbers told by a function. -/
def arrI (n : Nat) (f : Nat → Int) : Array Value := (Array.range n).map fun i => .int .i64 (f i)
theorem arrI_made (n : Nat) : madeCells #[.int .i64 0] n = arrI n (fun _ => 0) := by
  apply Array.ext
  · simp [madeCells, arrI]
  · intro i h1 h2
    simp [madeCells, arrI, Nat.mod_one]
theorem arrI_set (n : Nat) (f : Nat → Int) (i : Nat) (v : Int) : (arrI n f).setIfInBounds i (.int .i64 v) = arrI n (upd f i v) := by
  apply Array.ext
  · simp [arrI]
  · intro j h1 h2
    simp [arrI, upd] at *
    by_cases e : i = j
    · subst e; simp
    · have hj : j < n := by simpa [arrI] using h2
      rw [Array.getElem_setIfInBounds_ne _ e] <;> simp [Ne.symm e, hj]
theorem arrI_get (n : Nat) (f : Nat → Int) (i : Nat) (h : i < n) : (arrI n f)[i]? = some (.int .i64 (f i)) := by simp [arrI, h]

theorem heap_alloc_if (w : World) (o : Obj) (k : Nat) : (w.alloc o).heap[k]? = if k = w.heap.size then some o else w.heap[k]? := by
  by_cases h : k = w.heap.size
  · rw [if_pos h, h]; exact heap_alloc_new w o
  · rw [if_neg h]
    rcases Nat.lt_or_ge k w.heap.size with h1 | h1
    · exact Below.heap_alloc w o k h1
    · rw [Array.getElem?_eq_none (by simp; omega), Array.getElem?_eq_none (by omega)]
theorem heap_drew (w : World) : w.drew.heap = w.heap := rfl
theorem bcell {w : World} {g : Nat} {t : TypeId} {cs : Array Value} (h : w.heap[g]? = some (.cells cs t (0, 0))) (i : Nat) : w.cell? ⟨g, i, none⟩ = cs[i]? := cell_of_row w g i cs t (0, 0) h
theorem bfree {w : World} {g : Nat} {t : TypeId} {cs : Array Value} (h : w.heap[g]? = some (.cells cs t (0, 0))) (i : Nat) : w.frozen? ⟨g, i, none⟩ = false := by simp [World.frozen?, h]
theorem bset {w : World} {g : Nat} {t : TypeId} {cs : Array Value} (h : w.heap[g]? = some (.cells cs t (0, 0))) (i : Nat) (u : Value) : (w.setCell ⟨g, i, none⟩ u).heap[g]? = some (.cells (cs.setIfInBounds i u) t (0, 0)) := by
  simp [World.setCell, Array.getElem?_modify, h]
theorem bsetI {w : World} {g n : Nat} {t : TypeId} {f : Nat → Int} (h : w.heap[g]? = some (.cells (arrI n f) t (0, 0))) (i : Nat) (v : Int) : (w.setCell ⟨g, i, none⟩ (.int .i64 v)).heap[g]? = some (.cells (arrI n (upd f i v)) t (0, 0)) := by
  rw [bset h, arrI_set]
theorem bfar {w : World} {g : Nat} {o : Obj} (h : w.heap[g]? = some o) {b i : Nat} (hne : g ≠ b) (u : Value) : (w.setCell ⟨b, i, none⟩ u).heap[g]? = some o := (Below.heap_setCell w _ u g hne).trans h

/-- The world within kernel.shares: the boxes of w, sum and out; the rows of out and order. -/
structure ShW (w0 : World) (n c : Nat) (ad : Addr) (s : Int) (bx bo bd : Nat) (out ord : Nat → Int) (W : World) : Prop where
  below : Below w0.heap.size w0 W
  hx : w0.heap.size + 1 < bx
  ho : w0.heap.size + 1 < bo
  hd : w0.heap.size + 1 < bd
  xo : bx ≠ bo
  xd : bx ≠ bd
  od : bo ≠ bd
  iw : W.heap[w0.heap.size]? = some (.cells #[.slice (some ad) n c] 93 (0, 0))
  is : W.heap[w0.heap.size + 1]? = some (.cells #[.int .i64 s] 3 (0, 0))
  ix : W.heap[bx]? = some (.cells #[.slice (some ⟨bo, 0, none⟩) n n] 93 (0, 0))
  io : W.heap[bo]? = some (.cells (arrI n out) 3 (0, 0))
  id : W.heap[bd]? = some (.cells (arrI n ord) 3 (0, 0))

section
variable {w0 W : World} {n c : Nat} {ad : Addr} {s : Int} {bx bo bd : Nat} {out ord : Nat → Int}
theorem ShW.drew (h : ShW w0 n c ad s bx bo bd out ord W) : ShW w0 n c ad s bx bo bd out ord W.drew :=
  ⟨h.below.drew, h.hx, h.ho, h.hd, h.xo, h.xd, h.od, h.iw, h.is, h.ix, h.io, h.id⟩
theorem ShW.setOut (h : ShW w0 n c ad s bx bo bd out ord W) (i : Nat) (v : Int) : ShW w0 n c ad s bx bo bd (upd out i v) ord (W.setCell ⟨bo, i, none⟩ (.int .i64 v)) :=
  ⟨h.below.setCell (by have := h.ho; show _ ≤ bo; omega) _, h.hx, h.ho, h.hd, h.xo, h.xd, h.od, bfar h.iw (by have := h.ho; omega) _, bfar h.is (by have := h.ho; omega) _, bfar h.ix h.xo _, bsetI h.io i v, bfar h.id (Ne.symm h.od) _⟩
theorem ShW.setOrd (h : ShW w0 n c ad s bx bo bd out ord W) (i : Nat) (v : Int) : ShW w0 n c ad s bx bo bd out (upd ord i v) (W.setCell ⟨bd, i, none⟩ (.int .i64 v)) :=
  ⟨h.below.setCell (by have := h.hd; show _ ≤ bd; omega) _, h.hx, h.ho, h.hd, h.xo, h.xd, h.od, bfar h.iw (by have := h.hd; omega) _, bfar h.is (by have := h.hd; omega) _, bfar h.ix h.xd _, bfar h.io h.od _, bsetI h.id i v⟩
end

/-- A sum of the first ones. -/
def sumTo (f : Nat → Int) : Nat → Int
  | 0 => 0
  | k + 1 => sumTo f k + f k

/-- A share, rounded down. -/
def shOf (x : Nat → Int) (s : Int) (k : Nat) : Int := 65536 * x k / s

theorem div_bd (a s : Int) {A : Int} (hs : 1 ≤ s) (h1 : -A ≤ a) (h2 : a ≤ A) : -A ≤ a / s ∧ a / s ≤ A := by
  constructor
  · rw [Int.le_ediv_iff_mul_le (by omega)]
    have h3 : 0 ≤ A * (s - 1) := Int.mul_nonneg (by omega) (by omega)
    have e : A * (s - 1) = A * s - A := by rw [Int.mul_sub]; omega
    have e2 : -A * s = -(A * s) := by rw [Int.neg_mul]
    omega
  · rcases Int.lt_or_le a 0 with h | h
    · have := Int.ediv_neg_of_neg_of_pos h (by omega : 0 < s); omega
    · have := Int.ediv_le_self s h; omega
theorem sumTo_bd {f : Nat → Int} {n : Nat} {B : Int} (hB : 0 ≤ B) (h : ∀ k, k < n → -B ≤ f k ∧ f k ≤ B) : ∀ i, i ≤ n → -((i : Int) * B) ≤ sumTo f i ∧ sumTo f i ≤ (i : Int) * B
  | 0, _ => by simp [sumTo]
  | i + 1, hi => by
    have h1 := sumTo_bd hB h i (by omega)
    have h2 := h i (by omega)
    have e : ((i + 1 : Nat) : Int) * B = (i : Int) * B + B := by rw [show ((i + 1 : Nat) : Int) = (i : Int) + 1 by omega, Int.add_mul]; omega
    rw [sumTo, e]
    omega
theorem sh_bd {x : Nat → Int} {s : Int} {k : Nat} (hs : 1 ≤ s) (h : -1099511627776 ≤ x k ∧ x k ≤ 1099511627776) : -72057594037927936 ≤ shOf x s k ∧ shOf x s k ≤ 72057594037927936 :=
  div_bd (65536 * x k) s hs (by omega) (by omega)

theorem rest_sum {x : Nat → Int} {s : Int} (hs : 1 ≤ s) : ∀ i, 0 ≤ 65536 * sumTo x i - s * sumTo (shOf x s) i ∧ 65536 * sumTo x i - s * sumTo (shOf x s) i ≤ (i : Int) * (s - 1)
  | 0 => by simp [sumTo]
  | i + 1 => by
    have h := rest_sum (x := x) hs i
    have h1 := Int.emod_nonneg (65536 * x i) (by omega : s ≠ 0)
    have h2 := Int.emod_lt_of_pos (65536 * x i) (by omega : 0 < s)
    have h3 := Int.mul_ediv_add_emod (65536 * x i) s
    have e : s * (sumTo (shOf x s) i + shOf x s i) = s * sumTo (shOf x s) i + s * (65536 * x i / s) := by rw [Int.mul_add]; rfl
    have e2 : ((i + 1 : Nat) : Int) * (s - 1) = (i : Int) * (s - 1) + (s - 1) := by rw [show ((i + 1 : Nat) : Int) = (i : Int) + 1 by omega, Int.add_mul]; omega
    rw [sumTo, sumTo, e, e2]
    omega
/-- What rounding down leaves: fewer than there are. -/
theorem left_bd {x : Nat → Int} {s : Int} {n : Nat} (hs : 1 ≤ s) (hn : 1 ≤ n) (hsum : s = sumTo x n) : 0 ≤ 65536 - sumTo (shOf x s) n ∧ 65536 - sumTo (shOf x s) n < n := by
  have h := rest_sum (x := x) hs n
  rw [← hsum] at h
  obtain ⟨z, hz⟩ : ∃ z, z = sumTo (shOf x s) n := ⟨_, rfl⟩
  rw [← hz] at h ⊢
  have e : 65536 * s - s * z = s * (65536 - z) := by rw [Int.mul_sub, Int.mul_comm s 65536]
  rw [e] at h
  constructor
  · rcases Int.lt_or_le (65536 - z) 0 with h1 | h1
    · have := Int.mul_neg_of_pos_of_neg (by omega : 0 < s) h1; omega
    · exact h1
  · rcases Int.lt_or_le (65536 - z) n with h1 | h1
    · exact h1
    · have h2 := Int.mul_le_mul_of_nonneg_left h1 (by omega : 0 ≤ s)
      have e2 : (n : Int) * (s - 1) = s * n - n := by rw [Int.mul_sub, Int.mul_comm]; omega
      omega

theorem arrI_congr {n : Nat} {f g : Nat → Int} (h : ∀ k, k < n → f k = g k) : arrI n f = arrI n g := by
  apply Array.ext
  · simp [arrI]
  · intro i h1 h2
    have : i < n := by simpa [arrI] using h1
    simp [arrI, h i this]

/-- The rests, as keys. -/
def keyOf (x : Nat → Int) (s : Int) : Int → Int := restOf x (shOf x s) s
/-- A new row: each share rounded down, those of the greatest rests raised. -/
structure SharedIn (w : World) (n : Nat) (x : Nat → Int) (s : Int) (bo : Nat) (S : Nat → Bool) (w' : World) : Prop where
  lo : w.heap.size ≤ bo
  io : w'.heap[bo]? = some (.cells (arrI n fun k => shOf x s k + ((S k).toNat : Int)) 3 (0, 0))
  be : Below w.heap.size w w'
  ts : TopSet (keyOf x s) n (65536 - sumTo (shOf x s) n).toNat S
/-- What kernel.shares leaves. -/
def Shared (w : World) (n : Nat) (x : Nat → Int) (s : Int) (e : Ending) (w' : World) : Prop :=
  ∃ (bo : Nat) (S : Nat → Bool), e = .returned (.slice (some ⟨bo, 0, none⟩) n n) ∧ SharedIn w n x s bo S w'

set_option maxHeartbeats 1600000 in
set_option maxRecDepth 100000 in
theorem shares_calls (w : World) (n c : Nat) (x : Nat → Int) (s : Int) (ad : Addr) (hn0 : 1 ≤ n) (hn : n ≤ 64) (hs0 : 1 ≤ s) (hs1 : s ≤ 1125899906842624) (hsum : s = sumTo x n)
    (hr : ∀ i, i < n → w.cell? (ad.add i) = some (.int .i64 (x i))) (hb : ∀ i, i < n → -1099511627776 ≤ x i ∧ x i ≤ 1099511627776) :
    Calls Try.prog 94 #[.slice (some ad) n c, .int .i64 s] w
      fun e w' => Shared w n x s e w' := by
  have HM := Lib.hid (make_ints n (by omega))
  have HR := Lib.hid hr
  have HB := Lib.hid hb
  have HSUM := Lib.hid hsum
  clear hr hb hsum
  go_enter Try.func94, Try.ntmps94
  go_upto_region 1 with (fail)
  go_cut [5, 6, 7] (fun v5 v6 v7 wc => ∃ bx bo bd : Nat, v5 = .pointer (some ⟨bx, 0, none⟩) ∧ v6 = .int .i64 65536 ∧ v7 = .slice (some ⟨bd, 0, none⟩) n n ∧ Aside (ShW w n c ad s bx bo bd (fun _ => 0) (fun _ => 0) wc))
  case first =>
    have hm := HM.out
    clear HM
    rw [arrI_made] at hm
    go_region
    all_goals go_wp2_with fail
    all_goals go_meet
    all_goals
      case rel =>
        first
        | (refine ⟨_, w.heap.size + 1 + 1, _, rfl, rfl, rfl, ?_⟩; refine (show ShW _ _ _ _ _ _ _ _ _ _ _ from ?_); constructor <;> first | omega | (simp (disch := omega) only [heap_drew, heap_alloc_if, World.size_alloc, if_neg, ↓reduceIte]; done) | ((repeat (first | exact Below.refl _ _ | apply Below.drew | refine Below.alloc ?_ ?_ _)) <;> (simp <;> omega)))
        | (refine ⟨_, w.heap.size + 1 + 1 + 1, _, rfl, rfl, rfl, ?_⟩; refine (show ShW _ _ _ _ _ _ _ _ _ _ _ from ?_); constructor <;> first | omega | (simp (disch := omega) only [heap_drew, heap_alloc_if, World.size_alloc, if_neg, ↓reduceIte]; done) | ((repeat (first | exact Below.refl _ _ | apply Below.drew | refine Below.alloc ?_ ?_ _)) <;> (simp <;> omega)))
        | (refine ⟨_, w.heap.size + 1 + 1 + 1 + 1, _, rfl, rfl, rfl, ?_⟩; refine (show ShW _ _ _ _ _ _ _ _ _ _ _ from ?_); constructor <;> first | omega | (simp (disch := omega) only [heap_drew, heap_alloc_if, World.size_alloc, if_neg, ↓reduceIte]; done) | ((repeat (first | exact Below.refl _ _ | apply Below.drew | refine Below.alloc ?_ ?_ _)) <;> (simp <;> omega)))
  case rest =>
    obtain ⟨bx, bo, bd, rfl, rfl, rfl, HW⟩ := hcut
    have l1 := bcell HW.out.iw 0
    have l2 := bcell HW.out.ix 0
    simp only [List.getElem?_toArray, List.getElem?_cons_zero] at l1 l2
    go_wp2_with fail
    clear l1 l2
    go_loopg [6, 8, 9, 20] n (fun k v6 v8 v9 v20 wr => ∃ (i : Nat) (out ord : Nat → Int), v20 = .int .i64 i ∧ i ≤ n ∧ n ≤ i + k ∧ v6 = .int .i64 (65536 - sumTo (shOf x s) i) ∧ Aside (ShW w n c ad s bx bo bd out ord wr) ∧ Hid (∀ q, q < i → out q = shOf x s q) ∧ Hid (∀ q, q < i → ord q = q))
    case atStart => exact ⟨0, _, _, rfl, by omega, by omega, rfl, HW, fun q h => by omega, fun q h => by omega⟩
    case round =>
      clear HW
      obtain ⟨i, out, ord, rfl, hi, hk, rfl, HW, HO, HD⟩ := hrel
      by_cases hlt : i < n
      · have hltz : (i : Int) < (n : Int) := by omega
        obtain ⟨y, ey⟩ : ∃ y, y = x i := ⟨_, rfl⟩
        obtain ⟨f, ef⟩ : ∃ f, f = 65536 * y / s := ⟨_, rfl⟩
        have ESH : Hid (shOf x s i = f) := (show _ = _ by rw [ef, ey]; rfl)
        obtain ⟨hy1, hy2⟩ : -1099511627776 ≤ y ∧ y ≤ 1099511627776 := by rw [ey]; exact HB.out i hlt
        have hf := div_bd (65536 * y) s (by omega) (by omega : -72057594037927936 ≤ 65536 * y) (by omega)
        rw [← ef] at hf
        obtain ⟨hf1, hf2⟩ := hf
        have hsm := sumTo_bd (f := shOf x s) (n := n) (B := 72057594037927936) (by omega) (fun k hk => sh_bd hs0 (HB.out k hk)) i hi
        obtain ⟨z, ez⟩ : ∃ z, z = sumTo (shOf x s) i := ⟨_, rfl⟩
        have EZ := Lib.hid ez
        have EF := Lib.hid ef
        rw [← ez] at hsm ⊢
        have hz1 : -4611686018427387904 ≤ z := by have := hsm.1; have : (i : Int) * 72057594037927936 ≤ 64 * 72057594037927936 := Int.mul_le_mul_of_nonneg_right (by omega) (by omega); omega
        have hz2 : z ≤ 4611686018427387904 := by have := hsm.2; have : (i : Int) * 72057594037927936 ≤ 64 * 72057594037927936 := Int.mul_le_mul_of_nonneg_right (by omega) (by omega); omega
        have cx : wr.cell? (ad.add i) = some (.int .i64 y) := by
          have h := HR.out i hlt
          rw [HW.out.below.cell (World.block_lt_of_cell? _ _ h), h, ey]
        have hfl : ∀ W, Calls Try.prog 92 #[.int .i64 (65536 * y), .int .i64 s] W fun e w' => e = .returned (.int .i64 f) ∧ W = w' := fun W => by
          rw [EF.out]; exact kfloor_calls (65536 * y) s W (by omega) (by omega) (by omega)
        have HFL := Lib.hid hfl
        clear ez ef ey hsm hfl
        have l3 := bcell HW.out.is 0
        have l2 := bcell HW.out.ix 0
        simp only [List.getElem?_toArray, List.getElem?_cons_zero] at l3 l2
        have l4 := (bcell HW.out.io i).trans (arrI_get n out i hlt)
        have l5 := (bcell HW.out.id i).trans (arrI_get n ord i hlt)
        have f4 := bfree HW.out.io i
        have f5 := bfree HW.out.id i
        have hne : (bo = bd) = False := eq_false HW.out.od
        have hne' : (bd = bo) = False := eq_false (Ne.symm HW.out.od)
        go_upto_region 5 with (fail)
        have w1 : IntKind.i64.wrap (65536 * y) = 65536 * y := IntWalk.i64_in _ (by omega)
        go_cut [] (fun wc => Aside (ShW w n c ad s bx bo bd (upd out i f) (upd ord i i) wc))
        case first =>
          go_region_with ((go_at_call 92; refine (HFL.out _).mono ?_; rintro e w' ⟨rfl, rfl⟩))
          all_goals go_wp2_with fail
          all_goals go_meet
          all_goals
            case rel =>
              first
              | exact ((HW.out.setOut i f).setOrd i i).drew
              | exact ((HW.out.setOrd i i).setOut i f).drew
        case rest =>
          clear l2 l3 l4 l5 f4 f5 hne hne' w1 cx HFL HW
          have HW : Aside (ShW w n c ad s bx bo bd (upd out i f) (upd ord i i) wc) := hcut
          clear hcut
          have l2 := bcell HW.out.ix 0
          simp only [List.getElem?_toArray, List.getElem?_cons_zero] at l2
          have l4 := (bcell HW.out.io i).trans (arrI_get n _ i hlt)
          rw [upd_same] at l4
          go_wp2
          go_roundg (n - (i + 1))
          case measure => omega
          case rel =>
            refine ⟨i + 1, upd out i f, upd ord i i, by go_num, by omega, by omega, ?_, HW, fun q h => ?_, fun q h => ?_⟩
            · rw [sumTo, ESH.out, ← EZ.out]; first | rfl | (congr 1; omega)
            · by_cases e : q = i
              · rw [e, upd_same, ESH.out]
              · rw [upd_other _ e]; exact HO.out q (by omega)
            · by_cases e : q = i
              · rw [e, upd_same]
              · rw [upd_other _ e]; exact HD.out q (by omega)
      · have hltz : ¬ (i : Int) < (n : Int) := by omega
        have e : i = n := by omega
        subst e
        have lb := left_bd (x := x) hs0 hn0 HSUM.out
        obtain ⟨lf, hlf⟩ := Int.eq_ofNat_of_zero_le lb.1
        have hlf1 : lf < i := by omega
        have HLF : Hid (65536 - sumTo (shOf x s) i = (lf : Int)) := hlf
        rw [hlf]
        clear lb hlf
        -- the comparison, the row
        have hrow : RowW wr bd i ord wr := ⟨⟨rfl, rfl, rfl, Nat.le_refl _, fun _ _ _ => rfl⟩, fun q hq => (bcell HW.out.id q).trans (arrI_get i ord q hq), fun q _ => bfree HW.out.id q⟩
        have hcmp : CmpAt wr bd i (keyOf x s) ⟨w.heap.size, 0, none⟩ ⟨bx, 0, none⟩ ⟨w.heap.size + 1, 0, none⟩ := by
          intro W d hR a b ha0 ha1 hb0 hb1
          have kept : ∀ {g : Nat} {o : Obj}, wr.heap[g]? = some o → g ≠ bd → W.heap[g]? = some o := fun {g o} h hne => by
            rw [hR.g.block g (lt_of_block h) (fun e => hne (by injection e))]; exact h
          have k1 := bcell (kept HW.out.iw (by have := HW.out.hd; omega)) 0
          have k2 := bcell (kept HW.out.ix HW.out.xd) 0
          have k3 := bcell (kept HW.out.is (by have := HW.out.hd; omega)) 0
          have kw : ∀ q, q < i → W.cell? (ad.add q) = some (.int .i64 (x q)) := fun q hq => by
            have h := HR.out q hq
            have hb := World.block_lt_of_cell? _ _ h
            have h2 : wr.cell? (ad.add q) = some (.int .i64 (x q)) := by rw [HW.out.below.cell hb, h]
            exact hR.g.cell h2 (fun e => by have := HW.out.hd; injection e with e; omega)
          have ko : ∀ q, q < i → W.cell? ⟨bo, q, none⟩ = some (.int .i64 (out q)) := fun q hq => (bcell (kept HW.out.io HW.out.od) q).trans (arrI_get i out q hq)
          have bd1 : ∀ q, q < i → -1152921504606846976 ≤ out q * s ∧ out q * s ≤ 1152921504606846976 := fun q hq => by
            rw [HO.out q hq]
            have h1 := Int.mul_ediv_add_emod (65536 * x q) s
            have h2 := Int.emod_nonneg (65536 * x q) (by omega : s ≠ 0)
            have h3 := Int.emod_lt_of_pos (65536 * x q) (by omega : 0 < s)
            have h4 := HB.out q hq
            have e : shOf x s q * s = s * (65536 * x q / s) := by rw [Int.mul_comm]; rfl
            rw [e]; omega
          have bx1 : ∀ q, q < i → -1152921504606846976 ≤ 65536 * x q ∧ 65536 * x q ≤ 1152921504606846976 := fun q hq => by have h4 := HB.out q hq; omega
          have hc := cmpShares_calls W i c bo x out s ad ⟨w.heap.size, 0, none⟩ ⟨bx, 0, none⟩ ⟨w.heap.size + 1, 0, none⟩ a b (by omega) (by simpa using k1) (by simpa using k2) (by simpa using k3)
            (kw _ (by omega)) (kw _ (by omega)) (ko _ (by omega)) (ko _ (by omega)) ha0 ha1 hb0 hb1 (bx1 _ (by omega)) (bx1 _ (by omega)) (bd1 _ (by omega)) (bd1 _ (by omega))
          have e1 : ∀ q : Int, 0 ≤ q → q < i → restOf x out s q = keyOf x s q := fun q h0 h1 => by
            unfold keyOf restOf; rw [HO.out q.toNat (by omega)]
          rw [e1 a ha0 ha1, e1 b hb0 hb1] at hc
          exact hc
        have hIn : InN i ord := fun q hq => by rw [HD.out q hq]; omega
        have hRi : Rises 0 i ord := fun a b _ h1 h2 => by rw [HD.out a (by omega), HD.out b h2]; omega
        have hsort := sortStable_calls wr bd i i (keyOf x s) _ _ _ hcmp (by omega) wr ord hrow hIn hRi
        have HSORT := Lib.hid hsort
        have HIN := Lib.hid hIn
        clear hsort hcmp hrow hIn hRi
        go_wp2_with (go_at_call 123; refine HSORT.out.mono ?_; rintro e1 w1 ⟨rfl, hq⟩; have HQ := Lib.hid hq; clear hq)
        -- the greatest rests are raised
        have START : Hid (∃ d' : Nat → Int, Below w.heap.size w w1 ∧ w1.heap[bx]? = some (.cells #[.slice (some ⟨bo, 0, none⟩) i i] 93 (0, 0)) ∧ w1.heap[bo]? = some (.cells (arrI i out) 3 (0, 0)) ∧
            (∀ q, q < i → w1.cell? ⟨bd, q, none⟩ = some (.int .i64 (d' q))) ∧ InN i d' ∧ SortedBy (keyOf x s) 0 i d') := by
          obtain ⟨d', h1, h2, h3⟩ := HQ.out
          have kept : ∀ {g : Nat} {o : Obj}, wr.heap[g]? = some o → g ≠ bd → w1.heap[g]? = some o := fun {g o} h hne => by
            rw [h1.g.block g (lt_of_block h) (fun e => hne (by injection e))]; exact h
          exact ⟨d', HW.out.below.trans ⟨h1.g.os, h1.g.tape, h1.g.output, h1.g.size, fun k hk => h1.g.block k (Nat.lt_of_lt_of_le hk HW.out.below.size) (fun e => by have := HW.out.hd; injection e with e; omega)⟩,
            kept HW.out.ix HW.out.xd, kept HW.out.io HW.out.od, h1.c, HIN.out.seg h2 (Nat.le_refl _), h3⟩
        obtain ⟨d', hst⟩ := START.out
        have HST := Lib.hid hst
        have HNE : Hid (bx ≠ bo ∧ bo ≠ bd ∧ w.heap.size ≤ bo) := ⟨HW.out.xo, HW.out.od, by have := HW.out.ho; omega⟩
        clear START hst HQ HSORT HIN HW HD hltz hlt hk hi
        go_loopg [11, 50] lf (fun k v11 v50 wr => ∃ (j : Nat) (f : Nat → Int), v50 = .int .i64 j ∧ j ≤ lf ∧ lf ≤ j + k ∧ Hid (Below w.heap.size w wr ∧ wr.heap[bx]? = some (.cells #[.slice (some ⟨bo, 0, none⟩) i i] 93 (0, 0)) ∧ wr.heap[bo]? = some (.cells (arrI i f) 3 (0, 0)) ∧
            (∀ q, q < i → wr.cell? ⟨bd, q, none⟩ = some (.int .i64 (d' q)))) ∧ Hid (∀ q, q < i → f q = shOf x s q + ((firstOf d' j q).toNat : Int)))
        case atStart =>
          obtain ⟨h1, h2, h3, h4, h5, h6⟩ := HST.out
          exact ⟨0, out, rfl, by omega, by omega, ⟨h1, h2, h3, h4⟩, fun q hq => by rw [HO.out q hq]; simp [firstOf]⟩
        case round =>
          obtain ⟨j, f, rfl, hj, hk, HB2, HF⟩ := hrel
          obtain ⟨_, _, _, _, hI', hS'⟩ := HST.out
          by_cases hlt : j < lf
          · have hltz : (j : Int) < (lf : Int) := by omega
            obtain ⟨p, hp⟩ := Int.eq_ofNat_of_zero_le (hI' j (by omega)).1
            have hpi : p < i := by have := (hI' j (by omega)).2; omega
            have NEW := Lib.hid (firstOf_new hS' hI' (by omega : j < i))
            have HP : Hid (d' j = (p : Int)) := hp
            obtain ⟨v, ev⟩ : ∃ v, v = f p := ⟨_, rfl⟩
            have bv : -1152921504606846976 ≤ v ∧ v ≤ 1152921504606846976 := by
              rw [ev, HF.out p hpi]
              have := sh_bd (k := p) hs0 (HB.out p hpi)
              cases firstOf d' j p <;> simp <;> omega
            obtain ⟨bv1, bv2⟩ := bv
            have l1 := bcell HB2.out.2.1 0
            simp only [List.getElem?_toArray, List.getElem?_cons_zero] at l1
            have l2 := (bcell HB2.out.2.2.1 p).trans (arrI_get i f p hpi)
            have l3 := bfree HB2.out.2.2.1 p
            have l4 := HB2.out.2.2.2 j (by omega)
            rw [hp] at l4
            rw [← ev] at l2
            have EV := Lib.hid ev
            have hltI : (j : Int) < (i : Int) := by omega
            clear hp ev hI' hS' 
            go_wp2
            go_roundg (lf - (j + 1))
            case measure => omega
            case rel =>
              obtain ⟨h1, h2, h3, h4⟩ := HB2.out
              refine ⟨j + 1, upd f p (v + 1), by go_num, by omega, by omega, ⟨h1.setCell (show _ ≤ bo from HNE.out.2.2) _, bfar h2 HNE.out.1 _, bsetI h3 p _, fun q hq => ?_⟩, fun q hq => ?_⟩
              · rw [World.cell?_setCell_other _ _ _ _ (by intro e; simp only [Addr.mk.injEq] at e; exact HNE.out.2.1 e.1)]; exact h4 q hq
              · have hn := NEW.out
                rw [HP.out, Int.toNat_natCast] at hn
                by_cases e : q = p
                · rw [e, upd_same, EV.out, HF.out p hpi, firstOf, hn, HP.out, Int.toNat_natCast]; simp
                · rw [upd_other _ e, HF.out q hq, firstOf, HP.out, Int.toNat_natCast, show (q == p) = false by simpa using e, Bool.or_false]
          · have hltz : ¬ (j : Int) < (lf : Int) := by omega
            have e : j = lf := by omega
            subst e
            have l1 := bcell HB2.out.2.1 0
            simp only [List.getElem?_toArray, List.getElem?_cons_zero] at l1
            clear hI' hS'
            go_wp2
            go_ret
            obtain ⟨_, _, _, _, hI', hS'⟩ := HST.out
            obtain ⟨h1, h2, h3, h4⟩ := HB2.out
            refine ⟨bo, firstOf d' j, rfl, HNE.out.2.2, ?_, h1, ?_⟩
            · rw [h3, arrI_congr HF.out]
            · rw [HLF.out]; exact firstOf_top hS' hI' (by omega)
end Go.Proofs.Ytdcpeeolfgohmaa

namespace Go.Proofs.Ytdcpeeolfgohmaa
open Go.RowKit
set_option linter.unusedSimpArgs false
set_option linter.unusedVariables false

/-- May these weights be shared? -/
def ShareOk (x : Nat → Int) (n : Nat) : Prop := 1 ≤ n ∧ n ≤ 64 ∧ (∀ i, i < n → -1099511627776 ≤ x i ∧ x i ≤ 1099511627776) ∧ 1 ≤ sumTo x n
/-- What a call of Share comes to. -/
def ShareEnd (w : World) (n : Nat) (x : Nat → Int) (e : Ending) (w' : World) : Prop :=
  (ShareOk x n ∧ ∃ bo S, e = .returned (.tuple #[.slice (some ⟨bo, 0, none⟩) n n, .int .i64 0]) ∧ SharedIn w n x (sumTo x n) bo S w') ∨
  (¬ ShareOk x n ∧ e = .returned (.tuple #[.slice none 0 0, .int .i64 91]) ∧ Below w.heap.size w w')

theorem sumTo_bd' {x : Nat → Int} {i : Nat} (h : ∀ k, k < i → -1099511627776 ≤ x k ∧ x k ≤ 1099511627776) (hi : i ≤ 64) : -70368744177664 ≤ sumTo x i ∧ sumTo x i ≤ 70368744177664 := by
  have h1 := sumTo_bd (B := 1099511627776) (by omega) h i (Nat.le_refl _)
  have h2 : (i : Int) * 1099511627776 ≤ 64 * 1099511627776 := Int.mul_le_mul_of_nonneg_right (by omega) (by omega)
  omega

set_option maxHeartbeats 1600000 in
set_option maxRecDepth 100000 in
theorem kShare_calls (w : World) (n c : Nat) (x : Nat → Int) (A : Option Addr) (hr : 1 ≤ n → ∃ ad, A = some ad ∧ ∀ i, i < n → w.cell? (ad.add i) = some (.int .i64 (x i))) (hn64 : n ≤ 9223372036854775807) :
    Calls Try.prog 48 #[.slice A n c] w fun e w' => ShareEnd w n x e w' := by
  by_cases h0 : n = 0
  · subst h0
    have hno : Hid (¬ ShareOk x 0) := fun h => by have := h.1; omega
    go_enter Try.func48, Try.ntmps48
    go_wp2
    go_ret2
    exact .inr ⟨hno.out, rfl, Below.refl _ _⟩
  · by_cases h64 : 64 < n
    · have hno : Hid (¬ ShareOk x n) := fun h => by have := h.2.1; omega
      have hb0 : ((n : Int) == 0) = false := by rw [beq_eq_false_iff_ne]; omega
      have hb1 : decide ((64 : Int) < (n : Int)) = true := decide_eq_true (by omega)
      clear hr
      go_enter Try.func48, Try.ntmps48
      go_wp2
      go_ret2
      exact .inr ⟨hno.out, rfl, Below.refl _ _⟩
    · obtain ⟨ad, rfl, hcell⟩ := hr (by omega)
      have HR := Lib.hid hcell
      have hb0 : ((n : Int) == 0) = false := by rw [beq_eq_false_iff_ne]; omega
      have hb1 : decide ((64 : Int) < (n : Int)) = false := decide_eq_false (by omega)
      have hn : n ≤ 64 := by omega
      have hn1 : 1 ≤ n := by omega
      clear hr hcell h0 h64
      go_enter Try.func48, Try.ntmps48
      go_wp2_with fail
      clear hb0 hb1
      go_loop [4, 6, 17] (fun v4 v6 v17 => ∃ i : Nat, v17 = .int .i64 i ∧ i ≤ n ∧ v4 = .int .i64 (sumTo x i) ∧ Hid (∀ k, k < i → -1099511627776 ≤ x k ∧ x k ≤ 1099511627776)) (fun _ _ v17 => n - (intOf v17).toNat)
      case atStart => exact ⟨0, rfl, by omega, rfl, fun k hk => by omega⟩
      case round =>
        obtain ⟨i, rfl, hi, rfl, HB⟩ := hrel
        have hs := sumTo_bd' HB.out (by omega)
        obtain ⟨z, ez⟩ : ∃ z, z = sumTo x i := ⟨_, rfl⟩
        rw [← ez] at hs ⊢
        have EZ := Lib.hid ez
        obtain ⟨hs1, hs2⟩ := hs
        clear ez
        by_cases hlt : i < n
        · have hltz : (i : Int) < (n : Int) := by omega
          obtain ⟨y, ey⟩ : ∃ y, y = x i := ⟨_, rfl⟩
          have cx := HR.out i hlt
          rw [← ey] at cx
          have EY := Lib.hid ey
          clear ey
          by_cases hg : 1099511627776 < y
          · have hno : Hid (¬ ShareOk x n) := fun h => by have := h.2.2.1 i hlt; rw [← EY.out] at this; omega
            have hd : decide ((1099511627776 : Int) < y) = true := decide_eq_true hg
            go_wp2
            go_ret2
            exact .inr ⟨hno.out, rfl, Below.refl _ _⟩
          · have hd : decide ((1099511627776 : Int) < y) = false := decide_eq_false hg
            by_cases hl : y < -1099511627776
            · have hno : Hid (¬ ShareOk x n) := fun h => by have := h.2.2.1 i hlt; rw [← EY.out] at this; omega
              have hd2 : decide (y < (-1099511627776 : Int)) = true := decide_eq_true hl
              go_wp2
              go_ret2
              exact .inr ⟨hno.out, rfl, Below.refl _ _⟩
            · have hd2 : decide (y < (-1099511627776 : Int)) = false := decide_eq_false hl
              go_wp2
              go_round
              case rel =>
                refine ⟨i + 1, by go_num, by omega, ?_, fun k hk => ?_⟩
                · rw [sumTo, ← EZ.out, ← EY.out]
                · by_cases e : k = i
                  · rw [e, ← EY.out]; omega
                  · exact HB.out k (by omega)
              case measure => simp [intOf]; omega
        · have e : i = n := by omega
          subst e
          by_cases hp : z ≤ 0
          · have hno : Hid (¬ ShareOk x i) := fun h => by have := h.2.2.2; rw [← EZ.out] at this; omega
            have hd : decide (z ≤ 0) = true := decide_eq_true hp
            go_wp2
            go_ret2
            exact .inr ⟨hno.out, rfl, Below.refl _ _⟩
          · have hd : decide (z ≤ 0) = false := decide_eq_false hp
            have hc := shares_calls w i c x z ad hn1 hn (by omega) (by omega) EZ.out HR.out HB.out
            have HC := Lib.hid hc
            clear hc
            go_wp2_with (go_at_call 94; refine HC.out.mono ?_; rintro e1 w1 ⟨bo, S, rfl, hq⟩; have HQ := Lib.hid hq; clear hq)
            go_ret2
            refine .inl ⟨⟨hn1, hn, HB.out, by rw [← EZ.out]; omega⟩, bo, S, rfl, ?_⟩
            rw [← EZ.out]; exact HQ.out
end Go.Proofs.Ytdcpeeolfgohmaa
