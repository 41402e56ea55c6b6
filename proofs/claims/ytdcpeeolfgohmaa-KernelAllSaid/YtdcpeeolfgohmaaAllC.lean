/- kernel.All: the iterator's contract. -/
import Derived.Test.YtdcpeeolfgohmaaRfG
import Derived.Test.YtdcpeeolfgohmaaKnownW
import Derived.Test.YtdcpeeolfgohmaaU
import Derived.RangeFuncBound
import Derived.Shelf.Abstract
import Derived.Shelf.RegionOpen
import Derived.WalkKit
import Derived.OwnWalkIn
import Derived.TacticsInMore
import Derived.LoopNIn
import Derived.LoopIn
namespace Go.Proofs.Ytdcpeeolfgohmaa
open Go.RowKit Go.Proofs.YtdcpeeolfgohmaaW.PrintWords
set_option linter.unusedSimpArgs false
set_option linter.unusedVariables false
attribute [local go_sem] Oper.semAt_some

/-- kernel.All's value: a function over three boxes of its own. -/
def AllTold (w : World) (kind from' tt : Int) (e : Ending) (w' : World) : Prop := ∃ b, e = .returned (.func (.func 51) #[] #[.pointer (some ⟨b + 2, 0, none⟩), .pointer (some ⟨b, 0, none⟩), .pointer (some ⟨b + 1, 0, none⟩)]) ∧
  w.heap.size ≤ b ∧ b + 3 ≤ w'.heap.size ∧ w'.cell? ⟨b, 0, none⟩ = some (.int .i64 kind) ∧ w'.cell? ⟨b + 1, 0, none⟩ = some (.int .i64 from') ∧ w'.cell? ⟨b + 2, 0, none⟩ = some (.int .i64 tt) ∧ Below w.heap.size w w'
theorem all_boxes (w : World) (kind from' tt : Int) : AllTold w kind from' tt (.returned (.func (.func 51) #[] #[.pointer (some ⟨w.heap.size + 1 + 1, 0, none⟩), .pointer (some ⟨w.heap.size, 0, none⟩), .pointer (some ⟨w.heap.size + 1, 0, none⟩)])) (((w.alloc (.cells #[.int .i64 kind] 3)).alloc (.cells #[.int .i64 from'] 3)).alloc (.cells #[.int .i64 tt] 3)) := by
  obtain ⟨w1, e1⟩ : ∃ w1, w1 = w.alloc (.cells #[.int .i64 kind] 3) := ⟨_, rfl⟩
  obtain ⟨w2, e2⟩ : ∃ w2, w2 = w1.alloc (.cells #[.int .i64 from'] 3) := ⟨_, rfl⟩
  obtain ⟨w3, e3⟩ : ∃ w3, w3 = w2.alloc (.cells #[.int .i64 tt] 3) := ⟨_, rfl⟩
  have s1 : w1.heap.size = w.heap.size + 1 := by rw [e1]; simp
  have s2 : w2.heap.size = w.heap.size + 1 + 1 := by rw [e2]; simp [s1]
  have s3 : w3.heap.size = w.heap.size + 1 + 1 + 1 := by rw [e3]; simp [s2]
  have b1 : Below w.heap.size w w1 := by rw [e1]; exact (Below.refl _ _).alloc (Nat.le_refl _) _
  have b2 : Below w1.heap.size w1 w2 := by rw [e2]; exact (Below.refl _ _).alloc (Nat.le_refl _) _
  have b3 : Below w2.heap.size w2 w3 := by rw [e3]; exact (Below.refl _ _).alloc (Nat.le_refl _) _
  have c1 : w1.cell? ⟨w.heap.size, 0, none⟩ = some (.int .i64 kind) := by rw [e1]; exact ucell (heap_alloc_new w _) 0
  have c2 : w2.cell? ⟨w.heap.size + 1, 0, none⟩ = some (.int .i64 from') := by rw [← s1, e2]; exact ucell (heap_alloc_new w1 _) 0
  have c3 : w3.cell? ⟨w.heap.size + 1 + 1, 0, none⟩ = some (.int .i64 tt) := by rw [← s2, e3]; exact ucell (heap_alloc_new w2 _) 0
  rw [← e1, ← e2, ← e3]
  refine ⟨w.heap.size, rfl, Nat.le_refl _, by omega, ?_, ?_, c3, ujoin (ujoin b1 b2) b3⟩
  · exact (b3.cell (p := ⟨w.heap.size, 0, none⟩) (by simp; omega)).trans ((b2.cell (p := ⟨w.heap.size, 0, none⟩) (by simp; omega)).trans c1)
  · exact (b3.cell (p := ⟨w.heap.size + 1, 0, none⟩) (by simp; omega)).trans c2
set_option maxRecDepth 100000 in
theorem all_calls (w : World) (kind from' tt : Int) :
    Calls Try.prog 13 #[.int .i64 kind, .int .i64 from', .int .i64 tt] w fun e w' => AllTold w kind from' tt e w' := by
  go_enter Try.func13, Try.ntmps13
  go_wp2
  go_ret
  exact all_boxes w kind from' tt

theorem tapsErr_same {kind from' tt i : Int} (h0 : 0 ≤ i) (h1 : i < tt) : tapsErr kind from' tt i = tapsErr kind from' tt 0 := by
  unfold tapsErr
  have e : (sideB from' = true ∧ sideB tt = true ∧ 0 ≤ i ∧ i < tt) ↔ (sideB from' = true ∧ sideB tt = true ∧ 0 ≤ (0 : Int) ∧ (0 : Int) < tt) := by
    constructor
    · rintro ⟨a, b, _, _⟩; exact ⟨a, b, by omega, by omega⟩
    · rintro ⟨a, b, _, _⟩; exact ⟨a, b, h0, h1⟩
  simp only [e]
theorem tapsErr_none {kind from' tt : Int} (h : tapsErr kind from' tt 0 = 0) : 0 < tt := by
  unfold tapsErr at h
  by_cases h1 : 1 ≤ kind ∧ kind ≤ 3
  · rw [if_neg (fun h => h h1)] at h
    by_cases h2 : sideB from' = true ∧ sideB tt = true ∧ 0 ≤ (0 : Int) ∧ (0 : Int) < tt
    · exact h2.2.2.2
    · rw [if_pos h2] at h; exact absurd h (by decide)
  · rw [if_pos h1] at h; exact absurd h (by decide)

/-- A place's taps as the iterator hands them on. -/
structure TapX where
  i : Nat
  A : Option Addr
  c : Nat
  l : List (Int × Int)
def encT (x : TapX) : Array Value := #[.int .i64 (x.i : Int), .slice x.A x.l.length x.c]
def TapR (kind from' tt : Int) (B : Nat → Prop) (pre : List TapX) (x : TapX) (W : World) : Prop := x.i = pre.length ∧ tapsErr kind from' tt x.i = 0 ∧ IsTaps kind from' tt x.i x.l ∧ RowT W x.A x.l.length (tapP x.l) (tapW x.l)
def allN (kind from' tt : Int) : Nat := if tapsErr kind from' tt 0 = 0 then tt.toNat else 0

theorem growB_of_below {B : Nat → Prop} {W W' : World} (h : Below W.heap.size W W') : GrowB B W W' := ⟨h.os, h.tape, h.output, h.size, fun k hk _ => h.block k hk⟩
theorem cell_same {W W' : World} {b : Nat} {v : Value} (h : W'.heap[b]? = W.heap[b]?) {i : Nat} (hc : W.cell? ⟨b, i, none⟩ = some v) : W'.cell? ⟨b, i, none⟩ = some v := (World.cell?_of_block (a := ⟨b, i, none⟩) h).trans hc

set_option maxHeartbeats 3200000 in
set_option maxRecDepth 100000 in
theorem all_stops (kind from' tt : Int) (htt : tt ≤ 1000000) (w : World) (b : Nat) (hk : w.cell? ⟨b, 0, none⟩ = some (.int .i64 kind)) (hf : w.cell? ⟨b + 1, 0, none⟩ = some (.int .i64 from')) (ht : w.cell? ⟨b + 2, 0, none⟩ = some (.int .i64 tt)) (n : Nat) (hn : 1 ≤ n) :
    SeqG Fence.wide n Try.prog 51 #[.pointer (some ⟨b + 2, 0, none⟩), .pointer (some ⟨b, 0, none⟩), .pointer (some ⟨b + 1, 0, none⟩)] encT (TapR kind from' tt) (fun xs => xs.length = allN kind from' tt) (fun pre => 1 ≤ pre.length) (allN kind from' tt) (fun k => k = b ∨ k = b + 1 ∨ k = b + 2) w := fun l J Jx W hW hJ hJx hY h0 => by
  have k1 := (hW.cell (World.block_lt_of_cell? _ _ hk)).trans hk
  have k2 := (hW.cell (World.block_lt_of_cell? _ _ hf)).trans hf
  have k3 := (hW.cell (World.block_lt_of_cell? _ _ ht)).trans ht
  have HY := Lib.hid hY
  have HJ := Lib.hid hJ
  clear hY hJ hJx hk hf ht
  refine callsIn_of_wp Try.func51 rfl trivial ?_ rfl
  simp only [Try.ntmps51, List.size_toArray, List.length_cons, List.length_nil, Nat.reduceAdd, Nat.reduceSub, Array.replicate_succ, Array.replicate_zero, List.push_toArray, List.append_toArray, List.nil_append, List.cons_append]
  rcases Int.lt_or_le tt 0 with hneg | hpos
  · have HZ : Hid (([] : List TapX).length = allN kind from' tt) := (show _ = _ by
      unfold allN
      by_cases he : tapsErr kind from' tt 0 = 0
      · have := tapsErr_none he; omega
      · rw [if_neg he]; rfl)
    have H0 := Lib.hid h0
    clear h0 k2 hW htt
    gi_wp2
    gi_loopw [10] (fun v wr => v = .int .i64 0 ∧ wr = W) (fun v wr => 0)
    case atStart => exact ⟨rfl, rfl⟩
    case round =>
      obtain ⟨rfl, rfl⟩ := hrel
      gi_wp2
      go_end0
      exact ⟨⟨_, rfl⟩, .inl ⟨_, [], HZ.out, H0.out⟩⟩
  gi_wp2
  gi_loopw [10] (fun v wr => ∃ (i : Nat) (B : Nat → Prop) (pre : List TapX), v = .int .i64 (i : Int) ∧ Hid (pre.length = i) ∧ (i : Int) ≤ tt ∧ Hid (0 < i → tapsErr kind from' tt 0 = 0) ∧ Hid (J B pre wr) ∧ wr.cell? ⟨b, 0, none⟩ = some (.int .i64 kind) ∧ wr.cell? ⟨b + 1, 0, none⟩ = some (.int .i64 from') ∧ wr.cell? ⟨b + 2, 0, none⟩ = some (.int .i64 tt)) (fun v wr => tt.toNat - (intOf v).toNat)
  case atStart => exact ⟨0, _, [], rfl, rfl, by omega, fun h => absurd h (Nat.lt_irrefl _), h0, k1, k2, k3⟩
  case round =>
    clear k1 k2 k3 h0 hW
    obtain ⟨i, B, pre, rfl, HL, hi, HE, HJB, k1, k2, k3⟩ := hrel
    by_cases hi2 : (i : Int) < tt
    · have hi0 : (0 : Int) ≤ (i : Int) := by omega
      have hsame := tapsErr_same (kind := kind) (from' := from') hi0 hi2
      by_cases he : tapsErr kind from' tt 0 = 0
      · have HT : Hid (∀ W, CallsIn Fence.wide (n - 1) Try.prog 47 #[.int .i64 kind, .int .i64 from', .int .i64 tt, .int .i64 (i : Int)] W fun e w' => ∃ A l c, e = .returned (.tuple #[.slice A l.length c, .int .i64 0]) ∧ IsTaps kind from' tt i l ∧ RowT w' A l.length (tapP l) (tapW l) ∧ Below W.heap.size W w') := (show ∀ W, _ from fun W => callsIn_wide.2 ((kTaps_told kind from' tt i W).mono fun e w' ⟨A, l, c, h1, h2, h3, h4⟩ => ⟨A, l, c, by rw [h1, hsame, he], h2, own_rowT h3, h4⟩))
        have HN : Hid (pre.length < allN kind from' tt) := (show _ < _ by unfold allN; rw [if_pos he, HL.out]; omega)
        have HZ : Hid (tapsErr kind from' tt (i : Int) = 0) := (show _ = _ by rw [hsame, he])
        have HE2 := Lib.hid he
        clear hsame he HE
        have b0 : ((0 : Int) != 0) = false := rfl
        gi_wp2_with (refine ⟨trivial, ?_⟩; gi_at_call 47; refine (HT.out _).mono ?_; rintro e1 W2 ⟨A, l', c, rfl, hl, hrow, hb⟩; obtain ⟨fn, tmps, asg, bdy, hy, hR⟩ := HY.out _ pre ⟨i, A, c, l'⟩ W2 (HJ.out _ _ _ _ HJB.out (growB_of_below hb)) ⟨HL.out.symm, HZ.out, hl, hrow⟩ HN.out; dsimp only [encT] at hy; have hbl := Lib.hid hb; clear hb hl hrow)
        refine hR.mono ?_
        rintro e W3 (⟨rfl, hJ3, hk3⟩ | ⟨rfl, hx3⟩)
        · have HJ3 := Lib.hid hJ3
          have sm : ∀ k v, (k = b ∨ k = b + 1 ∨ k = b + 2) → wr.cell? ⟨k, 0, none⟩ = some v → W3.cell? ⟨k, 0, none⟩ = some v := fun k v hk hc => by
            have h1 : W2.cell? ⟨k, 0, none⟩ = some v := (hbl.out.cell (p := ⟨k, 0, none⟩) (World.block_lt_of_cell? _ _ hc)).trans hc
            exact cell_same (hk3.same k (.inr hk)) h1
          have q1 := sm _ _ (.inl rfl) k1
          have q2 := sm _ _ (.inr (.inl rfl)) k2
          have q3 := sm _ _ (.inr (.inr rfl)) k3
          have HL3 : Hid ((pre ++ [(⟨i, A, c, l'⟩ : TapX)]).length = i + 1) := (show _ = _ by rw [List.length_append, HL.out]; rfl)
          clear sm k1 k2 k3 hk3 hJ3 hy hR HJB HL
          gi_wp2
          go_roundw
          case rel => exact ⟨i + 1, _, _, by first | rfl | go_num, HL3.out, by omega, fun _ => HE2.out, HJ3.out, q1, q2, q3⟩
          case measure => simp [intOf]; omega
        · have HX := Lib.hid hx3
          clear hx3 hy hR k1 k2 k3
          gi_wp2
          refine bodyPost_ret (results_none rfl _ _ _) rfl ?_
          exact ⟨⟨_, rfl⟩, .inr ⟨_, _, by simp, HX.out⟩⟩
      · have HI0 : Hid (i = 0) := (show _ = _ by
          rcases Nat.eq_zero_or_pos i with h | h
          · exact h
          · exact absurd (HE.out h) he)
        have HT : Hid (∀ W, CallsIn Fence.wide (n - 1) Try.prog 47 #[.int .i64 kind, .int .i64 from', .int .i64 tt, .int .i64 (i : Int)] W fun e w' => ∃ A m c er, e = .returned (.tuple #[.slice A m c, .int .i64 er]) ∧ (er != 0) = true ∧ Below W.heap.size W w') := (show ∀ W, _ from fun W => callsIn_wide.2 ((kTaps_told kind from' tt i W).mono fun e w' ⟨A, l, c, h1, h2, h3, h4⟩ => ⟨A, _, c, _, h1, by rw [hsame, bne_iff_ne]; exact he, h4⟩))
        have HF : Hid (pre.length = allN kind from' tt) := (show _ = _ by unfold allN; rw [if_neg he, HL.out, HI0.out])
        clear hsame he HE HL
        gi_wp2_with (refine ⟨trivial, ?_⟩; gi_at_call 47; refine (HT.out _).mono ?_; rintro e1 W2 ⟨A, m, c, er, rfl, her, hb⟩; have hJ2 := Lib.hid (HJ.out _ _ _ _ HJB.out (growB_of_below hb)); clear hb)
        refine ⟨fun _ h => (by cases h), ?_⟩
        gi_wp2
        refine bodyPost_ret (results_none rfl _ _ _) rfl ?_
        exact ⟨⟨_, rfl⟩, .inl ⟨_, _, HF.out, hJ2.out⟩⟩
    · have HF : Hid (pre.length = allN kind from' tt) := (show _ = _ by
        unfold allN
        rw [HL.out]
        by_cases he : tapsErr kind from' tt 0 = 0
        · rw [if_pos he]; omega
        · rw [if_neg he]
          rcases Nat.eq_zero_or_pos i with h | h
          · exact h
          · exact absurd (HE.out h) he)
      clear HL HE HY HJ k1 k2 k3
      gi_wp2
      go_end0
      exact ⟨⟨_, rfl⟩, .inl ⟨_, _, HF.out, HJB.out⟩⟩
end Go.Proofs.Ytdcpeeolfgohmaa
