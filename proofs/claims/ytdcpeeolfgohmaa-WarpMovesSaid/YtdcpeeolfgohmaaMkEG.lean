/- plane.moved by Turn's inner function. plane.moved by Turn's and by Flip's inner function: the walks. plane.Turn by one quarter; plane.Flip across. -/
import Derived.Test.YtdcpeeolfgohmaaMkD
namespace Go.Proofs.Ytdcpeeolfgohmaa
open Go.RowKit Go.Proofs.YtdcpeeolfgohmaaW.PrintWords
set_option linter.unusedSimpArgs false
set_option linter.unusedVariables false
attribute [local go_sem] Oper.semAt_some

/-- What a plane moved is. -/
def MvEnd (w : World) (w1 h1 : Int) (z : Nat → Nat → Nat) (e : Ending) (w' : World) : Prop := ∃ A c, e = .returned (.tuple #[.agg (plC w1 h1 A (w1 * h1).toNat c), .int .i64 0]) ∧ RowU w' A (w1 * h1).toNat (fun k => z (k % w1.toNat) (k / w1.toNat)) ∧ (∀ ad, A = some ad → w.heap.size ≤ ad.block) ∧ Below w.heap.size w w'
/-- The place of a turned plane. -/
def turnZ (x : Nat → Nat) (wn hn : Nat) (i j : Nat) : Nat := x ((hn - 1 - i) * wn + j)
def flipZ (x : Nat → Nat) (wn hn : Nat) (i j : Nat) : Nat := x (j * wn + (wn - 1 - i))
theorem turn_fun {W5 : World} {pa pp b wn hn : Nat} {A : Option Addr} {n c : Nat} {x : Nat → Nat} (hs : sizeB (wn : Int) (hn : Int) = true) (hn2 : n = wn * hn) (hcp : Caps W5 pa pp b (wn : Int) (hn : Int) A n c) (hr : RowU W5 A n x) :
    ∀ W (i j : Nat), Below W5.heap.size W5 W → (i : Int) < (hn : Int) → (j : Int) < (wn : Int) → Calls Try.prog 77 #[.int .i64 (i : Int), .int .i64 (j : Int), .pointer (some ⟨pa, 0, none⟩), .pointer (some ⟨pp, 0, none⟩)] W fun e w' => e = .returned (.int .u32 ((turnZ x wn hn i j : Nat) : Int)) ∧ W = w' := fun W i j hb hi hj => by
  obtain ⟨a1, a2, a3, a4, a5, a6⟩ := sizeB_in hs
  have h1 : 1 ≤ n := by rw [hn2]; exact Nat.mul_pos (by omega) (by omega)
  obtain ⟨ad, rfl, hc⟩ := hr h1
  have hnn : ((n : Nat) : Int) = (wn : Int) * (hn : Int) := by rw [hn2, Int.natCast_mul]
  have hX : 0 ≤ (j : Int) ∧ (j : Int) < (wn : Int) := by omega
  have hY : 0 ≤ (hn : Int) - 1 - (i : Int) ∧ (hn : Int) - 1 - (i : Int) < (hn : Int) := by omega
  obtain ⟨i1, i2, i3, i4, i5⟩ := idx_in hs hnn hX hY
  have ek : (((hn - 1 - i) * wn + j : Nat) : Int) = ((hn : Int) - 1 - (i : Int)) * (wn : Int) + (j : Int) := by
    rw [Int.natCast_add, Int.natCast_mul, show ((hn - 1 - i : Nat) : Int) = (hn : Int) - 1 - (i : Int) by omega]
  have hlt : (hn - 1 - i) * wn + j < n := by omega
  exact turn11_calls W pa pp b (wn : Int) (hn : Int) ad n c (i : Int) (j : Int) _ ((hn - 1 - i) * wn + j) (turnZ x wn hn i j) ⟨(hb.cell (World.block_lt_of_cell? _ _ hcp.at_)).trans hcp.at_, (hb.block _ (heap_lt' hcp.bx)).trans hcp.bx, (hb.block _ (heap_lt' hcp.pl)).trans hcp.pl⟩ (IntWalk.i64_in _ (by omega)) (IntWalk.i64_in _ (by omega)) i1 (by rw [i2, ek]) hlt ((hb.cell (World.block_lt_of_cell? _ _ (hc _ hlt))).trans (hc _ hlt))
theorem flip_fun {W5 : World} {pa pp b wn hn : Nat} {A : Option Addr} {n c : Nat} {x : Nat → Nat} (hs : sizeB (wn : Int) (hn : Int) = true) (hn2 : n = wn * hn) (hcp : Caps W5 pa pp b (wn : Int) (hn : Int) A n c) (hr : RowU W5 A n x) :
    ∀ W (i j : Nat), Below W5.heap.size W5 W → (i : Int) < (wn : Int) → (j : Int) < (hn : Int) → Calls Try.prog 81 #[.int .i64 (i : Int), .int .i64 (j : Int), .pointer (some ⟨pa, 0, none⟩), .pointer (some ⟨pp, 0, none⟩)] W fun e w' => e = .returned (.int .u32 ((flipZ x wn hn i j : Nat) : Int)) ∧ W = w' := fun W i j hb hi hj => by
  obtain ⟨a1, a2, a3, a4, a5, a6⟩ := sizeB_in hs
  have h1 : 1 ≤ n := by rw [hn2]; exact Nat.mul_pos (by omega) (by omega)
  obtain ⟨ad, rfl, hc⟩ := hr h1
  have hnn : ((n : Nat) : Int) = (wn : Int) * (hn : Int) := by rw [hn2, Int.natCast_mul]
  have hX : 0 ≤ (wn : Int) - 1 - (i : Int) ∧ (wn : Int) - 1 - (i : Int) < (wn : Int) := by omega
  have hY : 0 ≤ (j : Int) ∧ (j : Int) < (hn : Int) := by omega
  obtain ⟨i1, i2, i3, i4, i5⟩ := idx_in hs hnn hX hY
  have ek : ((j * wn + (wn - 1 - i) : Nat) : Int) = (j : Int) * (wn : Int) + ((wn : Int) - 1 - (i : Int)) := by
    rw [Int.natCast_add, Int.natCast_mul, show ((wn - 1 - i : Nat) : Int) = (wn : Int) - 1 - (i : Int) by omega]
  have hlt : j * wn + (wn - 1 - i) < n := by omega
  exact flip11_calls W pa pp b (wn : Int) (hn : Int) ad n c (i : Int) (j : Int) _ (j * wn + (wn - 1 - i)) (flipZ x wn hn i j) ⟨(hb.cell (World.block_lt_of_cell? _ _ hcp.at_)).trans hcp.at_, (hb.block _ (heap_lt' hcp.bx)).trans hcp.bx, (hb.block _ (heap_lt' hcp.pl)).trans hcp.pl⟩ (IntWalk.i64_in _ (by omega)) (IntWalk.i64_in _ (by omega)) i1 (by rw [i2, ek]) hlt ((hb.cell (World.block_lt_of_cell? _ _ (hc _ hlt))).trans (hc _ hlt))
attribute [local go_sem] Oper.semAt_some

set_option maxHeartbeats 3200000 in
set_option maxRecDepth 100000 in
theorem moved_turn (w : World) (pq pp wn hn : Nat) (A : Option Addr) (n c : Nat) (x : Nat → Nat) (hs : sizeB (wn : Int) (hn : Int) = true) (hn2 : n = wn * hn) (hn1 : n ≤ 1000000000) (hr : RowU w A n x) (hq : w.cell? ⟨pq, 0, none⟩ = some (.int .i64 1)) (hp : w.heap[pp]? = some (.cells (plC (wn : Int) (hn : Int) A n c) 55 (0, 0))) :
    Calls Try.prog 75 #[.agg (plC (wn : Int) (hn : Int) A n c), .func (.func 76) #[] #[.pointer (some ⟨pq, 0, none⟩), .pointer (some ⟨pp, 0, none⟩)]] w fun e w' => MvEnd w (hn : Int) (wn : Int) (turnZ x wn hn) e w' := by
  have HPC := Lib.hid fun W => pcheck_calls W (wn : Int) (hn : Int) A n c hn1
  have HPE : Hid (plE (wn : Int) (hn : Int) n = 0) := (show _ = _ from by unfold plE; rw [if_neg (by rw [hs]; decide), if_neg (by rw [hn2, Int.natCast_mul]; simp)])
  rw [HPE.out] at HPC
  have HOF := Lib.hid fun W => pof_calls W (wn : Int) (hn : Int) A n c
  have HR := Lib.hid hr
  have HQ := Lib.hid hq
  have HP := Lib.hid hp
  have HS := Lib.hid hs
  have HN2 := Lib.hid hn2
  have HSW : Hid (sizeB (hn : Int) (wn : Int) = true) := (show _ = _ from by unfold sizeB at hs ⊢; rw [Int.mul_comm]; simp only [Bool.and_eq_true, decide_eq_true_eq] at hs ⊢; omega)
  have z1 := heap_alloc_new w (.cells (plC (wn : Int) (hn : Int) A n c) 55)
  have z2 := heap_alloc_new (w.alloc (.cells (plC (wn : Int) (hn : Int) A n c) 55)) (.cells #[.int .i64 0, .int .i64 0, .slice none 0 0] 55)
  have b1 := (Below.refl w.heap.size w).alloc (Nat.le_refl _) (.cells (plC (wn : Int) (hn : Int) A n c) 55)
  have b2 := (Below.refl _ (w.alloc (.cells (plC (wn : Int) (hn : Int) A n c) 55))).alloc (Nat.le_refl _) (.cells #[.int .i64 0, .int .i64 0, .slice none 0 0] 55)
  have z1' := (b2.block _ (heap_lt' z1)).trans z1
  rw [World.size_alloc] at z2
  have HB := Lib.hid (ujoin b1 b2)
  have HZ1 := Lib.hid z1'
  have HZ2 := Lib.hid z2
  clear hs hn2 hr hq hp z1 z2 z1' b1 b2
  unfold plC at *
  go_enter Try.func75, Try.ntmps75
  go_upto_region 1 with (fail)
  generalize (w.alloc (.cells #[.int .i64 (wn : Int), .int .i64 (hn : Int), .slice A n c] 55)).alloc (.cells #[.int .i64 0, .int .i64 0, .slice none 0 0] 55) = W2 at HB HZ1 HZ2 ⊢
  have t0 := ucell HZ1.out 0
  have t1 := ucell HZ1.out 1
  have t2 := ucell HZ1.out 2
  go_wp2_with (first
    | (go_at_call 71; refine (HPC.out _).mono ?_; rintro e1 W3 ⟨rfl, hb3⟩; have HB3 := Lib.hid (ujoin HB.out hb3); have k0 := (hb3.cell (World.block_lt_of_cell? _ _ t0)).trans t0; have k1 := (hb3.cell (World.block_lt_of_cell? _ _ t1)).trans t1; have k2 := (hb3.cell (World.block_lt_of_cell? _ _ t2)).trans t2; have HZ3 := Lib.hid ((hb3.block _ (heap_lt' HZ2.out)).trans HZ2.out); clear hb3 t0 t1 t2)
    | (go_at_call 115; refine (HOF.out _).mono ?_; rintro e2 W4 ⟨rfl, e4⟩; have b4 : Below W3.heap.size W3 W4 := (by rw [e4]; exact (Below.refl _ _).alloc (Nat.le_refl _) _); have HBX4 : Hid (W4.heap[W3.heap.size]? = some (.cells #[.int .i64 (wn : Int), .int .i64 (hn : Int), .slice A n c] 55 (0, 0))) := (show _ = _ from by rw [e4]; exact heap_alloc_new _ _); have HB4 := Lib.hid (ujoin HB3.out b4); have HZ4 := Lib.hid ((b4.block _ (heap_lt' HZ3.out)).trans HZ3.out); clear b4 e4)
    | (go_at_call 76; refine (turn1_calls _ W3.heap.size pq pp _ _ A n c ((HB4.out.cell (World.block_lt_of_cell? _ _ HQ.out)).trans HQ.out) ((HB4.out.block _ (heap_lt' HP.out)).trans HP.out)).mono ?_; rintro e3 W5 ⟨pa, rfl, hlo, hat, hb5⟩; have HF := Lib.hid (turn_fun HS.out HN2.out ⟨hat, (hb5.block _ (heap_lt' HBX4.out)).trans HBX4.out, ((ujoin HB4.out hb5).block _ (heap_lt' HP.out)).trans HP.out⟩ (HR.out.below (ujoin HB4.out hb5))); have HB5 := Lib.hid (ujoin HB4.out hb5); have HZ5 := Lib.hid ((hb5.block _ (heap_lt' HZ4.out)).trans HZ4.out); clear hlo hat hb5)
    | (go_at_call 116; refine (mkmade_turn W5 (hn : Int) (wn : Int) pa pp _ HSW.out HF.out).mono ?_; rintro e4 W6 ⟨A6, c6, rfl, hr6, hlo6, hb6⟩; have HB6 := Lib.hid (ujoin HB5.out hb6); have HZ6 := Lib.hid ((hb6.block _ (heap_lt' HZ5.out)).trans HZ5.out); have HR6 := Lib.hid hr6; have HL6 := Lib.hid hlo6; obtain ⟨d1, d2, d3, d4, d5, d6⟩ := st3 HZ6.out (.int .i64 (hn : Int)) (.int .i64 (wn : Int)); clear hr6 hlo6 hb6; unfold plC))
  have hlt5 := heap_lt' HZ5.out
  refine bodyPost_ret (ret_plane rfl _ _ (w.heap.size + 1) _ rfl (st3_end HZ6.out) rfl) rfl ?_
  exact ⟨A6, c6, rfl, st3_row HR6.out (fun ad e => by have := HL6.out ad e; omega), (fun ad e => by have := HL6.out ad e; have := HB5.out.size; omega), st3_below HB6.out (Nat.le_succ _)⟩

set_option maxHeartbeats 3200000 in
set_option maxRecDepth 100000 in
theorem moved_flip (w : World) (pq pp wn hn : Nat) (A : Option Addr) (n c : Nat) (x : Nat → Nat) (hs : sizeB (wn : Int) (hn : Int) = true) (hn2 : n = wn * hn) (hn1 : n ≤ 1000000000) (hr : RowU w A n x) (hq : w.cell? ⟨pq, 0, none⟩ = some (.bool true)) (hp : w.heap[pp]? = some (.cells (plC (wn : Int) (hn : Int) A n c) 55 (0, 0))) :
    Calls Try.prog 75 #[.agg (plC (wn : Int) (hn : Int) A n c), .func (.func 80) #[] #[.pointer (some ⟨pq, 0, none⟩), .pointer (some ⟨pp, 0, none⟩)]] w fun e w' => MvEnd w (wn : Int) (hn : Int) (flipZ x wn hn) e w' := by
  have HPC := Lib.hid fun W => pcheck_calls W (wn : Int) (hn : Int) A n c hn1
  have HPE : Hid (plE (wn : Int) (hn : Int) n = 0) := (show _ = _ from by unfold plE; rw [if_neg (by rw [hs]; decide), if_neg (by rw [hn2, Int.natCast_mul]; simp)])
  rw [HPE.out] at HPC
  have HOF := Lib.hid fun W => pof_calls W (wn : Int) (hn : Int) A n c
  have HR := Lib.hid hr
  have HQ := Lib.hid hq
  have HP := Lib.hid hp
  have HS := Lib.hid hs
  have HN2 := Lib.hid hn2
  have HSW : Hid (sizeB (hn : Int) (wn : Int) = true) := (show _ = _ from by unfold sizeB at hs ⊢; rw [Int.mul_comm]; simp only [Bool.and_eq_true, decide_eq_true_eq] at hs ⊢; omega)
  have z1 := heap_alloc_new w (.cells (plC (wn : Int) (hn : Int) A n c) 55)
  have z2 := heap_alloc_new (w.alloc (.cells (plC (wn : Int) (hn : Int) A n c) 55)) (.cells #[.int .i64 0, .int .i64 0, .slice none 0 0] 55)
  have b1 := (Below.refl w.heap.size w).alloc (Nat.le_refl _) (.cells (plC (wn : Int) (hn : Int) A n c) 55)
  have b2 := (Below.refl _ (w.alloc (.cells (plC (wn : Int) (hn : Int) A n c) 55))).alloc (Nat.le_refl _) (.cells #[.int .i64 0, .int .i64 0, .slice none 0 0] 55)
  have z1' := (b2.block _ (heap_lt' z1)).trans z1
  rw [World.size_alloc] at z2
  have HB := Lib.hid (ujoin b1 b2)
  have HZ1 := Lib.hid z1'
  have HZ2 := Lib.hid z2
  clear hs hn2 hr hq hp z1 z2 z1' b1 b2
  unfold plC at *
  go_enter Try.func75, Try.ntmps75
  go_upto_region 1 with (fail)
  generalize (w.alloc (.cells #[.int .i64 (wn : Int), .int .i64 (hn : Int), .slice A n c] 55)).alloc (.cells #[.int .i64 0, .int .i64 0, .slice none 0 0] 55) = W2 at HB HZ1 HZ2 ⊢
  have t0 := ucell HZ1.out 0
  have t1 := ucell HZ1.out 1
  have t2 := ucell HZ1.out 2
  go_wp2_with (first
    | (go_at_call 71; refine (HPC.out _).mono ?_; rintro e1 W3 ⟨rfl, hb3⟩; have HB3 := Lib.hid (ujoin HB.out hb3); have k0 := (hb3.cell (World.block_lt_of_cell? _ _ t0)).trans t0; have k1 := (hb3.cell (World.block_lt_of_cell? _ _ t1)).trans t1; have k2 := (hb3.cell (World.block_lt_of_cell? _ _ t2)).trans t2; have HZ3 := Lib.hid ((hb3.block _ (heap_lt' HZ2.out)).trans HZ2.out); clear hb3 t0 t1 t2)
    | (go_at_call 115; refine (HOF.out _).mono ?_; rintro e2 W4 ⟨rfl, e4⟩; have b4 : Below W3.heap.size W3 W4 := (by rw [e4]; exact (Below.refl _ _).alloc (Nat.le_refl _) _); have HBX4 : Hid (W4.heap[W3.heap.size]? = some (.cells #[.int .i64 (wn : Int), .int .i64 (hn : Int), .slice A n c] 55 (0, 0))) := (show _ = _ from by rw [e4]; exact heap_alloc_new _ _); have HB4 := Lib.hid (ujoin HB3.out b4); have HZ4 := Lib.hid ((b4.block _ (heap_lt' HZ3.out)).trans HZ3.out); clear b4 e4)
    | (go_at_call 80; refine (flip1_calls _ W3.heap.size pq pp _ _ A n c ((HB4.out.cell (World.block_lt_of_cell? _ _ HQ.out)).trans HQ.out) ((HB4.out.block _ (heap_lt' HP.out)).trans HP.out)).mono ?_; rintro e3 W5 ⟨pa, rfl, hlo, hat, hb5⟩; have HF := Lib.hid (flip_fun HS.out HN2.out ⟨hat, (hb5.block _ (heap_lt' HBX4.out)).trans HBX4.out, ((ujoin HB4.out hb5).block _ (heap_lt' HP.out)).trans HP.out⟩ (HR.out.below (ujoin HB4.out hb5))); have HB5 := Lib.hid (ujoin HB4.out hb5); have HZ5 := Lib.hid ((hb5.block _ (heap_lt' HZ4.out)).trans HZ4.out); clear hlo hat hb5)
    | (go_at_call 116; refine (mkmade_flip W5 (wn : Int) (hn : Int) pa pp _ HS.out HF.out).mono ?_; rintro e4 W6 ⟨A6, c6, rfl, hr6, hlo6, hb6⟩; have HB6 := Lib.hid (ujoin HB5.out hb6); have HZ6 := Lib.hid ((hb6.block _ (heap_lt' HZ5.out)).trans HZ5.out); have HR6 := Lib.hid hr6; have HL6 := Lib.hid hlo6; obtain ⟨d1, d2, d3, d4, d5, d6⟩ := st3 HZ6.out (.int .i64 (wn : Int)) (.int .i64 (hn : Int)); clear hr6 hlo6 hb6; unfold plC))
  have hlt5 := heap_lt' HZ5.out
  refine bodyPost_ret (ret_plane rfl _ _ (w.heap.size + 1) _ rfl (st3_end HZ6.out) rfl) rfl ?_
  exact ⟨A6, c6, rfl, st3_row HR6.out (fun ad e => by have := HL6.out ad e; omega), (fun ad e => by have := HL6.out ad e; have := HB5.out.size; omega), st3_below HB6.out (Nat.le_succ _)⟩
attribute [local go_sem] Oper.semAt_some

set_option maxHeartbeats 3200000 in
set_option maxRecDepth 100000 in
theorem turn_calls (w : World) (wn hn : Nat) (A : Option Addr) (n c : Nat) (x : Nat → Nat) (hs : sizeB (wn : Int) (hn : Int) = true) (hn2 : n = wn * hn) (hn1 : n ≤ 1000000000) (hr : RowU w A n x) :
    Calls Try.prog 38 #[.agg (plC (wn : Int) (hn : Int) A n c), .int .i64 1] w fun e w' => MvEnd w (hn : Int) (wn : Int) (turnZ x wn hn) e w' := by
  have HM := Lib.hid fun W pq pp h1 h2 h3 => moved_turn W pq pp wn hn A n c x hs hn2 hn1 h1 h2 h3
  have HR := Lib.hid hr
  have z1 := heap_alloc_new w (.cells (plC (wn : Int) (hn : Int) A n c) 55)
  obtain ⟨w1, e1⟩ : ∃ w1, w1 = w.alloc (.cells (plC (wn : Int) (hn : Int) A n c) 55) := ⟨_, rfl⟩
  have s1 : w1.heap.size = w.heap.size + 1 := by rw [e1, World.size_alloc]
  have b1 : Below w.heap.size w w1 := by rw [e1]; exact (Below.refl _ _).alloc (Nat.le_refl _) _
  rw [← e1] at z1
  have z2 := heap_alloc_new w1 (.cells #[.int .i64 1] 3)
  obtain ⟨w2, e2⟩ : ∃ w2, w2 = w1.alloc (.cells #[.int .i64 1] 3) := ⟨_, rfl⟩
  have s2 : w2.heap.size = w.heap.size + 1 + 1 := by rw [e2, World.size_alloc, s1]
  have b2 : Below w1.heap.size w1 w2 := by rw [e2]; exact (Below.refl _ _).alloc (Nat.le_refl _) _
  rw [← e2, s1] at z2
  have z3 := heap_alloc_new w2 (.cells #[.int .i64 0, .int .i64 0, .slice none 0 0] 55)
  obtain ⟨w3, e3⟩ : ∃ w3, w3 = w2.alloc (.cells #[.int .i64 0, .int .i64 0, .slice none 0 0] 55) := ⟨_, rfl⟩
  have b3 : Below w2.heap.size w2 w3 := by rw [e3]; exact (Below.refl _ _).alloc (Nat.le_refl _) _
  rw [← e3, s2] at z3
  have HZ1 := Lib.hid (((ujoin b2 b3).block _ (heap_lt' z1)).trans z1)
  have HZ2 := Lib.hid ((b3.block _ (heap_lt' z2)).trans z2)
  have HZ3 := Lib.hid z3
  have HB := Lib.hid (ujoin (ujoin b1 b2) b3)
  have E1 := Lib.hid e1
  have E2 := Lib.hid e2
  have E3 := Lib.hid e3
  clear hs hn2 hr z1 z2 z3 b1 b2 b3 s1 s2 e1 e2 e3
  unfold plC at *
  go_enter Try.func38, Try.ntmps38
  go_upto_region 1 with (fail)
  rw [← E1.out, ← E2.out, ← E3.out]
  have t0 := ucell HZ1.out 0
  have t1 := ucell HZ1.out 1
  have t2 := ucell HZ1.out 2
  clear E1 E2 E3
  go_wp2_with (go_at_call 75; refine (HM.out w3 (w.heap.size + 1) w.heap.size (HR.out.below HB.out) (ucell HZ2.out 0) HZ1.out).mono ?_; rintro e4 W6 ⟨A6, c6, rfl, hr6, hlo6, hb6⟩; have HB6 := Lib.hid (ujoin HB.out hb6); have HZ6 := Lib.hid ((hb6.block _ (heap_lt' HZ3.out)).trans HZ3.out); have HR6 := Lib.hid hr6; have HL6 := Lib.hid hlo6; obtain ⟨d1, d2, d3, d4, d5, d6⟩ := st3 HZ6.out (.int .i64 (hn : Int)) (.int .i64 (wn : Int)); clear hr6 hlo6 hb6; unfold plC)
  have hlt5 := heap_lt' HZ3.out
  refine bodyPost_ret (ret_plane rfl _ _ (w.heap.size + 1 + 1) _ rfl (st3_end HZ6.out) rfl) rfl ?_
  exact ⟨A6, c6, rfl, st3_row HR6.out (fun ad e => by have := HL6.out ad e; omega), (fun ad e => by have := HL6.out ad e; have := HB.out.size; omega), st3_below HB6.out (by omega)⟩

set_option maxHeartbeats 3200000 in
set_option maxRecDepth 100000 in
theorem flip_calls (w : World) (wn hn : Nat) (A : Option Addr) (n c : Nat) (x : Nat → Nat) (hs : sizeB (wn : Int) (hn : Int) = true) (hn2 : n = wn * hn) (hn1 : n ≤ 1000000000) (hr : RowU w A n x) :
    Calls Try.prog 39 #[.agg (plC (wn : Int) (hn : Int) A n c), .bool true] w fun e w' => MvEnd w (wn : Int) (hn : Int) (flipZ x wn hn) e w' := by
  have HM := Lib.hid fun W pq pp h1 h2 h3 => moved_flip W pq pp wn hn A n c x hs hn2 hn1 h1 h2 h3
  have HR := Lib.hid hr
  have z1 := heap_alloc_new w (.cells (plC (wn : Int) (hn : Int) A n c) 55)
  obtain ⟨w1, e1⟩ : ∃ w1, w1 = w.alloc (.cells (plC (wn : Int) (hn : Int) A n c) 55) := ⟨_, rfl⟩
  have s1 : w1.heap.size = w.heap.size + 1 := by rw [e1, World.size_alloc]
  have b1 : Below w.heap.size w w1 := by rw [e1]; exact (Below.refl _ _).alloc (Nat.le_refl _) _
  rw [← e1] at z1
  have z2 := heap_alloc_new w1 (.cells #[.bool true] 4)
  obtain ⟨w2, e2⟩ : ∃ w2, w2 = w1.alloc (.cells #[.bool true] 4) := ⟨_, rfl⟩
  have s2 : w2.heap.size = w.heap.size + 1 + 1 := by rw [e2, World.size_alloc, s1]
  have b2 : Below w1.heap.size w1 w2 := by rw [e2]; exact (Below.refl _ _).alloc (Nat.le_refl _) _
  rw [← e2, s1] at z2
  have z3 := heap_alloc_new w2 (.cells #[.int .i64 0, .int .i64 0, .slice none 0 0] 55)
  obtain ⟨w3, e3⟩ : ∃ w3, w3 = w2.alloc (.cells #[.int .i64 0, .int .i64 0, .slice none 0 0] 55) := ⟨_, rfl⟩
  have b3 : Below w2.heap.size w2 w3 := by rw [e3]; exact (Below.refl _ _).alloc (Nat.le_refl _) _
  rw [← e3, s2] at z3
  have HZ1 := Lib.hid (((ujoin b2 b3).block _ (heap_lt' z1)).trans z1)
  have HZ2 := Lib.hid ((b3.block _ (heap_lt' z2)).trans z2)
  have HZ3 := Lib.hid z3
  have HB := Lib.hid (ujoin (ujoin b1 b2) b3)
  have E1 := Lib.hid e1
  have E2 := Lib.hid e2
  have E3 := Lib.hid e3
  clear hs hn2 hr z1 z2 z3 b1 b2 b3 s1 s2 e1 e2 e3
  unfold plC at *
  go_enter Try.func39, Try.ntmps39
  go_upto_region 1 with (fail)
  rw [← E1.out, ← E2.out, ← E3.out]
  have t0 := ucell HZ1.out 0
  have t1 := ucell HZ1.out 1
  have t2 := ucell HZ1.out 2
  clear E1 E2 E3
  go_wp2_with (go_at_call 75; refine (HM.out w3 (w.heap.size + 1) w.heap.size (HR.out.below HB.out) (ucell HZ2.out 0) HZ1.out).mono ?_; rintro e4 W6 ⟨A6, c6, rfl, hr6, hlo6, hb6⟩; have HB6 := Lib.hid (ujoin HB.out hb6); have HZ6 := Lib.hid ((hb6.block _ (heap_lt' HZ3.out)).trans HZ3.out); have HR6 := Lib.hid hr6; have HL6 := Lib.hid hlo6; obtain ⟨d1, d2, d3, d4, d5, d6⟩ := st3 HZ6.out (.int .i64 (wn : Int)) (.int .i64 (hn : Int)); clear hr6 hlo6 hb6; unfold plC)
  have hlt5 := heap_lt' HZ3.out
  refine bodyPost_ret (ret_plane rfl _ _ (w.heap.size + 1 + 1) _ rfl (st3_end HZ6.out) rfl) rfl ?_
  exact ⟨A6, c6, rfl, st3_row HR6.out (fun ad e => by have := HL6.out ad e; omega), (fun ad e => by have := HL6.out ad e; have := HB.out.size; omega), st3_below HB6.out (by omega)⟩
end Go.Proofs.Ytdcpeeolfgohmaa
