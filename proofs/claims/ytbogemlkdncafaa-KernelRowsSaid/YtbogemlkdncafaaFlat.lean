/- math/bits.Mul at small numbers; slices.Repeat of one 1; kernel.Flat. -/
import Derived.Test.YtbogemlkdncafaaKnownW
import Derived.Laws.CopyOwn
import Derived.Shelf.Bits.Mul64
import Derived.Deep.RegionHeld3
namespace Go.Proofs.Ytbogemlkdncafaa
open Go.RowKit Go.Proofs.YtbogemlkdncafaaW.PrintWords
set_option linter.unusedSimpArgs false
set_option linter.unusedVariables false

set_option maxHeartbeats 1600000 in
set_option maxRecDepth 100000 in
theorem mul64_calls (n : Nat) (hn : n ≤ 1000) (w : World) :
    Calls Try.prog 45 #[.int .u64 1, .int .u64 n] w fun e w' => e = .returned (.tuple #[.int .u64 0, .int .u64 n]) ∧ w = w' := by
  have b1 : bits .and .u64 1 4294967295 = 1 := by decide +kernel
  have b2 : bits .and .u64 (n : Int) 4294967295 = (n : Int) := by
    rw [Go.Proofs.Mul64.maskN n (by omega)]; omega
  have d1 : (n : Int) / 4294967296 = 0 := by omega
  have w1 : IntKind.u64.wrap (n : Int) = (n : Int) := Go.Proofs.Mul64.wrapN n (by omega)
  have b3 : bits .and .u64 0 4294967295 = 0 := by decide +kernel
  go_enter Try.func45, Try.ntmps45
  go_wp2
  go_ret2
  exact ⟨by simp [*], rfl⟩

set_option maxHeartbeats 1600000 in
set_option maxRecDepth 100000 in
theorem mul_calls (n : Nat) (hn : n ≤ 1000) (w : World) :
    Calls Try.prog 41 #[.int .u64 1, .int .u64 n] w fun e w' => e = .returned (.tuple #[.int .u64 0, .int .u64 n]) ∧ w = w' := by
  go_enter Try.func41, Try.ntmps41
  go_wp2_with (go_at_call 45; refine (mul64_calls n hn _).mono ?_; rintro e1 w1 ⟨rfl, rfl⟩)
  go_ret2
  exact ⟨rfl, rfl⟩

/-- m ones, then zeros. -/
def onesTo (n m : Nat) : List Value := List.replicate m (.int .i64 1) ++ List.replicate (n - m) (.int .i64 0)
theorem onesTo_len {n m : Nat} (h : m ≤ n) : (onesTo n m).length = n := by simp [onesTo]; omega
theorem onesTo_zero (n : Nat) : (onesTo n 0).toArray = madeCells #[.int .i64 0] n := by
  apply Array.ext
  · simp [onesTo, madeCells]
  · intro i h1 h2
    simp [onesTo, madeCells, Nat.mod_one]
theorem onesTo_get {n m j : Nat} (h : j < m) : (onesTo n m)[j]? = some (.int .i64 1) := by
  rw [onesTo, List.getElem?_append_left (by simpa using h)]
  simp [h]
theorem onesTo_splice {n m k : Nat} (h : m + k ≤ n) : splice (onesTo n m) m (List.replicate k (.int .i64 1)) = onesTo n (m + k) := by
  unfold splice onesTo
  have e1 : (List.replicate m (Value.int .i64 1) ++ List.replicate (n - m) (Value.int .i64 0)).take m = List.replicate m (.int .i64 1) := by
    rw [List.take_append_of_le_length (by simp), List.take_of_length_le (by simp)]
  have e2 : (List.replicate m (Value.int .i64 1) ++ List.replicate (n - m) (Value.int .i64 0)).drop (m + (List.replicate k (Value.int .i64 1)).length) = List.replicate (n - (m + k)) (Value.int .i64 0) := by
    rw [List.length_replicate, List.drop_append, List.drop_of_length_le (by simp), List.nil_append, List.drop_replicate, List.length_replicate]
    congr 1; omega
  rw [e1, e2, ← List.append_assoc, List.replicate_append_replicate]

set_option maxHeartbeats 1600000 in
set_option maxRecDepth 100000 in
theorem repeat1_calls (n c : Nat) (h1 : 1 ≤ n) (h2 : n ≤ 100) (ad : Addr) (w : World) (hc : w.cell? ad = some (.int .i64 1)) :
    Calls Try.prog 34 #[.slice (some ad) 1 c, .int .i64 n] w fun e w' => ∃ g, e = .returned (.slice (some ⟨g, 0, none⟩) n n) ∧ w'.heap[g]? = some (.cells (onesTo n n).toArray 3 (0, 0)) ∧ w.heap.size ≤ g ∧ Below w.heap.size w w' := by
  have HM := Lib.hid (make_ints n (by omega))
  have d0 : decide ((n : Int) < 0) = false := decide_eq_false (by omega)
  have d1 : decide ((9223372036854775807 : Int) < (n : Int)) = false := decide_eq_false (by omega)
  have w1 : IntKind.u64.wrap (n : Int) = (n : Int) := Go.Proofs.Mul64.wrapN n (by omega)
  have w2 : IntKind.i64.wrap (n : Int) = (n : Int) := IntWalk.i64_in _ (by omega)
  go_enter Try.func34, Try.ntmps34
  go_upto_region 6 with (go_at_call 41; refine (mul_calls n (by omega) _).mono ?_; rintro e1 w1 ⟨rfl, rfl⟩)
  have hm := HM.out
  clear HM
  go_upto_region 7 with (fail)
  have HG : Hid ((w.alloc (.cells (madeCells #[.int .i64 0] n) 3)).heap[w.heap.size]? = some (.cells (onesTo n 0).toArray 3 (0, 0))) := (show _ = _ by rw [onesTo_zero]; exact heap_alloc_new w _)
  have HB : Hid (Below w.heap.size w (w.alloc (.cells (madeCells #[.int .i64 0] n) 3))) := (Below.refl _ _).alloc (Nat.le_refl _) _
  have HC : Hid (∀ j v, (List.replicate 1 (Value.int .i64 1))[j]? = some v → (w.alloc (.cells (madeCells #[.int .i64 0] n) 3)).cell? (ad.add j) = some v) := fun j v h => by
    have hj : j = 0 := by
      rcases Nat.eq_zero_or_pos j with h0 | h0
      · exact h0
      · rw [List.getElem?_eq_none (by simp; omega)] at h; cases h
    subst hj
    have e : v = .int .i64 1 := by simpa using h.symm
    rw [e, ((Below.refl w.heap.size w).alloc (Nat.le_refl _) _).cell (by have := World.block_lt_of_cell? _ _ hc; simpa [Addr.add] using this)]
    simpa [Addr.add] using hc
  have hsz : (Try.prog.info? 3).map (·.size) = some 1 := by kernel_rfl
  have HSZ := Lib.hid hsz
  clear hsz hm d0 d1 w1 w2
  generalize w.alloc (.cells (madeCells #[.int .i64 0] n) 3) = ws at HG HB HC ⊢
  obtain ⟨g, eg⟩ : ∃ g, g = w.heap.size := ⟨_, rfl⟩
  rw [← eg] at HG ⊢
  have hgb : w.heap.size ≤ g := by omega
  clear eg hc
  have hn' : (List.replicate 1 (Value.int .i64 1)).length = Nat.min 1 n := by rw [List.length_replicate]; exact (Nat.min_eq_left h1).symm
  have hf' : 0 + (List.replicate 1 (Value.int .i64 1)).length ≤ (onesTo n 0).length := by rw [onesTo_len (by omega), List.length_replicate]; omega
  have ho' : ∀ v ∈ List.replicate 1 (Value.int .i64 1), v.oneCell' = true := fun v hv => by rw [List.eq_of_mem_replicate hv]; rfl
  have hs' : splice (onesTo n 0) 0 (List.replicate 1 (.int .i64 1)) = onesTo n 1 := onesTo_splice (m := 0) (k := 1) (by omega)
  have HN' := Lib.hid hn'
  have HF' := Lib.hid hf'
  have HO' := Lib.hid ho'
  have HS' := Lib.hid hs'
  clear hn' hf' ho' hs'
  go_wp2_with (refine wpList_copy_splice (P := Try.prog) rfl (.tmp 31) (.tmp 32) 33 33 rfl 3 Try.underlying33 HSZ.out (some ⟨g, 0, none⟩) (some ad) n n 1 c rfl rfl g 0 (onesTo n 0) 3 HG.out (List.replicate 1 (.int .i64 1)) HN'.out (fun _ => ⟨rfl, ad, rfl, HC.out⟩) HF'.out HO'.out w.heap.size w HB.out hgb ?_; intro w2 hh hb; rw [HS'.out] at hh; have HG2 := Lib.hid hh; have HB2 := Lib.hid hb; clear hh hb HG HB HC)
  go_loopg [8] n (fun kq v8 wr => ∃ m : Nat, v8 = .int .i64 m ∧ 1 ≤ m ∧ m ≤ n ∧ n ≤ m + kq ∧ Hid (wr.heap[g]? = some (.cells (onesTo n m).toArray 3 (0, 0))) ∧ Aside (Below w.heap.size w wr))
  case atStart => exact ⟨1, by simp, by omega, by omega, by omega, HG2, HB2.out⟩
  case round =>
    obtain ⟨m, rfl, hm1, hm2, hk, HG3, HB3⟩ := hrel
    by_cases hlt : m < n
    · have hltz : (m : Int) < (n : Int) := by omega
      have hle : (m : Int) ≤ (n : Int) := by omega
      obtain ⟨k, ek⟩ : ∃ k, k = Nat.min m (n - m) := ⟨_, rfl⟩
      have hk1 : 1 ≤ k ∧ m + k ≤ n := by
        rcases Nat.le_total m (n - m) with h | h
        · have : k = m := by rw [ek]; exact Nat.min_eq_left h
          omega
        · have : k = n - m := by rw [ek]; exact Nat.min_eq_right h
          omega
      have hn' : (List.replicate k (Value.int .i64 1)).length = Nat.min m (n - m) := by rw [List.length_replicate]; exact ek
      have hf' : m + (List.replicate k (Value.int .i64 1)).length ≤ (onesTo n m).length := by rw [onesTo_len (by omega), List.length_replicate]; omega
      have ho' : ∀ v ∈ List.replicate k (Value.int .i64 1), v.oneCell' = true := fun v hv => by rw [List.eq_of_mem_replicate hv]; rfl
      have hs' : splice (onesTo n m) m (List.replicate k (.int .i64 1)) = onesTo n (m + k) := onesTo_splice hk1.2
      have hc' : ∀ W : World, W.heap[g]? = some (.cells (onesTo n m).toArray 3 (0, 0)) → ∀ j v, (List.replicate k (Value.int .i64 1))[j]? = some v → W.cell? ((⟨g, 0, none⟩ : Addr).add j) = some v := fun W hW j v hv => by
        have hjk : j < k := by
          rcases Nat.lt_or_ge j k with h | h
          · exact h
          · rw [List.getElem?_eq_none (by simp; omega)] at hv; cases hv
        have e : v = .int .i64 1 := by
          have := List.mem_of_getElem? hv
          exact List.eq_of_mem_replicate this
        have hkm : k ≤ m := by rw [ek]; exact Nat.min_le_left _ _
        rw [add_plain, bcell hW, e]
        simpa using onesTo_get (n := n) (show j < m by omega)
      have HN2 := Lib.hid hn'
      have HF2 := Lib.hid hf'
      have HO2 := Lib.hid ho'
      have HS2 := Lib.hid hs'
      have HC2 := Lib.hid hc'
      clear hn' hf' ho' hs' hc' ek
      go_upto_region 9 with (fail)
      have HG4 : Hid (wr.drew.heap[g]? = some (.cells (onesTo n m).toArray 3 (0, 0))) := HG3.out
      have WK : IntKind.i64.wrap ((m : Int) + (k : Int)) = ((m + k : Nat) : Int) := by rw [IntWalk.i64_in _ (by omega)]; omega
      have HNM : Hid (¬ n = m) := (show ¬ _ by omega)
      have HC3 := Lib.hid (HC2.out wr.drew HG4.out)
      go_region_held3 (fun _ => True) (exact trivial) ((refine step_copy_splice (P := Try.prog) (by rfl) (.tmp 41) (.tmp 44) 33 33 (by rfl) 3 Try.underlying33 HSZ.out (if n = m then some ⟨g, 0, none⟩ else some ⟨g, m, none⟩) (some ⟨g, 0, none⟩) (n - m) (n - m) m n (by rfl) (by rfl) g m (onesTo n m) 3 HG4.out (List.replicate k (.int .i64 1)) HN2.out (fun _ => ⟨if_neg HNM.out, _, rfl, HC3.out⟩) HF2.out HO2.out w.heap.size w HB3.out.drew hgb ?_; intro w3 hh hb; rw [HS2.out] at hh; have HG5 := Lib.hid hh; have HB5 := Lib.hid hb; clear hh hb))
      go_wp2
      go_roundg (n - (m + k))
      case measure => omega
      case rel => exact ⟨m + k, by first | rfl | go_num | (simp [WK]; done) | (rw [List.length_replicate, WK]), by omega, by omega, by omega, HG5, HB5.out⟩
    · have hltz : ¬ (m : Int) < (n : Int) := by omega
      have e : m = n := by omega
      subst e
      go_wp2
      go_ret
      exact ⟨g, rfl, HG3.out, hgb, HB3.out⟩

def flatErr (r : Int) : Int := if 0 ≤ r ∧ r ≤ 31 then 0 else 91
def flatRow (r : Int) : List Int := if 0 ≤ r ∧ r ≤ 31 then List.replicate (2 * r.toNat + 1) 1 else []

theorem onesTo_all (n : Nat) : onesTo n n = nums .i64 (List.replicate n 1) := by simp [onesTo, nums]

set_option maxHeartbeats 1600000 in
set_option maxRecDepth 100000 in
theorem kFlat_calls (r : Int) (w : World) :
    Calls Try.prog 23 #[.int .i64 r] w fun e w' => RowErr w (flatRow r) (flatErr r) e w' := by
  by_cases h0 : r < 0
  · have E : Hid (flatErr r = 91 ∧ flatRow r = []) := ⟨if_neg (by omega), if_neg (by omega)⟩
    have hd : decide (r < 0) = true := decide_eq_true h0
    clear h0
    go_enter Try.func23, Try.ntmps23
    go_wp2
    go_ret2
    rw [E.out.1, E.out.2]
    exact rowErr_nil _ _ _ (Below.refl _ _)
  · have hd : decide (r < 0) = false := decide_eq_false h0
    by_cases h8 : 31 < r
    · have E : Hid (flatErr r = 91 ∧ flatRow r = []) := ⟨if_neg (by omega), if_neg (by omega)⟩
      have hd8 : decide (31 < r) = true := decide_eq_true h8
      clear h0 h8
      go_enter Try.func23, Try.ntmps23
      go_wp2
      go_ret2
      rw [E.out.1, E.out.2]
      exact rowErr_nil _ _ _ (Below.refl _ _)
    · have E : Hid (flatErr r = 0 ∧ flatRow r = List.replicate (2 * r.toNat + 1) 1) := ⟨if_pos (by omega), if_pos (by omega)⟩
      have hd8 : decide (31 < r) = false := decide_eq_false h8
      obtain ⟨m, rfl⟩ := Int.eq_ofNat_of_zero_le (by omega : 0 ≤ r)
      rw [Int.toNat_natCast] at E
      obtain ⟨n, en⟩ : ∃ n, n = 2 * m + 1 := ⟨_, rfl⟩
      have W2 : IntKind.i64.wrap (2 * (m : Int)) = 2 * (m : Int) := IntWalk.i64_in _ (by omega)
      have W3 : IntKind.i64.wrap (2 * (m : Int) + 1) = (n : Int) := by rw [IntWalk.i64_in _ (by omega)]; omega
      have HR : Hid (∀ W : World, Calls Try.prog 34 #[.slice (some ⟨W.heap.size, 0, none⟩) 1 1, .int .i64 (n : Int)] (W.alloc (.cells #[.int .i64 1] 3)) fun e w' => ∃ g, e = .returned (.slice (some ⟨g, 0, none⟩) n n) ∧ w'.heap[g]? = some (.cells (onesTo n n).toArray 3 (0, 0)) ∧ (W.alloc (.cells #[.int .i64 1] 3)).heap.size ≤ g ∧ Below (W.alloc (.cells #[.int .i64 1] 3)).heap.size (W.alloc (.cells #[.int .i64 1] 3)) w') := fun W =>
        repeat1_calls n 1 (by omega) (by omega) _ _ (by simp)
      rw [← en] at E
      have hn : n ≤ 63 := by omega
      clear h0 h8 en
      go_enter Try.func23, Try.ntmps23
      go_wp2_with (go_at_call 34; refine (HR.out _).mono ?_; rintro e1 w1 ⟨g, rfl, hg, hsz, hb⟩; have HG := Lib.hid hg; have HB := Lib.hid (below_of_alloc hb); have HZ : Hid (w.heap.size ≤ g) := (show _ ≤ _ by simp at hsz; omega); clear hg hsz hb)
      go_ret2
      rw [E.out.1, E.out.2]
      refine ⟨some ⟨g, 0, none⟩, n, by rw [List.length_replicate]; rfl, ?_, HB.out⟩
      have ho : w1.ownsRow w.heap.size 3 1 (.slice (some ⟨g, 0, none⟩) n n) n (nums .i64 (List.replicate n 1)) := by
        rw [← onesTo_all]
        refine ⟨by rw [onesTo_len (Nat.le_refl _)]; omega, .inr ⟨g, n, (onesTo n n).toArray, rfl, HZ.out, HG.out, ?_⟩⟩
        have hl := onesTo_len (Nat.le_refl n)
        refine ⟨Nat.le_refl _, by simp only [maxLen]; omega, by simp [hl], ?_⟩
        rw [Nat.mul_one, List.toList_toArray, List.take_of_length_le (by omega)]
      rw [List.length_replicate]; exact ho
end Go.Proofs.Ytbogemlkdncafaa
