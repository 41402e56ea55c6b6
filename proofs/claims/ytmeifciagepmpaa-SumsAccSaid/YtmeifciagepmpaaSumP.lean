/- sums.Pairs, halideref3.Pairs. -/
import Derived.Test.YtmeifciagepmpaaSumM
namespace Go.Proofs.Ytmeifciagepmpaa
open Go.RowKit Go.Proofs.YtmeifciagepmpaaW.PrintWords
set_option linter.unusedSimpArgs false
set_option linter.unusedVariables false

/-- A drawn region whose operations only read and whose callees keep a class of worlds: one walk. -/
theorem wp_region_quietC {P : Program} {id : Nat} {Q : Exit → Act → World → Prop} {a : Act} {w : World} {l : List Oper} (C : World → Prop) (hm : P.follows .mixedOrders = true) (hB : Region.lexB .any l.toArray = true) (hC : C { w with drawn := w.drawn + 1 })
    (h : wpQuiet P l.toArray C (fun a' => ∀ w', C w' → Q .normal a' w') l a) : (Code.region id l.toArray true).wp P Q a w :=
  wp_region_quiet (C := C) hm hB hC (by simpa using h)
theorem Gives.keepC {w W w' : World} {v : Value} {e : Ending} (hb : Below w.heap.size w W) (hg : Gives W v e w') : e = .returned v ∧ Below w.heap.size w w' := by
  obtain ⟨h1, h2⟩ := hg
  exact ⟨h1, ujoin hb h2⟩
def pairsOf (x : Nat → Nat) (n : Nat) : Nat :=
  if n = 0 then 0 else if n = 1 then first32 (x 0) else add32 (pairsOf x (n / 2)) (pairsOf (fun k => x (k + n / 2)) (n - n / 2))
termination_by n
decreasing_by all_goals omega
theorem pairsOf_zero (x : Nat → Nat) : pairsOf x 0 = 0 := by rw [pairsOf]; rfl
theorem pairsOf_one (x : Nat → Nat) : pairsOf x 1 = first32 (x 0) := by rw [pairsOf]; rfl
theorem pairsOf_more (x : Nat → Nat) {n h : Nat} (hn : 2 ≤ n) (hh : h = n / 2) : pairsOf x n = add32 (pairsOf x h) (pairsOf (fun k => x (k + h)) (n - h)) := by
  rw [pairsOf, if_neg (by omega), if_neg (by omega), hh]
theorem pairsOf_lt (x : Nat → Nat) (n : Nat) (hx : ∀ k, k < n → x k < 4294967296) : pairsOf x n < 4294967296 := by
  rcases (show n = 0 ∨ n = 1 ∨ 2 ≤ n by omega) with rfl | rfl | h
  · rw [pairsOf_zero]; decide
  · rw [pairsOf_one]; exact first32_lt (hx 0 (by decide))
  · rw [pairsOf_more x h rfl]; exact add32_lt _ _
theorem RowU.part {w : World} {ad : Addr} {n : Nat} {x : Nat → Nat} (h : RowU w (some ad) n x) (m : Nat) (hm : 1 ≤ m) (j : Nat) (hj : m + j ≤ n) : RowU w (some (ad.add m)) j (fun k => x (k + m)) := fun h1 => by
  obtain ⟨ad', e, hc⟩ := h (by omega)
  cases e
  refine ⟨_, rfl, fun i hi => ?_⟩
  have := hc (i + m) (by omega)
  rw [show (ad.add m).add i = ad.add (i + m) by by_cases h0 : i = 0; (subst h0; rw [u_add0, Nat.zero_add]); (unfold Addr.add; rw [if_neg h0, if_neg (by omega), if_neg (by omega), show ad.off + (i + m) = ad.off + m + i by omega])]
  exact this

set_option maxHeartbeats 1600000 in
set_option maxRecDepth 100000 in
theorem rPairs_calls : ∀ (n : Nat) (w : World) (A : Option Addr) (c : Nat) (x : Nat → Nat), RowU w A n x → n ≤ c → n ≤ 1000000000 → (∀ k, k < n → x k < 4294967296) →
    Calls Try.prog 20 #[.slice A n c] w fun e w' => Gives w (.int .u32 ((pairsOf x n : Nat) : Int)) e w' := by
  intro n
  induction n using Nat.strongRecOn with
  | ind n ih =>
  intro w A c x hr hc hn hx
  have HX := Lib.hid hx
  have HR := Lib.hid hr
  have IH := Lib.hid ih
  clear hx hr ih
  rcases (show n = 0 ∨ n = 1 ∨ 2 ≤ n by omega) with rfl | rfl | h2
  · rw [pairsOf_zero]
    go_enter Try.func20, Try.ntmps20
    go_wp2
    go_ret
    exact ⟨rfl, Below.refl _ _⟩
  · rw [pairsOf_one]
    obtain ⟨ad, rfl, hca⟩ := HR.out (by omega)
    have C0 := hca 0 (by omega)
    rw [u_add0] at C0
    have HF := Lib.hid fun W => first_calls (x 0) (HX.out 0 (by omega)) W
    obtain ⟨v, ev⟩ : ∃ v, v = first32 (x 0) := ⟨_, rfl⟩
    rw [← ev] at HF
    rw [← ev]
    obtain ⟨a, ea⟩ : ∃ a, a = x 0 := ⟨_, rfl⟩
    rw [← ea] at C0 HF
    clear hca ev ea
    go_enter Try.func20, Try.ntmps20
    go_wp2_with (go_at_call 50; refine (HF.out _).mono ?_; rintro e1 w1 ⟨rfl, hbel⟩; have HB1 := Lib.hid hbel; clear hbel)
    go_ret
    exact ⟨rfl, HB1.out⟩
  · obtain ⟨h, eh⟩ : ∃ h, h = n / 2 := ⟨_, rfl⟩
    rw [pairsOf_more x h2 eh]
    obtain ⟨ad, rfl, hca⟩ := HR.out (by omega)
    have hh1 : 1 ≤ h := by omega
    have hh2 : h < n := by omega
    have P1 := Lib.hid fun (W : World) (hb : Below w.heap.size w W) => IH.out h hh2 W (some ad) c x ((HR.out.shorter (by omega)).below hb) (by omega) (by omega) (fun k hk => HX.out k (by omega))
    have P2 := Lib.hid fun (W : World) (hb : Below w.heap.size w W) => IH.out (n - h) (by omega) W (some (ad.add h)) (c - h) (fun k => x (k + h)) ((HR.out.part h hh1 (n - h) (by omega)).below hb) (by omega) (by omega) (fun k hk => HX.out (k + h) (by omega))
    have L1 : pairsOf x h < 4294967296 := pairsOf_lt x h (fun k hk => HX.out k (by omega))
    have L2 : pairsOf (fun k => x (k + h)) (n - h) < 4294967296 := pairsOf_lt _ (n - h) (fun k hk => HX.out (k + h) (by omega))
    obtain ⟨a, ea⟩ : ∃ a, a = pairsOf x h := ⟨_, rfl⟩
    obtain ⟨b, eb⟩ : ∃ b, b = pairsOf (fun k => x (k + h)) (n - h) := ⟨_, rfl⟩
    rw [← ea] at P1 L1
    rw [← eb] at P2 L2
    rw [← ea, ← eb]
    have HA := Lib.hid fun W => rAdd_calls a b L1 L2 W
    obtain ⟨v, ev⟩ : ∃ v, v = add32 a b := ⟨_, rfl⟩
    rw [← ev] at HA
    rw [← ev]
    have hz : ((n : Int) == 0) = false := by rw [beq_eq_false_iff_ne]; omega
    have hz1 : ((n : Int) == 1) = false := by rw [beq_eq_false_iff_ne]; omega
    have hq : (n : Int) / 2 = (h : Int) := by omega
    have hsub : ((n : Int) - (h : Int)).toNat = n - h := by omega
    clear ev ea eb hca IH
    have hch : ¬ c = h := by omega
    have hch2 : ¬ c - h = 0 := by omega
    have hch3 : ¬ c ≤ h := by omega
    have hh0 : ¬ h = 0 := by omega
    have hhn : (h : Int) ≤ (n : Int) := by omega
    have hhc : (h : Int) ≤ (c : Int) := by omega
    have hnc : (n : Int) ≤ (c : Int) := by omega
    have hhp : (0 : Int) ≤ (h : Int) := by omega
    have hle : h ≤ n := by omega
    have hlc : h ≤ c := by omega
    clear eh
    go_enter Try.func20, Try.ntmps20
    go_wp2
    refine wp_region_quietC (fun w' => Below w.heap.size w w') (by kernel_rfl) (by kernel_rfl) ((Below.refl _ w).drew) ?_
    repeat (go_big_quiet_step (first
      | (intro _; rfl)
      | (intro hb; go_at_call 20; with_reducible refine (P1.out _ hb).mono ?_; exact fun e1 w1 hg => Gives.keepC hb hg)
      | (intro hb; go_at_call 20; with_reducible refine (P2.out _ hb).mono ?_; exact fun e1 w1 hg => Gives.keepC hb hg)
      | (intro hb; go_at_call 51; refine (HA.out _).mono ?_; exact fun e1 w1 hg => Gives.keepC hb hg)))
    refine wpQuiet_nil ?_
    intro wC hC
    go_wp2
    go_ret
    exact ⟨rfl, hC⟩
set_option maxHeartbeats 1600000 in
set_option maxRecDepth 100000 in
theorem pPairs_calls : ∀ (n : Nat) (w : World) (A : Option Addr) (c : Nat) (x : Nat → Nat), RowU w A n x → n ≤ c → n ≤ 1000000000 → (∀ k, k < n → x k < 4294967296) →
    Calls Try.prog 19 #[.slice A n c] w fun e w' => Gives w (.int .u32 ((pairsOf x n : Nat) : Int)) e w' := by
  intro n
  induction n using Nat.strongRecOn with
  | ind n ih =>
  intro w A c x hr hc hn hx
  have HX := Lib.hid hx
  have HR := Lib.hid hr
  have IH := Lib.hid ih
  clear hx hr ih
  rcases (show n = 0 ∨ n = 1 ∨ 2 ≤ n by omega) with rfl | rfl | h2
  · rw [pairsOf_zero]
    go_enter Try.func19, Try.ntmps19
    go_wp2
    go_ret
    exact ⟨rfl, Below.refl _ _⟩
  · rw [pairsOf_one]
    have HF := Lib.hid fun W (hb : Below w.heap.size w W) => pLeft_calls W A 1 c x (HR.out.below hb) hc (by omega) HX.out
    have e1 : leftOf x 1 = first32 (x 0) := rfl
    rw [e1] at HF
    obtain ⟨v, ev⟩ : ∃ v, v = first32 (x 0) := ⟨_, rfl⟩
    rw [← ev] at HF
    rw [← ev]
    clear ev e1
    have hb0 : Below w.heap.size w w := Below.refl _ _
    go_enter Try.func19, Try.ntmps19
    go_wp2_with (go_at_call 14; refine (HF.out _ hb0).mono ?_; rintro e1 w1 ⟨rfl, hbel⟩; have HB1 := Lib.hid hbel; clear hbel)
    go_ret
    exact ⟨rfl, HB1.out⟩
  · obtain ⟨h, eh⟩ : ∃ h, h = n / 2 := ⟨_, rfl⟩
    rw [pairsOf_more x h2 eh]
    obtain ⟨ad, rfl, hca⟩ := HR.out (by omega)
    have hh1 : 1 ≤ h := by omega
    have hh2 : h < n := by omega
    have P1 := Lib.hid fun (W : World) (hb : Below w.heap.size w W) => IH.out h hh2 W (some ad) c x ((HR.out.shorter (by omega)).below hb) (by omega) (by omega) (fun k hk => HX.out k (by omega))
    have P2 := Lib.hid fun (W : World) (hb : Below w.heap.size w W) => IH.out (n - h) (by omega) W (some (ad.add h)) (c - h) (fun k => x (k + h)) ((HR.out.part h hh1 (n - h) (by omega)).below hb) (by omega) (by omega) (fun k hk => HX.out (k + h) (by omega))
    have L1 : pairsOf x h < 4294967296 := pairsOf_lt x h (fun k hk => HX.out k (by omega))
    have L2 : pairsOf (fun k => x (k + h)) (n - h) < 4294967296 := pairsOf_lt _ (n - h) (fun k hk => HX.out (k + h) (by omega))
    obtain ⟨a, ea⟩ : ∃ a, a = pairsOf x h := ⟨_, rfl⟩
    obtain ⟨b, eb⟩ : ∃ b, b = pairsOf (fun k => x (k + h)) (n - h) := ⟨_, rfl⟩
    rw [← ea] at P1 L1
    rw [← eb] at P2 L2
    rw [← ea, ← eb]
    have HA := Lib.hid fun W => pAdd_calls a b W
    obtain ⟨v, ev⟩ : ∃ v, v = add32 a b := ⟨_, rfl⟩
    rw [← ev] at HA
    rw [← ev]
    have hz : ((n : Int) == 0) = false := by rw [beq_eq_false_iff_ne]; omega
    have hz1 : ((n : Int) == 1) = false := by rw [beq_eq_false_iff_ne]; omega
    have hq : (n : Int) / 2 = (h : Int) := by omega
    have hsub : ((n : Int) - (h : Int)).toNat = n - h := by omega
    clear ev ea eb hca IH
    have hch : ¬ c = h := by omega
    have hch2 : ¬ c - h = 0 := by omega
    have hch3 : ¬ c ≤ h := by omega
    have hh0 : ¬ h = 0 := by omega
    have hhn : (h : Int) ≤ (n : Int) := by omega
    have hhc : (h : Int) ≤ (c : Int) := by omega
    have hnc : (n : Int) ≤ (c : Int) := by omega
    have hhp : (0 : Int) ≤ (h : Int) := by omega
    have hle : h ≤ n := by omega
    have hlc : h ≤ c := by omega
    clear eh
    go_enter Try.func19, Try.ntmps19
    go_wp2
    refine wp_region_quietC (fun w' => Below w.heap.size w w') (by kernel_rfl) (by kernel_rfl) ((Below.refl _ w).drew) ?_
    repeat (go_big_quiet_step (first
      | (intro _; rfl)
      | (intro hb; go_at_call 19; with_reducible refine (P1.out _ hb).mono ?_; exact fun e1 w1 hg => Gives.keepC hb hg)
      | (intro hb; go_at_call 19; with_reducible refine (P2.out _ hb).mono ?_; exact fun e1 w1 hg => Gives.keepC hb hg)
      | (intro hb; go_at_call 49; refine (HA.out _).mono ?_; exact fun e1 w1 hg => ⟨hg.1, ujoin hb hg.2.below⟩)))
    refine wpQuiet_nil ?_
    intro wC hC
    go_wp2
    go_ret
    exact ⟨rfl, hC⟩
end Go.Proofs.Ytmeifciagepmpaa
