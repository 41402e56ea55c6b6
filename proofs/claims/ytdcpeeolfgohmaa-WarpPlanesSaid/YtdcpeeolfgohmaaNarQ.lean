/- Plain: the spots of a place: their weights sum to 65536, so their sample never overflows. -/
import Derived.Test.YtdcpeeolfgohmaaWmZN
import Derived.Test.YtdcpeeolfgohmaaWmY
import Derived.Test.YtdcpeeolfgohmaaNarCP
namespace Go.Proofs.Ytdcpeeolfgohmaa
open Go.RowKit
set_option linter.unusedSimpArgs false
set_option linter.unusedVariables false

theorem shared4_sum {q f g : Int} (hq : 1 ≤ q) {res : Nat → Int} (h : IsShared (wt4 q f g) 4 res) : sumTo res 4 = 65536 := by
  obtain ⟨S, hT, hS⟩ := h
  have hpos : 1 ≤ sumTo (wt4 q f g) 4 := by
    rw [wt4_sum]
    have := Int.mul_le_mul hq hq (by omega) (by omega)
    omega
  have hl := left_bd (x := wt4 q f g) (n := 4) hpos (by decide) rfl
  have hc := hT.cnt
  generalize sumTo (wt4 q f g) 4 = s at *
  have e0 := hS 0 (by omega)
  have e1 := hS 1 (by omega)
  have e2 := hS 2 (by omega)
  have e3 := hS 3 (by omega)
  simp only [sumTo, countTo] at *
  omega
/-- The weights of the first ones. -/
def wtTo (L : List Spt) (k : Nat) : Nat := ((L.take k).map fun s => s.N.toNat).sum
theorem wtTo_succ (L : List Spt) (k : Nat) : wtTo L (k + 1) = wtTo L k + (spN L k).toNat := by
  unfold wtTo spN
  rcases Nat.lt_or_ge k L.length with h | h
  · rw [List.take_succ_eq_append_getElem h, List.map_append, List.sum_append, List.getD_eq_getElem?_getD, List.getElem?_eq_getElem h]
    simp
  · rw [List.take_of_length_le (by omega), List.take_of_length_le h, List.getD_eq_getElem?_getD, List.getElem?_eq_none h]
    simp
theorem spotsTo_sum {border W H i j : Int} {res : Nat → Int} : ∀ k, (∀ a, a < k → 0 ≤ res a) → ((((spotsTo border W H i j res k).map fun s => s.N.toNat).sum : Nat) : Int) = sumTo res k
  | 0, _ => rfl
  | k + 1, h => by
    have ih := spotsTo_sum (border := border) (W := W) (H := H) (i := i) (j := j) k fun a ha => h a (by omega)
    have hk := h k (by omega)
    unfold spotsTo sumTo
    split
    · omega
    · rw [List.map_append, List.sum_append]
      simp only [List.map_cons, List.map_nil, List.sum_cons, List.sum_nil, sptAt]
      omega
theorem spotsTo_pos {border W H i j : Int} {res : Nat → Int} : ∀ k, ∀ s, s ∈ spotsTo border W H i j res k → ∃ a, a < k ∧ res a ≠ 0 ∧ s.N = res a
  | 0, s, h => by cases h
  | k + 1, s, h => by
    unfold spotsTo at h
    split at h
    · obtain ⟨a, h1, h2⟩ := spotsTo_pos k s h
      exact ⟨a, by omega, h2⟩
    · rename_i hz
      rcases List.mem_append.1 h with h | h
      · obtain ⟨a, h1, h2⟩ := spotsTo_pos k s h
        exact ⟨a, by omega, h2⟩
      · rw [List.mem_singleton.1 h]
        exact ⟨k, by omega, hz, rfl⟩
/-- A place's sum of products never overflows the narrowing. -/
theorem spots_narrow {kind border : Int} {t : Wp} {W H x y : Int} {L : List Spt} (hq : 1 ≤ t.Q) (hk : kind ≠ 1) (h : IsSpots kind border t W H x y L) (z : Nat → Nat) : NarrowOk (dotB (spN L) z L.length) := by
  rcases h with ⟨e, _⟩ | ⟨_, res, hs, rfl⟩
  · exact absurd e hk
  have hf := Int.emod_nonneg (fromU t x y) (show t.Q ≠ 0 by omega)
  have hf2 := Int.emod_lt_of_pos (fromU t x y) (show 0 < t.Q by omega)
  have hg := Int.emod_nonneg (fromV t x y) (show t.Q ≠ 0 by omega)
  have hg2 := Int.emod_lt_of_pos (fromV t x y) (show 0 < t.Q by omega)
  have hb := shared4_in hq ⟨hf, hf2⟩ ⟨hg, hg2⟩ hs
  refine narrow_dot _ _ (wtTo _) (wtTo_succ _) _ (fun i hi => ?_) ?_
  · unfold spN
    rw [List.getD_eq_getElem?_getD, List.getElem?_eq_getElem hi, Option.getD_some]
    obtain ⟨a, ha, h0, e⟩ := spotsTo_pos 4 _ (List.getElem_mem hi)
    have := hb a ha
    omega
  · unfold wtTo
    rw [List.take_length]
    have := spotsTo_sum (border := border) (W := W) (H := H) (i := fromU t x y / t.Q) (j := fromV t x y / t.Q) 4 fun a ha => (hb a ha).1
    rw [shared4_sum hq hs] at this
    omega
/-- warp.Plane, where it answers. -/
theorem plane_yes (W H : Int) (A : Option Addr) (np cp : Nat) (kind border : Int) (t : Wp) (w h : Int) (x : Nat → Nat) (w0 : World) (hnp : np ≤ 1000000000) (hrow : RowU w0 A np x) (hxb : ∀ k, k < np → x k < 4294967296) (he : plE W H np = 0) (hr : rightE kind border t W H = 0) (hs : sizeB w h = true) :
    Calls Try.prog 31 #[.agg (plC W H A np cp), .int .i64 kind, .int .i64 border, wpV t, .int .i64 w, .int .i64 h] w0 fun e w' => PlaneEnd w0 kind border t W H x w h e w' :=
  (callsIn_wide (n := 9)).1 (plane_in W H A np cp kind border t w h x w0 hnp hrow hxb (fun i L _ hk hL => spots_narrow (rightE_in hr).q.1 hk hL _) he hr hs)
end Go.Proofs.Ytdcpeeolfgohmaa
