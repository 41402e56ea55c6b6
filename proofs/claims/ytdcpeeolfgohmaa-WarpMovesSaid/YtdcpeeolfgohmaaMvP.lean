/- Plain law of WarpMoves: places by whole numbers. -/
import Derived.Test.YtdcpeeolfgohmaaNarQ
import Derived.Test.YtdcpeeolfgohmaaNarCP
import Derived.Test.YtdcpeeolfgohmaaMkEG
namespace Go.Proofs.Ytdcpeeolfgohmaa
open Go.RowKit
set_option linter.unusedSimpArgs false
set_option linter.unusedVariables false

theorem borderV_id (kind n i : Int) (h : 0 ≤ i ∧ i < n) : borderV kind n i = i := by
  unfold borderV
  by_cases h1 : kind = 1
  · rw [if_pos h1]; omega
  · rw [if_neg h1]
    by_cases h3 : kind = 3
    · rw [if_pos h3]; exact Int.emod_eq_of_lt h.1 h.2
    · rw [if_neg h3]
      by_cases h4 : n = 1
      · rw [if_pos h4]; omega
      · rw [if_neg h4, Int.emod_eq_of_lt h.1 (by omega)]; omega
theorem half_one (u : Int) : (2 * u + 1) / (2 * 1) = u := by omega
/-- Near, by whole numbers. -/
theorem near_px {border : Int} {t : Wp} {W H : Int} {x : Nat → Nat} {w : Int} {i s : Nat} (hq : t.Q = 1) (h : IsPx 1 border t W H x w i s) :
    s = x (pxIdx W (sptAt border W H (fromU t ((i : Int) % w) ((i : Int) / w)) (fromV t ((i : Int) % w) ((i : Int) / w)) 65536)) := by
  obtain ⟨L, hL, e⟩ := h
  rcases hL with ⟨_, rfl⟩ | ⟨h, _⟩
  · rw [e, hq]
    unfold pxOf spX
    rw [if_pos rfl, half_one, half_one]
    rfl
  · exact absurd rfl h
/-- A place within. -/
theorem near_in {border : Int} {t : Wp} {W H : Int} {x : Nat → Nat} {w : Int} {i s : Nat} (hq : t.Q = 1) (h : IsPx 1 border t W H x w i s) {u v : Nat} (hu : fromU t ((i : Int) % w) ((i : Int) / w) = u) (hv : fromV t ((i : Int) % w) ((i : Int) / w) = v) (h1 : (u : Int) < W) (h2 : (v : Int) < H) {W' : Nat} (hW : W = W') :
    s = x (v * W' + u) := by
  rw [near_px hq h, hu, hv]
  unfold sptAt pxIdx
  rw [borderV_id _ _ _ ⟨by omega, h1⟩, borderV_id _ _ _ ⟨by omega, h2⟩]
  show x ((v : Int) * W + (u : Int)).toNat = _
  rw [hW, ← Int.natCast_mul, ← Int.natCast_add, Int.toNat_natCast]
/-- By nothing. -/
theorem near_same {border : Int} {wn hn : Nat} {x : Nat → Nat} {i s : Nat} (hi : i < wn * hn) (h : IsPx 1 border ⟨1, 0, 0, 0, 1, 0, 1⟩ (wn : Int) (hn : Int) x (wn : Int) i s) : s = x i := by
  have hw : 0 < wn := by rcases Nat.eq_zero_or_pos wn with h0 | h0; · rw [h0] at hi; omega
                         · exact h0
  have h1 := Nat.mod_lt i hw
  have h2 : i / wn < hn := Nat.div_lt_of_lt_mul hi
  rw [near_in (u := i % wn) (v := i / wn) rfl h (by unfold fromU; show (1 : Int) * _ + 0 * _ + 0 = _; rw [Int.natCast_emod]; omega) (by unfold fromV; show (0 : Int) * _ + 1 * _ + 0 = _; rw [Int.natCast_ediv]; omega) (by omega) (by omega) rfl]
  rw [Nat.mul_comm, Nat.div_add_mod]
theorem near_turn {border : Int} {wn hn : Nat} {x : Nat → Nat} {i s : Nat} (hi : i < hn * wn) (h : IsPx 1 border ⟨0, 1, 0, -1, 0, (hn : Int) - 1, 1⟩ (wn : Int) (hn : Int) x (hn : Int) i s) : s = turnZ x wn hn (i % hn) (i / hn) := by
  have hw : 0 < hn := by rcases Nat.eq_zero_or_pos hn with h0 | h0; · rw [h0] at hi; omega
                         · exact h0
  have h1 := Nat.mod_lt i hw
  have h2 : i / hn < wn := Nat.div_lt_of_lt_mul hi
  exact near_in (u := i / hn) (v := hn - 1 - i % hn) rfl h (by unfold fromU; show (0 : Int) * _ + 1 * _ + 0 = _; rw [Int.natCast_ediv]; omega) (by unfold fromV; show (-1 : Int) * _ + 0 * _ + ((hn : Int) - 1) = _; rw [← Int.natCast_emod]; omega) (by omega) (by omega) rfl
theorem near_flip {border : Int} {wn hn : Nat} {x : Nat → Nat} {i s : Nat} (hi : i < wn * hn) (h : IsPx 1 border ⟨-1, 0, (wn : Int) - 1, 0, 1, 0, 1⟩ (wn : Int) (hn : Int) x (wn : Int) i s) : s = flipZ x wn hn (i % wn) (i / wn) := by
  have hw : 0 < wn := by rcases Nat.eq_zero_or_pos wn with h0 | h0; · rw [h0] at hi; omega
                         · exact h0
  have h1 := Nat.mod_lt i hw
  have h2 : i / wn < hn := Nat.div_lt_of_lt_mul hi
  exact near_in (u := wn - 1 - i % wn) (v := i / wn) rfl h (by unfold fromU; show (-1 : Int) * _ + 0 * _ + ((wn : Int) - 1) = _; rw [← Int.natCast_emod]; omega) (by unfold fromV; show (0 : Int) * _ + 1 * _ + 0 = _; rw [Int.natCast_ediv]; omega) (by omega) (by omega) rfl
/-- Linear by whole numbers: the weights. -/
def wOne : Nat → Int := fun k => if k = 0 then 65536 else 0
theorem wOne_sh : IsShared (wt4 1 0 0) 4 wOne := by
  refine ⟨fun _ => false, ⟨by decide, fun a b _ _ h _ => by cases h⟩, fun k hk => ?_⟩
  rcases (show k = 0 ∨ k = 1 ∨ k = 2 ∨ k = 3 by omega) with rfl | rfl | rfl | rfl <;> decide
theorem spotsTo_congr {border W H i j : Int} {r r' : Nat → Int} : ∀ k, (∀ a, a < k → r a = r' a) → spotsTo border W H i j r k = spotsTo border W H i j r' k
  | 0, _ => rfl
  | k + 1, h => by unfold spotsTo; rw [h k (by omega), spotsTo_congr k fun a ha => h a (by omega)]
theorem linear_px {border : Int} {t : Wp} {W H : Int} {x : Nat → Nat} {w : Int} {i s s' : Nat} (hq : t.Q = 1) (hx : s' < 4294967296) (h' : IsPx 1 border t W H x w i s') (h : IsPx 2 border t W H x w i s) : s = first32 s' := by
  have e' := near_px hq h'
  obtain ⟨L, hL, e⟩ := h
  rcases hL with ⟨h2, _⟩ | ⟨_, res, hs, rfl⟩
  · exact absurd h2 (by decide)
  rw [hq, Int.emod_one, Int.emod_one] at hs
  have hres := hs.same wOne_sh
  rw [hq, Int.ediv_one, Int.ediv_one, spotsTo_congr 4 hres] at e
  have eL : ∀ u v : Int, spotsTo border W H u v wOne 4 = [sptAt border W H u v 65536] := fun u v => by
    unfold spotsTo spotsTo spotsTo spotsTo spotsTo
    simp [wOne]
  rw [eL] at e
  rw [e, e']
  unfold pxOf
  rw [if_neg (by decide)]
  have h3 := dotOf_one (spN [sptAt border W H (fromU t ((i : Int) % w) ((i : Int) / w)) (fromV t ((i : Int) % w) ((i : Int) / w)) 65536]) (spX x W [sptAt border W H (fromU t ((i : Int) % w) ((i : Int) / w)) (fromV t ((i : Int) % w) ((i : Int) / w)) 65536]) rfl (by rw [e'] at hx; exact hx)
  exact h3.2
end Go.Proofs.Ytdcpeeolfgohmaa
