/- limbs.plus. -/
import Derived.Test.YtmeifciagepmpaaAcC
namespace Go.Proofs.Ytmeifciagepmpaa
open Go.RowKit Go.Proofs.YtmeifciagepmpaaW.PrintWords
set_option linter.unusedSimpArgs false
set_option linter.unusedVariables false

theorem AccW.alloc {w W : World} {g : Nat} {f c : Nat → Nat} (h : AccW w g f c W) (o : Obj) : AccW w g f c (W.alloc o) := by
  have hg : g < W.heap.size := by
    rcases Nat.lt_or_ge g W.heap.size with h1 | h1
    · exact h1
    · have := h.bl; rw [Array.getElem?_eq_none h1] at this; cases this
  refine ⟨⟨h.gr.os, h.gr.tape, h.gr.output, ?_, fun k hk hne => ?_⟩, ?_⟩
  · have := h.gr.size; simp; omega
  · rw [Below.heap_alloc W o k (Nat.lt_of_lt_of_le hk h.gr.size)]; exact h.gr.block k hk hne
  · rw [Below.heap_alloc W o g hg]; exact h.bl
theorem AccW.lt {w W : World} {g : Nat} {f c : Nat → Nat} (h : AccW w g f c W) : g < W.heap.size := by
  rcases Nat.lt_or_ge g W.heap.size with h1 | h1
  · exact h1
  · have := h.bl; rw [Array.getElem?_eq_none h1] at this; cases this

/-- An Acc, and beside it a row that is read. -/
structure AccB (w : World) (g : Nat) (f c : Nat → Nat) (b n : Nat) (h : Nat → Nat) (W : World) : Prop where
  a : AccW w g f c W
  ne : b ≠ g
  r : ∀ j, j < n → W.cell? ⟨b, j, none⟩ = some (.int .u32 ((h j : Nat) : Int))
theorem AccB.drewN {w W : World} {g b n : Nat} {f c h : Nat → Nat} (H : AccB w g f c b n h W) (q : Nat) : AccB w g f c b n h (W.drewN q) := ⟨H.a.drewN q, H.ne, H.r⟩
theorem AccB.set {w W : World} {g b n : Nat} {f c h : Nat → Nat} (H : AccB w g f c b n h W) (i v : Nat) (hi : i < 14) : AccB w g (updN f i v) c b n h (W.setCell ⟨g, i, none⟩ (.int .u32 (v : Int))) :=
  ⟨H.a.set i v hi, H.ne, fun j hj => by
    rw [World.cell?_setCell_other _ _ _ _ (by intro e; simp only [Addr.mk.injEq] at e; exact H.ne (by omega))]
    exact H.r j hj⟩

set_option maxHeartbeats 6400000 in
set_option maxRecDepth 100000 in
theorem lplus_calls (w0 W : World) (g : Nat) (f c h : Nat → Nat) (hA : AccW w0 g f c W) (hf : ∀ k, k < 14 → f k < 4294967296) (hh : ∀ k, k < 14 → h k < 4294967296) :
    Calls Try.prog 67 #[.pointer (some ⟨g, 0, none⟩), .agg (arrU 14 h)] W fun e w' =>
      e = .returned (.tuple #[]) ∧ ∃ (f' : Nat → Nat) (cy : Nat), AccW w0 g f' c w' ∧ (∀ k, k < 14 → f' k < 4294967296) ∧ vt f' 14 + cy * 2 ^ 448 = vt f 14 + vt h 14 := by
  have HF := Lib.hid hf
  have HH := Lib.hid hh
  have HB : Hid (AccB w0 g f c W.heap.size 14 h (W.alloc (.cells (arrU 14 h) 87))) := (show AccB _ _ _ _ _ _ _ _ from ⟨hA.alloc _, (by have := hA.lt; omega), fun j hj => by
    rw [ucell (heap_alloc_new W _), arrU_get _ _ _ hj]⟩)
  clear hA hf hh
  obtain ⟨ag, eag⟩ : ∃ ag, ag = arrU 14 h := ⟨_, rfl⟩
  rw [← eag] at HB ⊢
  clear eag
  go_enter Try.func67, Try.ntmps67
  go_wp2
  obtain ⟨b, eb⟩ : ∃ b, b = W.heap.size := ⟨_, rfl⟩
  rw [← eb] at HB ⊢
  obtain ⟨W1, eW⟩ : ∃ W1, W1 = W.alloc (.cells ag 87) := ⟨_, rfl⟩
  rw [← eW] at HB ⊢
  clear eb eW
  go_loopg [4, 7] 14 (fun kq v4 v7 wr => ∃ (q cy : Nat) (f' : Nat → Nat), v4 = .int .u64 (cy : Int) ∧ v7 = .int .i64 (q : Int) ∧ q ≤ 14 ∧ 14 ≤ q + kq ∧ cy ≤ 1 ∧ Hid (vt f' q + cy * 2 ^ (32 * q) = vt f q + vt h q) ∧ Hid ((∀ k, k < 14 → f' k < 4294967296) ∧ ∀ k, q ≤ k → f' k = f k) ∧ Aside (AccB w0 g f' c b 14 h wr))
  case atStart => exact ⟨0, 0, f, rfl, by first | rfl | go_num, by omega, by omega, by omega, (show _ = _ by rfl), (show _ ∧ _ from ⟨HF.out, fun _ _ => rfl⟩), HB.out⟩
  case round =>
    obtain ⟨q, cy, f', rfl, rfl, hq, hqk, hcy, HV, HFF, HAW⟩ := hrel
    by_cases hlt : q < 14
    · have hltz : (q : Int) < 14 := by omega
      have hq0 : (0 : Int) ≤ (q : Int) := by omega
      obtain ⟨cq, fq⟩ := HAW.out.a.cell q hlt
      have cr := HAW.out.r q hlt
      have hx : f' q < 4294967296 := HFF.out.1 q hlt
      have hxe : f' q = f q := HFF.out.2 q (Nat.le_refl _)
      obtain ⟨x, ex⟩ : ∃ x, x = f' q := ⟨_, rfl⟩
      rw [← ex] at cq hx hxe
      obtain ⟨p, ep⟩ : ∃ p, p = h q := ⟨_, rfl⟩
      have hp : p < 4294967296 := by rw [ep]; exact HH.out q hlt
      rw [← ep] at cr
      obtain ⟨y, ey⟩ : ∃ y, y = x + p := ⟨_, rfl⟩
      obtain ⟨v, ev⟩ : ∃ v, v = y + cy := ⟨_, rfl⟩
      obtain ⟨lo, elo⟩ : ∃ z, z = v % 4294967296 := ⟨_, rfl⟩
      obtain ⟨hi, ehi⟩ : ∃ z, z = v / 4294967296 := ⟨_, rfl⟩
      have hst := limb_add (q := q) (v := v) HV.out (by rw [ev, ey, hxe, ep])
      rw [← elo, ← ehi] at hst
      have HV2 := Lib.hid hst
      have hlo : lo < 4294967296 := by omega
      have hhi : hi ≤ 1 := by omega
      have W1' := u_w64 x (by omega)
      have W1'' := u_w64 p (by omega)
      have W2 : IntKind.u64.wrap ((x : Int) + (p : Int)) = (y : Int) := by rw [show (x : Int) + (p : Int) = (y : Int) by omega, u_w64 _ (by omega)]
      have W3 : IntKind.u64.wrap ((y : Int) + (cy : Int)) = (v : Int) := by rw [show (y : Int) + (cy : Int) = (v : Int) by omega, u_w64 _ (by omega)]
      have W4 := u_lo32 v (by omega)
      rw [← elo] at W4
      have W5 : (v : Int) / 4294967296 = (hi : Int) := by omega
      have HFF2 : Hid ((∀ k, k < 14 → updN f' q lo k < 4294967296) ∧ ∀ k, q + 1 ≤ k → updN f' q lo k = f k) := (show _ ∧ _ from ⟨fun k hk => by
        unfold updN; split
        · exact hlo
        · exact HFF.out.1 k hk, fun k hk => by rw [updN_other _ _ (by omega)]; exact HFF.out.2 k (by omega)⟩)
      have HAS := Lib.hid fun nn => ((HAW.out.drewN nn).set q lo hlt)
      clear hst ey ev elo ehi ex hxe ep HV HFF
      go_wp2
      go_quiet (fail)
      go_wp2
      go_roundg (14 - (q + 1))
      case measure => omega
      case rel => exact ⟨q + 1, hi, updN f' q lo, rfl, by go_num, by omega, by omega, hhi, HV2, HFF2, HAS.out _⟩
    · have hltz : ¬ (q : Int) < 14 := by omega
      have e : q = 14 := by omega
      subst e
      have HV2 : Hid (vt f' 14 + cy * 2 ^ 448 = vt f 14 + vt h 14) := (show _ = _ by
        have h := HV.out
        rw [show (32 * 14 : Nat) = 448 from rfl] at h
        exact h)
      clear HV hltz hlt
      go_wp2
      go_end0
      exact ⟨rfl, f', cy, HAW.out.a, HFF.out.1, HV2.out⟩
end Go.Proofs.Ytmeifciagepmpaa
