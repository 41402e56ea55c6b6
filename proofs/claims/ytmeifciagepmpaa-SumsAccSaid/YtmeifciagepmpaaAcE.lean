/- limbs.size. -/
import Derived.Test.YtmeifciagepmpaaAcD
namespace Go.Proofs.Ytmeifciagepmpaa
open Go.RowKit Go.Proofs.YtmeifciagepmpaaW.PrintWords
set_option linter.unusedSimpArgs false
set_option linter.unusedVariables false

/-- Limbs that are no row of an Acc: of the call's own. -/
structure OwnU (w : World) (g n : Nat) (f : Nat → Nat) (T : TypeId) (W : World) : Prop where
  lo : w.heap.size ≤ g
  bl : W.heap[g]? = some (.cells (arrU n f) T (0, 0))
  be : Below w.heap.size w W
theorem OwnU.set {w W : World} {g n : Nat} {f : Nat → Nat} {T : TypeId} (h : OwnU w g n f T W) (i v : Nat) : OwnU w g n (updN f i v) T (W.setCell ⟨g, i, none⟩ (.int .u32 (v : Int))) :=
  ⟨h.lo, uset h.bl i v, h.be.setCell h.lo _⟩
theorem OwnU.cell {w W : World} {g n : Nat} {f : Nat → Nat} {T : TypeId} (h : OwnU w g n f T W) (i : Nat) (hi : i < n) : W.cell? ⟨g, i, none⟩ = some (.int .u32 ((f i : Nat) : Int)) ∧ W.frozen? ⟨g, i, none⟩ = false :=
  ⟨(ucell h.bl i).trans (arrU_get n f i hi), ufree h.bl i⟩
theorem OwnU.start (w : World) (n : Nat) (f : Nat → Nat) (T : TypeId) : OwnU w w.heap.size n f T (w.alloc (.cells (arrU n f) T)) :=
  ⟨Nat.le_refl _, heap_alloc_new w _, (Below.refl _ _).alloc (Nat.le_refl _) _⟩

theorem xor_all (x : Nat) (h : x < 4294967296) : 4294967295 ^^^ x = 4294967295 - x := by
  have h1 := BitVec.toNat_not (x := BitVec.ofNat 32 x)
  have h2 : ~~~(BitVec.ofNat 32 x) = BitVec.allOnes 32 ^^^ BitVec.ofNat 32 x := by
    rw [BitVec.allOnes_xor]
  rw [h2, BitVec.toNat_xor, BitVec.toNat_allOnes, BitVec.toNat_ofNat, Nat.mod_eq_of_lt (by simpa using h)] at h1
  simpa using h1
theorem u_not32 (x : Nat) (h : x < 4294967296) : bits .xor .u32 (4294967295 : Int) (x : Int) = ((4294967295 - x : Nat) : Int) := by
  have hb : x % 2 ^ IntKind.u32.bits = x := Nat.mod_eq_of_lt h
  have ha : 4294967295 % 2 ^ IntKind.u32.bits = 4294967295 := by decide
  rw [show (4294967295 : Int) = ((4294967295 : Nat) : Int) from rfl]
  simp only [bits, BitVec.ofInt_natCast, BitVec.toNat_xor, BitVec.toNat_ofNat, ha, hb, xor_all x h]
  exact u_w32 _ (by omega)
theorem limb_neg {f h : Nat → Nat} {q cy v : Nat} (H : vt f q + vt h q + cy * 2 ^ (32 * q) = 2 ^ (32 * q)) (hh : h q < 4294967296) (hv : v = 4294967295 - h q + cy) :
    vt (updN f q (v % 4294967296)) (q + 1) + vt h (q + 1) + v / 4294967296 * 2 ^ (32 * (q + 1)) = 2 ^ (32 * (q + 1)) := by
  rw [vt, vt, vt_updN _ _ _ _ (Nat.le_refl _), updN_same, p32]
  obtain ⟨P, eP⟩ : ∃ P, P = 2 ^ (32 * q) := ⟨_, rfl⟩
  rw [← eP] at H ⊢
  have e1 : v % 4294967296 * P + v / 4294967296 * (P * 4294967296) = v * P := by
    rw [Nat.mul_comm P, ← Nat.mul_assoc, ← Nat.add_mul]
    congr 1
    omega
  have e2 : v * P + h q * P + P = 4294967296 * P + cy * P := by
    have : v + h q + 1 = 4294967296 + cy := by omega
    calc v * P + h q * P + P = (v + h q + 1) * P := by rw [Nat.add_mul, Nat.add_mul, Nat.one_mul]
      _ = 4294967296 * P + cy * P := by rw [this, Nat.add_mul]
  omega

set_option maxHeartbeats 6400000 in
set_option maxRecDepth 100000 in
theorem lsize_calls (w : World) (h : Nat → Nat) (hh : ∀ k, k < 14 → h k < 4294967296) :
    Calls Try.prog 97 #[.agg (arrU 14 h)] w fun e w' =>
      ∃ (b : Nat) (neg : Bool) (h' : Nat → Nat), e = .returned (.tuple #[.slice (some ⟨b, 0, none⟩) 14 14, .bool neg]) ∧ RowU w' (some ⟨b, 0, none⟩) 14 h' ∧ Below w.heap.size w w' ∧ (∀ k, k < 14 → h' k < 4294967296) ∧
        ((neg = false ∧ h 13 < 2147483648 ∧ vt h' 14 = vt h 14) ∨ (neg = true ∧ 2147483648 ≤ h 13 ∧ ∃ cy, vt h' 14 + vt h 14 + cy * 2 ^ 448 = 2 ^ 448)) := by
  have HH := Lib.hid hh
  have HB := Lib.hid (OwnU.start w 14 h 87)
  have htop := hh 13 (by decide)
  obtain ⟨t, et⟩ : ∃ t, t = h 13 := ⟨_, rfl⟩
  rw [← et] at htop ⊢
  obtain ⟨c13, f13⟩ := HB.out.cell 13 (by decide)
  rw [← et] at c13
  clear hh et
  obtain ⟨ag, eag⟩ : ∃ ag, ag = arrU 14 h := ⟨_, rfl⟩
  rw [← eag] at HB c13 f13 ⊢
  clear eag
  by_cases hneg : t < 2147483648
  · have hz : ((t : Int) / 2147483648 == 0) = true := by rw [beq_iff_eq]; omega
    go_enter Try.func97, Try.ntmps97
    go_wp2
    go_ret2
    exact ⟨_, false, h, rfl, RowU.arr HB.out.bl, HB.out.be, HH.out, .inl ⟨rfl, hneg, rfl⟩⟩
  · have hz : ((t : Int) / 2147483648 == 0) = false := by rw [beq_eq_false_iff_ne]; omega
    have htn : 2147483648 ≤ t := by omega
    have HT := Lib.hid htn
    clear htn hneg
    go_enter Try.func97, Try.ntmps97
    go_wp2
    obtain ⟨b, eb⟩ : ∃ b, b = w.heap.size := ⟨_, rfl⟩
    rw [← eb] at HB ⊢
    obtain ⟨W1, eW⟩ : ∃ W1, W1 = w.alloc (.cells ag 87) := ⟨_, rfl⟩
    rw [← eW] at HB ⊢
    clear eW c13 f13 htop
    have EB := Lib.hid eb
    clear eb
    go_loopg [4, 12] 14 (fun kq v4 v12 wr => ∃ (q cy : Nat) (f' : Nat → Nat), v4 = .int .u64 (cy : Int) ∧ v12 = .int .i64 (q : Int) ∧ q ≤ 14 ∧ 14 ≤ q + kq ∧ cy ≤ 1 ∧ Hid (vt f' q + vt h q + cy * 2 ^ (32 * q) = 2 ^ (32 * q)) ∧ Hid ((∀ k, k < 14 → f' k < 4294967296) ∧ ∀ k, q ≤ k → f' k = h k) ∧ Aside (OwnU w b 14 f' 87 wr))
    case atStart => exact ⟨0, 1, h, by first | rfl | go_num, by first | rfl | go_num, by omega, by omega, by omega, (show _ = _ by rfl), (show _ ∧ _ from ⟨HH.out, fun _ _ => rfl⟩), HB.out⟩
    case round =>
      obtain ⟨q, cy, f', rfl, rfl, hq, hqk, hcy, HV, HFF, HO⟩ := hrel
      by_cases hlt : q < 14
      · have hltz : (q : Int) < 14 := by omega
        have hq0 : (0 : Int) ≤ (q : Int) := by omega
        obtain ⟨cq, fq⟩ := HO.out.cell q hlt
        have hxe : f' q = h q := HFF.out.2 q (Nat.le_refl _)
        have hx : f' q < 4294967296 := HFF.out.1 q hlt
        obtain ⟨x, ex⟩ : ∃ x, x = f' q := ⟨_, rfl⟩
        rw [← ex] at cq hx hxe
        obtain ⟨y, ey⟩ : ∃ y, y = 4294967295 - x := ⟨_, rfl⟩
        obtain ⟨v, ev⟩ : ∃ v, v = y + cy := ⟨_, rfl⟩
        obtain ⟨lo, elo⟩ : ∃ z, z = v % 4294967296 := ⟨_, rfl⟩
        obtain ⟨hi, ehi⟩ : ∃ z, z = v / 4294967296 := ⟨_, rfl⟩
        have hst := limb_neg (q := q) (v := v) HV.out (by rw [← hxe]; exact hx) (by rw [ev, ey, hxe])
        rw [← elo, ← ehi] at hst
        have HV2 := Lib.hid hst
        have hlo : lo < 4294967296 := by omega
        have hhi : hi ≤ 1 := by omega
        have W0 : bits .xor .u32 IntKind.u32.max (x : Int) = (y : Int) := by rw [ey]; exact u_not32 x hx
        have W0' : bits .xor .u32 (if IntKind.u32.signed = true then -1 else IntKind.u32.max) (x : Int) = (y : Int) := by rw [ey]; exact u_not32 x hx
        have W1' := u_w64 y (by omega)
        have W3 : IntKind.u64.wrap ((y : Int) + (cy : Int)) = (v : Int) := by rw [show (y : Int) + (cy : Int) = (v : Int) by omega, u_w64 _ (by omega)]
        have W4 := u_lo32 v (by omega)
        rw [← elo] at W4
        have W5 : (v : Int) / 4294967296 = (hi : Int) := by omega
        have HFF2 : Hid ((∀ k, k < 14 → updN f' q lo k < 4294967296) ∧ ∀ k, q + 1 ≤ k → updN f' q lo k = h k) := (show _ ∧ _ from ⟨fun k hk => by
          unfold updN; split
          · exact hlo
          · exact HFF.out.1 k hk, fun k hk => by rw [updN_other _ _ (by omega)]; exact HFF.out.2 k (by omega)⟩)
        have HOS := Lib.hid (HO.out.set q lo)
        clear hst ey ev elo ehi ex hxe HV HFF
        have HHI := Lib.hid hhi
        clear hlo hhi
        go_wp2
        go_roundg (14 - (q + 1))
        case measure => omega
        case rel => exact ⟨q + 1, hi, updN f' q lo, rfl, by go_num, by omega, by omega, HHI.out, HV2, HFF2, HOS.out⟩
      · have hltz : ¬ (q : Int) < 14 := by omega
        have e : q = 14 := by omega
        subst e
        have HV2 : Hid (vt f' 14 + vt h 14 + cy * 2 ^ 448 = 2 ^ 448) := (show _ = _ by
          have h := HV.out
          rw [show (32 * 14 : Nat) = 448 from rfl] at h
          exact h)
        clear HV hltz hlt
        go_wp2
        go_ret2
        exact ⟨b, true, f', rfl, RowU.arr HO.out.bl, HO.out.be, HFF.out.1, .inr ⟨rfl, HT.out, cy, HV2.out⟩⟩
end Go.Proofs.Ytmeifciagepmpaa
