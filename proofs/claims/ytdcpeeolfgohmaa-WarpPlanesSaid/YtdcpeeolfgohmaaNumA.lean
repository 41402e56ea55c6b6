/- halideref2's numbers: how they read; Form.Of. -/
import Derived.Test.YtdcpeeolfgohmaaForm
import Derived.Test.YtdcpeeolfgohmaaRndP
namespace Go.Proofs.Ytdcpeeolfgohmaa
open Go.RowKit Go.Proofs.YtdcpeeolfgohmaaW.PrintWords
set_option linter.unusedSimpArgs false
set_option linter.unusedVariables false

def numV (k : Int) (neg : Bool) (A : Option Addr) (n c : Nat) (e : Int) (more : Bool) : Value := .agg #[.int .i64 k, .bool neg, .slice A n c, .int .i64 e, .bool more]
/-- A number, as the reference holds it. -/
def NumAt (w : World) (u : Value) : Ieee.Datum → Prop
  | .number s m p => ∃ A c, u = numV 2 s A (len32 m) c p false ∧ NatAt w (.slice A (len32 m) c) m
  | .infinity s => ∃ A n c e b, u = numV 1 s A n c e b
  | .nan _ _ => ∃ s A n c e b, u = numV 0 s A n c e b
theorem NumAt.below {w w1 : World} {u : Value} : ∀ {d : Ieee.Datum}, NumAt w u d → Below w.heap.size w w1 → NumAt w1 u d
  | .number _ _ _, ⟨A, c, e, h⟩, hb => ⟨A, c, e, h.below hb⟩
  | .infinity _, h, _ => h
  | .nan _ _, h, _ => h
def NumEnd (w : World) (d : Ieee.Datum) (e : Ending) (w' : World) : Prop := ∃ u, e = .returned u ∧ NumAt w' u d ∧ Below w.heap.size w w'

def fmt (fr ex : Nat) : Ieee.Format := ⟨ex, fr⟩

/-- A word's parts. -/
theorem read_parts (fr ex bias top : Nat) (hf : IsForm fr ex bias top) (b : Nat) :
    (fmt fr ex).read b = if b / 2 ^ fr % 2 ^ ex = top then (if b % 2 ^ fr = 0 then .infinity (b / 2 ^ (fr + ex) % 2 == 1) else .nan (b / 2 ^ (fr + ex) % 2 == 1) (b % 2 ^ fr))
      else if b / 2 ^ fr % 2 ^ ex = 0 then .number (b / 2 ^ (fr + ex) % 2 == 1) (b % 2 ^ fr) (1 - (bias : Int))
      else .number (b / 2 ^ (fr + ex) % 2 == 1) (2 ^ fr + b % 2 ^ fr) ((b / 2 ^ fr % 2 ^ ex : Nat) - (bias : Int)) := by
  have hS : b % 2 ^ (fr + ex) = b % 2 ^ fr + 2 ^ fr * (b / 2 ^ fr % 2 ^ ex) := by rw [Nat.pow_add, Nat.mod_mul]
  have hP := Nat.two_pow_pos fr
  have hm := Nat.mod_lt b hP
  have hx := Nat.mod_lt (b / 2 ^ fr) (Nat.two_pow_pos ex)
  have htop : top + 1 = 2 ^ ex := by rcases hf with ⟨rfl, rfl, rfl, rfl⟩ | ⟨rfl, rfl, rfl, rfl⟩ <;> decide
  have hl : (fmt fr ex).leastPlace = 1 - (bias : Int) := by rcases hf with ⟨rfl, rfl, rfl, rfl⟩ | ⟨rfl, rfl, rfl, rfl⟩ <;> decide
  have hi : (fmt fr ex).infRung = top * 2 ^ fr := by
    show (2 ^ ex - 1) * 2 ^ fr = _
    rw [← htop]; rfl
  have hw : (fmt fr ex).signWeight = 2 ^ (fr + ex) := by show 2 ^ (ex + fr) = _; rw [Nat.add_comm]
  have hbin : (fmt fr ex).binade = 2 ^ fr := rfl
  unfold Ieee.Format.read
  dsimp only
  rw [hw, hi, hl, hbin, hS]
  obtain ⟨m, em⟩ : ∃ m, m = b % 2 ^ fr := ⟨_, rfl⟩
  obtain ⟨x, ex'⟩ : ∃ x, x = b / 2 ^ fr % 2 ^ ex := ⟨_, rfl⟩
  rw [← em] at hm ⊢
  rw [← ex'] at hx ⊢
  have h2 : (m + 2 ^ fr * x) / 2 ^ fr = x := by rw [Nat.add_mul_div_left _ _ hP, Nat.div_eq_of_lt hm, Nat.zero_add]
  have h3 : (m + 2 ^ fr * x) % 2 ^ fr = m := by rw [Nat.add_mul_mod_self_left, Nat.mod_eq_of_lt hm]
  rw [h2, h3]
  by_cases hx1 : x = top
  · rw [if_pos hx1, hx1]
    have ht1 : 1 ≤ top := by rcases hf with ⟨rfl, rfl, rfl, rfl⟩ | ⟨rfl, rfl, rfl, rfl⟩ <;> decide
    have : 2 ^ fr * 1 ≤ 2 ^ fr * top := Nat.mul_le_mul_left _ ht1
    rw [if_neg (by omega), if_neg (by rw [Nat.mul_comm top]; omega)]
    rw [Nat.mul_comm top]
    by_cases hm0 : m = 0
    · rw [if_pos (by omega), if_pos hm0]
    · rw [if_neg (by omega), if_neg hm0]; congr 1; omega
  · rw [if_neg hx1]
    by_cases hx0 : x = 0
    · rw [if_pos hx0, hx0, Nat.mul_zero, Nat.add_zero, if_pos hm]
    · rw [if_neg hx0]
      have h4 : 2 ^ fr * 1 ≤ 2 ^ fr * x := Nat.mul_le_mul_left _ (by omega)
      have h5 : 2 ^ fr * (x + 1) ≤ 2 ^ fr * top := Nat.mul_le_mul_left _ (by omega)
      rw [Nat.mul_add] at h5
      rw [if_neg (by omega), if_pos (by rw [Nat.mul_comm top]; omega)]
      congr 1
      omega

/-- Form.Of's own memory: the form's box, the result's block. -/
abbrev zeroNum : Obj := .cells #[.int .i64 0, .bool false, .slice none 0 0, .int .i64 0, .bool false] 166
def OfS (w : World) (g h fr ex : Nat) (W : World) : Prop :=
  W.cell? ⟨g, 0, none⟩ = some (.int .i64 (fr : Int)) ∧ W.cell? ⟨g, 1, none⟩ = some (.int .i64 (ex : Int)) ∧ W.heap[h]? = some (.cells #[.int .i64 0, .bool false, .slice none 0 0, .int .i64 0, .bool false] 166 (0, 0)) ∧ Below w.heap.size w W
theorem OfS.below {w : World} {g h fr ex : Nat} {W W' : World} (H : OfS w g h fr ex W) (hb : Below W.heap.size W W') : OfS w g h fr ex W' :=
  ⟨(hb.cell (World.block_lt_of_cell? _ _ H.1)).trans H.1, (hb.cell (World.block_lt_of_cell? _ _ H.2.1)).trans H.2.1, (hb.block _ (Array.getElem?_eq_some_iff.1 H.2.2.1).1).trans H.2.2.1, ujoin H.2.2.2 hb⟩
theorem OfS.drew {w : World} {g h fr ex : Nat} {W : World} (H : OfS w g h fr ex W) : OfS w g h fr ex W.drew := ⟨H.1, H.2.1, H.2.2.1, H.2.2.2.drew⟩
theorem OfS.cells {w : World} {g h fr ex : Nat} {W : World} (H : OfS w g h fr ex W) :
    (W.cell? ⟨h, 0, none⟩ = some (.int .i64 0) ∧ W.cell? ⟨h, 1, none⟩ = some (.bool false) ∧ W.cell? ⟨h, 2, none⟩ = some (.slice none 0 0) ∧ W.cell? ⟨h, 3, none⟩ = some (.int .i64 0) ∧ W.cell? ⟨h, 4, none⟩ = some (.bool false)) ∧
    (W.frozen? ⟨h, 0, none⟩ = false ∧ W.frozen? ⟨h, 1, none⟩ = false ∧ W.frozen? ⟨h, 2, none⟩ = false ∧ W.frozen? ⟨h, 3, none⟩ = false ∧ W.frozen? ⟨h, 4, none⟩ = false) := by
  have k := H.2.2.1
  exact ⟨⟨ucell k 0, ucell k 1, ucell k 2, ucell k 3, ucell k 4⟩, ufree k 0, ufree k 1, ufree k 2, ufree k 3, ufree k 4⟩
theorem OfS.all {w : World} {g h fr ex : Nat} {W : World} (H : OfS w g h fr ex W) : OfS w g h fr ex W ∧ (W.cell? ⟨h, 0, none⟩ = some (.int .i64 0) ∧ W.cell? ⟨h, 1, none⟩ = some (.bool false) ∧ W.cell? ⟨h, 2, none⟩ = some (.slice none 0 0) ∧ W.cell? ⟨h, 3, none⟩ = some (.int .i64 0) ∧ W.cell? ⟨h, 4, none⟩ = some (.bool false)) ∧
    (W.frozen? ⟨h, 0, none⟩ = false ∧ W.frozen? ⟨h, 1, none⟩ = false ∧ W.frozen? ⟨h, 2, none⟩ = false ∧ W.frozen? ⟨h, 3, none⟩ = false ∧ W.frozen? ⟨h, 4, none⟩ = false) := ⟨H, H.cells⟩
theorem OfS.next {w : World} {g h fr ex : Nat} {W W' : World} (hb : Below W.heap.size W W') (H : (W.cell? ⟨g, 0, none⟩ = some (.int .i64 (fr : Int)) ∧ W.cell? ⟨g, 1, none⟩ = some (.int .i64 (ex : Int)) ∧ W.heap[h]? = some (.cells #[.int .i64 0, .bool false, .slice none 0 0, .int .i64 0, .bool false] 166 (0, 0)) ∧ Below w.heap.size w W) ∧ (W.cell? ⟨h, 0, none⟩ = some (.int .i64 0) ∧ W.cell? ⟨h, 1, none⟩ = some (.bool false) ∧ W.cell? ⟨h, 2, none⟩ = some (.slice none 0 0) ∧ W.cell? ⟨h, 3, none⟩ = some (.int .i64 0) ∧ W.cell? ⟨h, 4, none⟩ = some (.bool false)) ∧ (W.frozen? ⟨h, 0, none⟩ = false ∧ W.frozen? ⟨h, 1, none⟩ = false ∧ W.frozen? ⟨h, 2, none⟩ = false ∧ W.frozen? ⟨h, 3, none⟩ = false ∧ W.frozen? ⟨h, 4, none⟩ = false)) : (W'.cell? ⟨g, 0, none⟩ = some (.int .i64 (fr : Int)) ∧ W'.cell? ⟨g, 1, none⟩ = some (.int .i64 (ex : Int)) ∧ W'.heap[h]? = some (.cells #[.int .i64 0, .bool false, .slice none 0 0, .int .i64 0, .bool false] 166 (0, 0)) ∧ Below w.heap.size w W') ∧ (W'.cell? ⟨h, 0, none⟩ = some (.int .i64 0) ∧ W'.cell? ⟨h, 1, none⟩ = some (.bool false) ∧ W'.cell? ⟨h, 2, none⟩ = some (.slice none 0 0) ∧ W'.cell? ⟨h, 3, none⟩ = some (.int .i64 0) ∧ W'.cell? ⟨h, 4, none⟩ = some (.bool false)) ∧ (W'.frozen? ⟨h, 0, none⟩ = false ∧ W'.frozen? ⟨h, 1, none⟩ = false ∧ W'.frozen? ⟨h, 2, none⟩ = false ∧ W'.frozen? ⟨h, 3, none⟩ = false ∧ W'.frozen? ⟨h, 4, none⟩ = false) :=
  OfS.all (OfS.below (show OfS w g h fr ex W from H.1) hb)
/-- The five stores of a result leave what is read elsewhere. -/
def put5 (W : World) (h : Nat) (a b c d e : Value) : World := ((((W.setCell ⟨h, 0, none⟩ a).setCell ⟨h, 1, none⟩ b).setCell ⟨h, 2, none⟩ c).setCell ⟨h, 3, none⟩ d).setCell ⟨h, 4, none⟩ e
theorem RowU.put5 {W : World} {A : Option Addr} {n h : Nat} {x : Nat → Nat} (hr : RowU W A n x) (hz : W.cell? ⟨h, 0, none⟩ = some (.int .i64 0) ∧ W.cell? ⟨h, 1, none⟩ = some (.bool false) ∧ W.cell? ⟨h, 2, none⟩ = some (.slice none 0 0) ∧ W.cell? ⟨h, 3, none⟩ = some (.int .i64 0) ∧ W.cell? ⟨h, 4, none⟩ = some (.bool false)) (a b c d e : Value) : RowU (put5 W h a b c d e) A n x := fun hn => by
  obtain ⟨ad, eA, hc⟩ := hr hn
  refine ⟨ad, eA, fun i hi => ?_⟩
  have hci := hc i hi
  have ne : ∀ (p : Addr) (u : Value), W.cell? p = some u → u ≠ .int .u32 ((x i : Nat) : Int) → p ≠ ad.add i := fun p u hp hu e => hu (by rw [e, hci] at hp; injection hp with hp; exact hp.symm)
  obtain ⟨z0, z1, z2, z3, z4⟩ := hz
  unfold Go.Proofs.Ytdcpeeolfgohmaa.put5
  rw [World.cell?_setCell_other _ _ _ _ (ne _ _ z4 (by simp)), World.cell?_setCell_other _ _ _ _ (ne _ _ z3 (by simp)), World.cell?_setCell_other _ _ _ _ (ne _ _ z2 (by simp)), World.cell?_setCell_other _ _ _ _ (ne _ _ z1 (by simp)), World.cell?_setCell_other _ _ _ _ (ne _ _ z0 (by simp)), hci]
theorem below_put5 {w W : World} {h : Nat} (hb : Below w.heap.size w W) (hh : w.heap.size ≤ h) (a b c d e : Value) : Below w.heap.size w (put5 W h a b c d e) := by
  unfold Go.Proofs.Ytdcpeeolfgohmaa.put5
  exact ((((hb.setCell (p := ⟨h, 0, none⟩) hh _).setCell (p := ⟨h, 1, none⟩) hh _).setCell (p := ⟨h, 2, none⟩) hh _).setCell (p := ⟨h, 3, none⟩) hh _).setCell (p := ⟨h, 4, none⟩) hh _
theorem OfS.num {w : World} {g h fr ex : Nat} {W : World} (H : OfS w g h fr ex W) (hh : w.heap.size ≤ h) {A : Option Addr} {c m : Nat} (hr : RowU W A (len32 m) (dig m)) (hc : len32 m ≤ c) (s : Bool) (p : Int) :
    NumAt (put5 W h (.int .i64 2) (.bool s) (.slice A (len32 m) c) (.int .i64 p) (.bool false)) (numV 2 s A (len32 m) c p false) (.number s m p) ∧ Below w.heap.size w (put5 W h (.int .i64 2) (.bool s) (.slice A (len32 m) c) (.int .i64 p) (.bool false)) :=
  ⟨⟨A, c, rfl, A, c, rfl, hc, hr.put5 H.cells.1 _ _ _ _ _⟩, below_put5 H.2.2.2 hh _ _ _ _ _⟩
theorem OfS.start (w : World) (fr ex : Nat) : OfS w w.heap.size (w.heap.size + 1) fr ex ((w.alloc (.cells #[.int .i64 (fr : Int), .int .i64 (ex : Int)] 162)).alloc zeroNum) := by
  refine ⟨by simp, by simp, ?_, ((Below.refl _ _).alloc (Nat.le_refl _) _).alloc (by simp) _⟩
  have := heap_alloc_new (w.alloc (.cells #[.int .i64 (fr : Int), .int .i64 (ex : Int)] 162)) zeroNum
  rwa [World.size_alloc] at this

set_option maxHeartbeats 6400000 in
set_option maxRecDepth 100000 in
theorem of_calls (fr ex bias top : Nat) (hf : IsForm fr ex bias top) (b : Nat) (hb : b < 2 ^ (1 + ex + fr)) (w : World) :
    Calls Try.prog 108 #[formV fr ex, .int .u64 (b : Int)] w fun e w' => NumEnd w ((fmt fr ex).read b) e w' := by
  have HT := Lib.hid fun W => top_calls fr ex bias top hf W
  have HBI := Lib.hid fun W => bias_calls fr ex bias top hf W
  have RP := Lib.hid (read_parts fr ex bias top hf b)
  obtain ⟨P, eP⟩ : ∃ P, P = 2 ^ fr := ⟨_, rfl⟩
  obtain ⟨se, ese⟩ : ∃ se, se = fr + ex := ⟨_, rfl⟩
  have F : fr ≤ 52 ∧ ex ≤ 11 ∧ bias ≤ 1075 ∧ top ≤ 2047 ∧ top + 1 = 2 ^ ex ∧ 8388608 ≤ P ∧ P ≤ 4503599627370496 ∧ IntKind.u64.wrap (1 * 2 ^ fr) = (P : Int) ∧ IntKind.u64.wrap (2 ^ fr) = (P : Int) ∧ 2 ^ (1 + ex + fr) ≤ 18446744073709551616 := by
    rcases hf with ⟨rfl, rfl, rfl, rfl⟩ | ⟨rfl, rfl, rfl, rfl⟩
    all_goals
      subst eP ese
      decide +kernel
  obtain ⟨hfr, hex, hbias, htop, htx, hP1, hP2, F1, F2, hb64⟩ := F
  have hb2 : b < 18446744073709551616 := by omega
  obtain ⟨sg, esg⟩ : ∃ x, x = b / 2 ^ se := ⟨_, rfl⟩
  obtain ⟨sb, esb⟩ : ∃ x, x = sg % 2 := ⟨_, rfl⟩
  obtain ⟨neg, eneg⟩ : ∃ x : Bool, x = (sb == 1) := ⟨_, rfl⟩
  obtain ⟨eb, eeb⟩ : ∃ x, x = b / 2 ^ fr := ⟨_, rfl⟩
  obtain ⟨xp, exp'⟩ : ∃ x, x = eb % 2 ^ ex := ⟨_, rfl⟩
  obtain ⟨fc, efc⟩ : ∃ x, x = b % 2 ^ fr := ⟨_, rfl⟩
  have hsg : sg < 18446744073709551616 := by rw [esg]; exact Nat.lt_of_le_of_lt (Nat.div_le_self _ _) hb2
  have heb : eb < 18446744073709551616 := by rw [eeb]; exact Nat.lt_of_le_of_lt (Nat.div_le_self _ _) hb2
  have hxp : xp ≤ top := by have := Nat.mod_lt eb (Nat.two_pow_pos ex); omega
  have hfc : fc < P := by rw [efc, eP]; exact Nat.mod_lt _ (Nat.two_pow_pos fr)
  have W1 : IntKind.i64.wrap ((fr : Int) + (ex : Int)) = (se : Int) := by rw [IntWalk.i64_in _ (by omega)]; omega
  have W2 : (b : Int) / 2 ^ se = (sg : Int) := by rw [esg]; push_cast; rfl
  have W3 : bits .and .u64 (sg : Int) 1 = (sb : Int) := by
    have h := (bits_nat .u64 64 (by decide) (fun n h0 h1 => by rw [IntKind.wrap_u64]; omega) sg 1 hsg (by decide)).1
    rw [Nat.and_one_is_mod, ← esb] at h
    exact h
  have W4 : ((sb : Int) == 1) = neg := by rw [eneg]; rcases (show sb = 0 ∨ sb = 1 by omega) with h | h <;> rw [h] <;> rfl
  have W5 : (b : Int) / 2 ^ fr = (eb : Int) := by rw [eeb]; push_cast; rfl
  have W6 : bits .and .u64 (eb : Int) (top : Int) = (xp : Int) := by
    have h := (bits_nat .u64 64 (by decide) (fun n h0 h1 => by rw [IntKind.wrap_u64]; omega) eb top heb (by omega)).1
    rw [show top = 2 ^ ex - 1 by omega, Nat.and_two_pow_sub_one_eq_mod, ← exp'] at h
    rw [show top = 2 ^ ex - 1 by omega]; exact h
  obtain ⟨P1, eP1⟩ : ∃ x, x = P - 1 := ⟨_, rfl⟩
  have W7 : IntKind.u64.wrap ((P : Int) - 1) = (P1 : Int) := by rw [show (P : Int) - 1 = (P1 : Int) by omega, u_w64 _ (by omega)]
  have W8 : bits .and .u64 (b : Int) (P1 : Int) = (fc : Int) := by
    have h := (bits_nat .u64 64 (by decide) (fun n h0 h1 => by rw [IntKind.wrap_u64]; omega) b P1 hb2 (by omega)).1
    rw [eP1, eP, Nat.and_two_pow_sub_one_eq_mod, ← efc] at h
    rw [eP1, eP]; exact h
  have RP2 : Hid ((fmt fr ex).read b = if xp = top then (if fc = 0 then .infinity neg else .nan neg fc) else if xp = 0 then .number neg fc (1 - (bias : Int)) else .number neg (P + fc) ((xp : Int) - (bias : Int))) := (show _ = _ by
    rw [RP.out, ← ese, ← esg, ← eeb, ← exp', ← efc, ← esb, ← eneg, ← eP])
  have OR : Hid (bits .or .u64 (fc : Int) (P : Int) = ((fc + P : Nat) : Int)) := (show _ = _ by
    have h := (bits_nat .u64 64 (by decide) (fun n h0 h1 => by rw [IntKind.wrap_u64]; omega) fc P (by omega) (by omega)).2
    have h1 := Nat.shiftLeft_add_eq_or_of_lt (i := fr) (b := fc) (by rw [← eP]; exact hfc) 1
    rw [Nat.shiftLeft_eq, Nat.one_mul, ← eP] at h1
    rw [Nat.or_comm, ← h1, Nat.add_comm] at h
    exact h)
  have hse : se < 64 := by omega
  have hfr64 : fr < 64 := by omega
  clear RP eP ese esg esb eneg eeb exp' efc htx hb64 hb
  unfold formV at HT HBI ⊢
  go_enter Try.func108, Try.ntmps108
  clear eP1
  go_wp2
  have HO0 := OfS.start w fr ex
  have hgz : w.heap.size ≤ w.heap.size + 1 := by omega
  obtain ⟨g, eg⟩ : ∃ g, g = w.heap.size := ⟨_, rfl⟩
  obtain ⟨h, eh⟩ : ∃ h, h = w.heap.size + 1 := ⟨_, rfl⟩
  rw [← eh, ← eg] at HO0 ⊢
  have hh : w.heap.size ≤ h := by omega
  clear eg eh hgz
  unfold zeroNum at HO0
  generalize (w.alloc (.cells #[.int .i64 (fr : Int), .int .i64 (ex : Int)] 162)).alloc (.cells #[.int .i64 0, .bool false, .slice none 0 0, .int .i64 0, .bool false] 166) = w0 at HO0 ⊢
  obtain ⟨c1, c2, k1, k2⟩ := HO0
  go_region_held3 (fun w' => w'.cell? ⟨g, 0, none⟩ = some (.int .i64 (fr : Int)) ∧ w'.cell? ⟨g, 1, none⟩ = some (.int .i64 (ex : Int)) ∧ w'.heap[h]? = some (.cells #[.int .i64 0, .bool false, .slice none 0 0, .int .i64 0, .bool false] 166 (0, 0)) ∧ Below w.heap.size w w') (first | exact ⟨c1, c2, k1, k2.drew⟩ | exact OfS.below (h := h) ‹_› hbel) (first | (go_at_call 131; refine (HT.out _).mono ?_; rintro e1 w1 ⟨rfl, hbel⟩))
  rename_i hH
  clear hbel c1 c2 k1 k2
  obtain ⟨c1, c2, k1, k2⟩ := hH
  have HO1 := Lib.hid (show OfS w g h fr ex w1 from ⟨c1, c2, k1, k2⟩)
  clear k1 k2
  by_cases hx1 : xp = top
  · have hb1 : ((xp : Int) == (top : Int)) = true := by rw [hx1]; exact beq_self_eq_true _
    by_cases hf0 : fc = 0
    · have hb2 : ((fc : Int) != 0) = false := by rw [hf0]; rfl
      have E : Hid ((fmt fr ex).read b = .infinity neg) := (show _ = _ by rw [RP2.out, if_pos hx1, if_pos hf0])
      clear hx1 hf0
      go_wp2_with (go_at_call 131; refine (HT.out _).mono ?_; rintro e1 w2 ⟨rfl, hbel⟩; have HO2 := Lib.hid (HO1.out.below hbel); obtain ⟨⟨z0, z1, z2, z3, z4⟩, y0, y1, y2, y3, y4⟩ := HO2.out.cells; clear hbel)
      refine bodyPost_ret (v := numV 1 neg none 0 0 0 false) (by simp [results, Try.results108, go_sem, numV, z0, z1, z2, z3, z4]) rfl ?_
      refine ⟨_, rfl, by rw [E.out]; exact ⟨_, _, _, _, _, rfl⟩, ?_⟩
      repeat (first | exact HO2.out.2.2.2 | refine Below.setCell ?_ hh _)
    · have hb2 : ((fc : Int) != 0) = true := by rw [bne_iff_ne]; omega
      have E : Hid ((fmt fr ex).read b = .nan neg fc) := (show _ = _ by rw [RP2.out, if_pos hx1, if_neg hf0])
      clear hx1 hf0
      go_wp2_with (go_at_call 131; refine (HT.out _).mono ?_; rintro e1 w2 ⟨rfl, hbel⟩; have HO2 := Lib.hid (HO1.out.below hbel); obtain ⟨⟨z0, z1, z2, z3, z4⟩, y0, y1, y2, y3, y4⟩ := HO2.out.cells; clear hbel)
      refine bodyPost_ret (v := numV 0 false none 0 0 0 false) (by simp [results, Try.results108, go_sem, numV, z0, z1, z2, z3, z4]) rfl ?_
      refine ⟨_, rfl, by rw [E.out]; exact ⟨_, _, _, _, _, _, rfl⟩, ?_⟩
      repeat (first | exact HO2.out.2.2.2 | refine Below.setCell ?_ hh _)
  · have hb1 : ((xp : Int) == (top : Int)) = false := by rw [beq_eq_false_iff_ne]; omega
    by_cases hx0 : xp = 0
    · have hb2 : ((xp : Int) == 0) = true := by rw [hx0]; rfl
      have E : Hid ((fmt fr ex).read b = .number neg fc (1 - (bias : Int))) := (show _ = _ by rw [RP2.out, if_neg hx1, if_pos hx0])
      have HN := Lib.hid fun W => natOf_calls fc W (by omega)
      have W9 : IntKind.i64.wrap (1 - (bias : Int)) = 1 - (bias : Int) := IntWalk.i64_in _ (by omega)
      clear hx1 hx0
      go_upto_region 9 with (go_at_call 131; refine (HT.out _).mono ?_; rintro e1 w2 ⟨rfl, hbel⟩; have HO2 := Lib.hid (HO1.out.below hbel); clear hbel)
      obtain ⟨c3, c4, k3, k4⟩ := HO2.out
      clear k3 k4
      go_region_with ((first
        | (go_at_call 132; refine (HN.out _).mono ?_; rintro e1 w4 ⟨v, rfl, ⟨A, c, rfl, hc, hr⟩, hbel⟩; have HO3 := Lib.hid (show OfS w g h fr ex w4 from OfS.below (W := w2.drew) HO2.out.drew hbel); have HRN := Lib.hid hr; have HCN := Lib.hid hc; obtain ⟨c5, c6, _, _⟩ := HO3.out; clear hr hc hbel)
        | (go_at_call 133; refine (HBI.out _).mono ?_; rintro e1 w5 ⟨rfl, hbel⟩; have HO4 := Lib.hid (HO3.out.below hbel); have HRM := Lib.hid (HRN.out.below hbel); obtain ⟨⟨z0, z1, z2, z3, z4⟩, y0, y1, y2, y3, y4⟩ := HO4.out.cells; clear hbel)))
      all_goals
        go_wp2
        refine bodyPost_ret (v := numV 2 neg A (len32 fc) c (1 - (bias : Int)) false) (by simp [results, Try.results108, go_sem, numV, z0, z1, z2, z3, z4]) rfl ?_
        have F := HO4.out.num hh HRM.out HCN.out neg (1 - (bias : Int))
        exact ⟨_, rfl, by rw [E.out]; exact F.1, F.2⟩
    · have hb2 : ((xp : Int) == 0) = false := by rw [beq_eq_false_iff_ne]; omega
      obtain ⟨mm, emm⟩ : ∃ mm, mm = P + fc := ⟨_, rfl⟩
      have E : Hid ((fmt fr ex).read b = .number neg mm ((xp : Int) - (bias : Int))) := (show _ = _ by rw [RP2.out, if_neg hx1, if_neg hx0, emm])
      have HN := Lib.hid fun W => natOf_calls mm W (by omega)
      have W9 : IntKind.i64.wrap ((xp : Int) - (bias : Int)) = (xp : Int) - (bias : Int) := IntWalk.i64_in _ (by omega)
      have W10 : IntKind.i64.wrap (xp : Int) = (xp : Int) := IntWalk.i64_in _ (by omega)
      have W11 : bits .or .u64 (fc : Int) (P : Int) = (mm : Int) := OR.out.trans (by rw [emm]; push_cast; omega)
      clear hx1 hx0 emm
      go_upto_region 10 with (go_at_call 131; refine (HT.out _).mono ?_; rintro e1 w2 ⟨rfl, hbel⟩; have HO2 := Lib.hid (HO1.out.below hbel); clear hbel)
      obtain ⟨c3, c4, k3, k4⟩ := HO2.out
      clear k3 k4
      go_region_with ((first
        | (go_at_call 132; refine (HN.out _).mono ?_; rintro e1 w4 ⟨v, rfl, ⟨A, c, rfl, hc, hr⟩, hbel⟩; have HO3 := Lib.hid (show OfS w g h fr ex w4 from OfS.below (W := w2.drew) HO2.out.drew hbel); have HRN := Lib.hid hr; have HCN := Lib.hid hc; obtain ⟨c5, c6, _, _⟩ := HO3.out; clear hr hc hbel)
        | (go_at_call 133; refine (HBI.out _).mono ?_; rintro e1 w5 ⟨rfl, hbel⟩; have HO4 := Lib.hid (HO3.out.below hbel); have HRM := Lib.hid (HRN.out.below hbel); obtain ⟨⟨z0, z1, z2, z3, z4⟩, y0, y1, y2, y3, y4⟩ := HO4.out.cells; clear hbel)))
      all_goals
        go_wp2
        refine bodyPost_ret (v := numV 2 neg A (len32 mm) c ((xp : Int) - (bias : Int)) false) (by simp [results, Try.results108, go_sem, numV, z0, z1, z2, z3, z4]) rfl ?_
        have F := HO4.out.num hh HRM.out HCN.out neg ((xp : Int) - (bias : Int))
        exact ⟨_, rfl, by rw [E.out]; exact F.1, F.2⟩
end Go.Proofs.Ytdcpeeolfgohmaa
