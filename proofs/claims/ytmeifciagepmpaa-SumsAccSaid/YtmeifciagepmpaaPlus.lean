/- halideref2.PlusNum. -/
import Derived.Test.YtmeifciagepmpaaNumB
namespace Go.Proofs.Ytmeifciagepmpaa
open Go.RowKit Go.Proofs.YtmeifciagepmpaaW.PrintWords
set_option linter.unusedSimpArgs false
set_option linter.unusedVariables false

/-! ### Numbers in memory -/
def NumBox (W : World) (g : Nat) (k : Int) (s : Bool) (A : Option Addr) (n c : Nat) (e : Int) (mo : Bool) : Prop :=
  W.cell? ⟨g, 0, none⟩ = some (.int .i64 k) ∧ W.cell? ⟨g, 1, none⟩ = some (.bool s) ∧ W.cell? ⟨g, 2, none⟩ = some (.slice A n c) ∧ W.cell? ⟨g, 3, none⟩ = some (.int .i64 e) ∧ W.cell? ⟨g, 4, none⟩ = some (.bool mo)
def ZeroNum (W : World) (h : Nat) : Prop := W.heap[h]? = some (.cells #[.int .i64 0, .bool false, .slice none 0 0, .int .i64 0, .bool false] 62 (0, 0))
theorem NumBox.below {W W' : World} {g : Nat} {k : Int} {s : Bool} {A : Option Addr} {n c : Nat} {e : Int} {mo : Bool} (H : NumBox W g k s A n c e mo) (hb : Below W.heap.size W W') : NumBox W' g k s A n c e mo := by
  have kp : ∀ {p : Addr} {v : Value}, W.cell? p = some v → W'.cell? p = some v := fun h => (hb.cell (World.block_lt_of_cell? _ _ h)).trans h
  exact ⟨kp H.1, kp H.2.1, kp H.2.2.1, kp H.2.2.2.1, kp H.2.2.2.2⟩
theorem ZeroNum.below {W W' : World} {h : Nat} (H : ZeroNum W h) (hb : Below W.heap.size W W') : ZeroNum W' h := (hb.block _ (Array.getElem?_eq_some_iff.1 H).1).trans H
theorem ZeroNum.cells {W : World} {h : Nat} (k : ZeroNum W h) :
    (W.cell? ⟨h, 0, none⟩ = some (.int .i64 0) ∧ W.cell? ⟨h, 1, none⟩ = some (.bool false) ∧ W.cell? ⟨h, 2, none⟩ = some (.slice none 0 0) ∧ W.cell? ⟨h, 3, none⟩ = some (.int .i64 0) ∧ W.cell? ⟨h, 4, none⟩ = some (.bool false)) ∧
    (W.frozen? ⟨h, 0, none⟩ = false ∧ W.frozen? ⟨h, 1, none⟩ = false ∧ W.frozen? ⟨h, 2, none⟩ = false ∧ W.frozen? ⟨h, 3, none⟩ = false ∧ W.frozen? ⟨h, 4, none⟩ = false) :=
  ⟨⟨ucell k 0, ucell k 1, ucell k 2, ucell k 3, ucell k 4⟩, ufree k 0, ufree k 1, ufree k 2, ufree k 3, ufree k 4⟩
theorem numBox_new (W : World) (k : Int) (s : Bool) (A : Option Addr) (n c : Nat) (e : Int) (mo : Bool) :
    NumBox (W.alloc (.cells #[.int .i64 k, .bool s, .slice A n c, .int .i64 e, .bool mo] 62)) W.heap.size k s A n c e mo := by
  have hn := heap_alloc_new W (.cells #[.int .i64 k, .bool s, .slice A n c, .int .i64 e, .bool mo] 62)
  exact ⟨ucell hn 0, ucell hn 1, ucell hn 2, ucell hn 3, ucell hn 4⟩
theorem NumAt.form {w : World} {u : Value} {d : Ieee.Datum} (h : NumAt w u d) : ∃ k s A n c e b, u = numV k s A n c e b := by
  cases d with
  | number s m p => obtain ⟨A, c, rfl, _⟩ := h; exact ⟨_, _, _, _, _, _, _, rfl⟩
  | infinity s => obtain ⟨A, n, c, e, b, rfl⟩ := h; exact ⟨_, _, _, _, _, _, _, rfl⟩
  | nan s t => obtain ⟨s', A, n, c, e, b, rfl⟩ := h; exact ⟨_, _, _, _, _, _, _, rfl⟩

/-- Two numbers' boxes, a block for the result. -/
structure TwoS (w : World) (g1 g2 h : Nat) (k1 : Int) (s1 : Bool) (A1 : Option Addr) (n1 c1 : Nat) (e1 : Int) (b1 : Bool) (k2 : Int) (s2 : Bool) (A2 : Option Addr) (n2 c2 : Nat) (e2 : Int) (b2 : Bool) (W : World) : Prop where
  x : NumBox W g1 k1 s1 A1 n1 c1 e1 b1
  y : NumBox W g2 k2 s2 A2 n2 c2 e2 b2
  z : ZeroNum W h
  be : Below w.heap.size w W
  lo : w.heap.size ≤ h
theorem TwoS.below {w : World} {g1 g2 h : Nat} {k1 : Int} {s1 : Bool} {A1 : Option Addr} {n1 c1 : Nat} {e1 : Int} {b1 : Bool} {k2 : Int} {s2 : Bool} {A2 : Option Addr} {n2 c2 : Nat} {e2 : Int} {b2 : Bool} {W W' : World} (H : TwoS w g1 g2 h k1 s1 A1 n1 c1 e1 b1 k2 s2 A2 n2 c2 e2 b2 W) (hb : Below W.heap.size W W') : TwoS w g1 g2 h k1 s1 A1 n1 c1 e1 b1 k2 s2 A2 n2 c2 e2 b2 W' :=
  ⟨H.x.below hb, H.y.below hb, H.z.below hb, ujoin H.be hb, H.lo⟩
theorem TwoS.drew {w : World} {g1 g2 h : Nat} {k1 : Int} {s1 : Bool} {A1 : Option Addr} {n1 c1 : Nat} {e1 : Int} {b1 : Bool} {k2 : Int} {s2 : Bool} {A2 : Option Addr} {n2 c2 : Nat} {e2 : Int} {b2 : Bool} {W : World} (H : TwoS w g1 g2 h k1 s1 A1 n1 c1 e1 b1 k2 s2 A2 n2 c2 e2 b2 W) : TwoS w g1 g2 h k1 s1 A1 n1 c1 e1 b1 k2 s2 A2 n2 c2 e2 b2 W.drew :=
  ⟨H.x, H.y, H.z, H.be.drew, H.lo⟩
theorem TwoS.start (w : World) (k1 : Int) (s1 : Bool) (A1 : Option Addr) (n1 c1 : Nat) (e1 : Int) (b1 : Bool) (k2 : Int) (s2 : Bool) (A2 : Option Addr) (n2 c2 : Nat) (e2 : Int) (b2 : Bool) :
    TwoS w w.heap.size (w.heap.size + 1) (w.heap.size + 1 + 1) k1 s1 A1 n1 c1 e1 b1 k2 s2 A2 n2 c2 e2 b2 (((w.alloc (.cells #[.int .i64 k1, .bool s1, .slice A1 n1 c1, .int .i64 e1, .bool b1] 62)).alloc (.cells #[.int .i64 k2, .bool s2, .slice A2 n2 c2, .int .i64 e2, .bool b2] 62)).alloc zeroNum) := by
  have h1 := numBox_new w k1 s1 A1 n1 c1 e1 b1
  have h2 := numBox_new (w.alloc (.cells #[.int .i64 k1, .bool s1, .slice A1 n1 c1, .int .i64 e1, .bool b1] 62)) k2 s2 A2 n2 c2 e2 b2
  have h3 := heap_alloc_new ((w.alloc (.cells #[.int .i64 k1, .bool s1, .slice A1 n1 c1, .int .i64 e1, .bool b1] 62)).alloc (.cells #[.int .i64 k2, .bool s2, .slice A2 n2 c2, .int .i64 e2, .bool b2] 62)) zeroNum
  simp only [World.size_alloc] at h2 h3
  have q1 : Below _ _ _ := (Below.refl (w.alloc (.cells #[.int .i64 k1, .bool s1, .slice A1 n1 c1, .int .i64 e1, .bool b1] 62)).heap.size (w.alloc (.cells #[.int .i64 k1, .bool s1, .slice A1 n1 c1, .int .i64 e1, .bool b1] 62))).alloc (Nat.le_refl _) (.cells #[.int .i64 k2, .bool s2, .slice A2 n2 c2, .int .i64 e2, .bool b2] 62)
  have q2 : Below _ _ _ := (Below.refl ((w.alloc (.cells #[.int .i64 k1, .bool s1, .slice A1 n1 c1, .int .i64 e1, .bool b1] 62)).alloc (.cells #[.int .i64 k2, .bool s2, .slice A2 n2 c2, .int .i64 e2, .bool b2] 62)).heap.size ((w.alloc (.cells #[.int .i64 k1, .bool s1, .slice A1 n1 c1, .int .i64 e1, .bool b1] 62)).alloc (.cells #[.int .i64 k2, .bool s2, .slice A2 n2 c2, .int .i64 e2, .bool b2] 62))).alloc (Nat.le_refl _) zeroNum
  exact ⟨(h1.below q1).below q2, h2.below q2, h3, (((Below.refl _ _).alloc (Nat.le_refl _) _).alloc (by simp) _).alloc (by simp; omega) _, by omega⟩
theorem below_num {w W : World} {h : Nat} (hb : Below w.heap.size w W) (hz : ZeroNum W h) (hh : w.heap.size ≤ h) {A : Option Addr} {c m : Nat} (hr : RowU W A (len32 m) (dig m)) (hc : len32 m ≤ c) (s : Bool) (p : Int) :
    NumAt (put5 W h (.int .i64 2) (.bool s) (.slice A (len32 m) c) (.int .i64 p) (.bool false)) (numV 2 s A (len32 m) c p false) (.number s m p) ∧ Below w.heap.size w (put5 W h (.int .i64 2) (.bool s) (.slice A (len32 m) c) (.int .i64 p) (.bool false)) :=
  ⟨⟨A, c, rfl, A, c, rfl, hc, hr.put5 hz.cells.1 _ _ _ _ _⟩, below_put5 hb hh _ _ _ _ _⟩

/-- The sum, as the reference holds it. -/
def plusD (a b : Ieee.Datum) : Ieee.Datum := (a.sum b).getD (.nan false 0)

set_option maxHeartbeats 3200000 in
set_option maxRecDepth 100000 in
theorem plus_nan1 (s1 : Bool) (A1 : Option Addr) (n1 c1 : Nat) (e1 : Int) (b1 : Bool) (k2 : Int) (s2 : Bool) (A2 : Option Addr) (n2 c2 : Nat) (e2 : Int) (b2 : Bool) (w : World)
    (_ : True) :
    Calls Try.prog 90 #[numV 0 s1 A1 n1 c1 e1 b1, numV k2 s2 A2 n2 c2 e2 b2] w fun e w' => Gives w (numV 0 false none 0 0 0 false) e w' := by
  unfold numV
  have HS0 := TwoS.start w 0 s1 A1 n1 c1 e1 b1 k2 s2 A2 n2 c2 e2 b2
  obtain ⟨g1, eg1⟩ : ∃ g, g = w.heap.size := ⟨_, rfl⟩
  obtain ⟨g2, eg2⟩ : ∃ g, g = w.heap.size + 1 := ⟨_, rfl⟩
  obtain ⟨h3, eg3⟩ : ∃ g, g = w.heap.size + 1 + 1 := ⟨_, rfl⟩
  rw [← eg3, ← eg2, ← eg1] at HS0
  have EG1 := Lib.hid eg1
  have EG2 := Lib.hid eg2
  have EG3 := Lib.hid eg3
  clear eg1 eg2 eg3
  go_enter Try.func90, Try.ntmps90
  go_upto_region 1 with (fail)
  rw [← EG3.out, ← EG2.out, ← EG1.out]
  unfold zeroNum at HS0
  generalize ((w.alloc (.cells #[.int .i64 0, .bool s1, .slice A1 n1 c1, .int .i64 e1, .bool b1] 62)).alloc (.cells #[.int .i64 k2, .bool s2, .slice A2 n2 c2, .int .i64 e2, .bool b2] 62)).alloc (.cells #[.int .i64 0, .bool false, .slice none 0 0, .int .i64 0, .bool false] 62) = w0 at HS0 ⊢
  have HS := Lib.hid HS0
  obtain ⟨x0, x1, x2, x3, x4⟩ := HS.out.x
  obtain ⟨y0, y1, y2, y3, y4⟩ := HS.out.y
  clear HS0
  obtain ⟨⟨z0, z1, z2, z3, z4⟩, f0, f1, f2, f3, f4⟩ := HS.out.z.cells
  go_wp2
  all_goals exact bodyPost_ret (v := numV 0 false none 0 0 0 false) (by simp [results, Try.results90, go_sem, numV, z0, z1, z2, z3, z4]) rfl ⟨rfl, below_put5 HS.out.be HS.out.lo _ _ _ _ _⟩

set_option maxHeartbeats 3200000 in
set_option maxRecDepth 100000 in
theorem plus_nan2 (s1 : Bool) (A1 : Option Addr) (n1 c1 : Nat) (e1 : Int) (b1 : Bool) (s2 : Bool) (A2 : Option Addr) (n2 c2 : Nat) (e2 : Int) (b2 : Bool) (w : World)
    (_ : True) :
    Calls Try.prog 90 #[numV 1 s1 A1 n1 c1 e1 b1, numV 0 s2 A2 n2 c2 e2 b2] w fun e w' => Gives w (numV 0 false none 0 0 0 false) e w' := by
  unfold numV
  have HS0 := TwoS.start w 1 s1 A1 n1 c1 e1 b1 0 s2 A2 n2 c2 e2 b2
  obtain ⟨g1, eg1⟩ : ∃ g, g = w.heap.size := ⟨_, rfl⟩
  obtain ⟨g2, eg2⟩ : ∃ g, g = w.heap.size + 1 := ⟨_, rfl⟩
  obtain ⟨h3, eg3⟩ : ∃ g, g = w.heap.size + 1 + 1 := ⟨_, rfl⟩
  rw [← eg3, ← eg2, ← eg1] at HS0
  have EG1 := Lib.hid eg1
  have EG2 := Lib.hid eg2
  have EG3 := Lib.hid eg3
  clear eg1 eg2 eg3
  go_enter Try.func90, Try.ntmps90
  go_upto_region 1 with (fail)
  rw [← EG3.out, ← EG2.out, ← EG1.out]
  unfold zeroNum at HS0
  generalize ((w.alloc (.cells #[.int .i64 1, .bool s1, .slice A1 n1 c1, .int .i64 e1, .bool b1] 62)).alloc (.cells #[.int .i64 0, .bool s2, .slice A2 n2 c2, .int .i64 e2, .bool b2] 62)).alloc (.cells #[.int .i64 0, .bool false, .slice none 0 0, .int .i64 0, .bool false] 62) = w0 at HS0 ⊢
  have HS := Lib.hid HS0
  obtain ⟨x0, x1, x2, x3, x4⟩ := HS.out.x
  obtain ⟨y0, y1, y2, y3, y4⟩ := HS.out.y
  clear HS0
  obtain ⟨⟨z0, z1, z2, z3, z4⟩, f0, f1, f2, f3, f4⟩ := HS.out.z.cells
  go_wp2
  all_goals exact bodyPost_ret (v := numV 0 false none 0 0 0 false) (by simp [results, Try.results90, go_sem, numV, z0, z1, z2, z3, z4]) rfl ⟨rfl, below_put5 HS.out.be HS.out.lo _ _ _ _ _⟩

set_option maxHeartbeats 3200000 in
set_option maxRecDepth 100000 in
theorem plus_nan3 (s1 : Bool) (A1 : Option Addr) (n1 c1 : Nat) (e1 : Int) (b1 : Bool) (s2 : Bool) (A2 : Option Addr) (n2 c2 : Nat) (e2 : Int) (b2 : Bool) (w : World)
    (_ : True) :
    Calls Try.prog 90 #[numV 2 s1 A1 n1 c1 e1 b1, numV 0 s2 A2 n2 c2 e2 b2] w fun e w' => Gives w (numV 0 false none 0 0 0 false) e w' := by
  unfold numV
  have HS0 := TwoS.start w 2 s1 A1 n1 c1 e1 b1 0 s2 A2 n2 c2 e2 b2
  obtain ⟨g1, eg1⟩ : ∃ g, g = w.heap.size := ⟨_, rfl⟩
  obtain ⟨g2, eg2⟩ : ∃ g, g = w.heap.size + 1 := ⟨_, rfl⟩
  obtain ⟨h3, eg3⟩ : ∃ g, g = w.heap.size + 1 + 1 := ⟨_, rfl⟩
  rw [← eg3, ← eg2, ← eg1] at HS0
  have EG1 := Lib.hid eg1
  have EG2 := Lib.hid eg2
  have EG3 := Lib.hid eg3
  clear eg1 eg2 eg3
  go_enter Try.func90, Try.ntmps90
  go_upto_region 1 with (fail)
  rw [← EG3.out, ← EG2.out, ← EG1.out]
  unfold zeroNum at HS0
  generalize ((w.alloc (.cells #[.int .i64 2, .bool s1, .slice A1 n1 c1, .int .i64 e1, .bool b1] 62)).alloc (.cells #[.int .i64 0, .bool s2, .slice A2 n2 c2, .int .i64 e2, .bool b2] 62)).alloc (.cells #[.int .i64 0, .bool false, .slice none 0 0, .int .i64 0, .bool false] 62) = w0 at HS0 ⊢
  have HS := Lib.hid HS0
  obtain ⟨x0, x1, x2, x3, x4⟩ := HS.out.x
  obtain ⟨y0, y1, y2, y3, y4⟩ := HS.out.y
  clear HS0
  obtain ⟨⟨z0, z1, z2, z3, z4⟩, f0, f1, f2, f3, f4⟩ := HS.out.z.cells
  go_wp2
  all_goals exact bodyPost_ret (v := numV 0 false none 0 0 0 false) (by simp [results, Try.results90, go_sem, numV, z0, z1, z2, z3, z4]) rfl ⟨rfl, below_put5 HS.out.be HS.out.lo _ _ _ _ _⟩

set_option maxHeartbeats 3200000 in
set_option maxRecDepth 100000 in
theorem plus_infs (s1 : Bool) (A1 : Option Addr) (n1 c1 : Nat) (e1 : Int) (b1 : Bool) (s2 : Bool) (A2 : Option Addr) (n2 c2 : Nat) (e2 : Int) (b2 : Bool) (w : World)
    (h : (s1 != s2) = true) :
    Calls Try.prog 90 #[numV 1 s1 A1 n1 c1 e1 b1, numV 1 s2 A2 n2 c2 e2 b2] w fun e w' => Gives w (numV 0 false none 0 0 0 false) e w' := by
  rcases s1 with _ | _ <;> rcases s2 with _ | _
  · exact absurd h (by decide)
  · clear h
    unfold numV
    have HS0 := TwoS.start w 1 false A1 n1 c1 e1 b1 1 true A2 n2 c2 e2 b2
    obtain ⟨g1, eg1⟩ : ∃ g, g = w.heap.size := ⟨_, rfl⟩
    obtain ⟨g2, eg2⟩ : ∃ g, g = w.heap.size + 1 := ⟨_, rfl⟩
    obtain ⟨h3, eg3⟩ : ∃ g, g = w.heap.size + 1 + 1 := ⟨_, rfl⟩
    rw [← eg3, ← eg2, ← eg1] at HS0
    have EG1 := Lib.hid eg1
    have EG2 := Lib.hid eg2
    have EG3 := Lib.hid eg3
    clear eg1 eg2 eg3
    go_enter Try.func90, Try.ntmps90
    go_upto_region 1 with (fail)
    rw [← EG3.out, ← EG2.out, ← EG1.out]
    unfold zeroNum at HS0
    generalize ((w.alloc (.cells #[.int .i64 1, .bool false, .slice A1 n1 c1, .int .i64 e1, .bool b1] 62)).alloc (.cells #[.int .i64 1, .bool true, .slice A2 n2 c2, .int .i64 e2, .bool b2] 62)).alloc (.cells #[.int .i64 0, .bool false, .slice none 0 0, .int .i64 0, .bool false] 62) = w0 at HS0 ⊢
    have HS := Lib.hid HS0
    obtain ⟨x0, x1, x2, x3, x4⟩ := HS.out.x
    obtain ⟨y0, y1, y2, y3, y4⟩ := HS.out.y
    clear HS0
    obtain ⟨⟨z0, z1, z2, z3, z4⟩, f0, f1, f2, f3, f4⟩ := HS.out.z.cells
    go_wp2
    all_goals exact bodyPost_ret (v := numV 0 false none 0 0 0 false) (by simp [results, Try.results90, go_sem, numV, z0, z1, z2, z3, z4]) rfl ⟨rfl, below_put5 HS.out.be HS.out.lo _ _ _ _ _⟩
  · clear h
    unfold numV
    have HS0 := TwoS.start w 1 true A1 n1 c1 e1 b1 1 false A2 n2 c2 e2 b2
    obtain ⟨g1, eg1⟩ : ∃ g, g = w.heap.size := ⟨_, rfl⟩
    obtain ⟨g2, eg2⟩ : ∃ g, g = w.heap.size + 1 := ⟨_, rfl⟩
    obtain ⟨h3, eg3⟩ : ∃ g, g = w.heap.size + 1 + 1 := ⟨_, rfl⟩
    rw [← eg3, ← eg2, ← eg1] at HS0
    have EG1 := Lib.hid eg1
    have EG2 := Lib.hid eg2
    have EG3 := Lib.hid eg3
    clear eg1 eg2 eg3
    go_enter Try.func90, Try.ntmps90
    go_upto_region 1 with (fail)
    rw [← EG3.out, ← EG2.out, ← EG1.out]
    unfold zeroNum at HS0
    generalize ((w.alloc (.cells #[.int .i64 1, .bool true, .slice A1 n1 c1, .int .i64 e1, .bool b1] 62)).alloc (.cells #[.int .i64 1, .bool false, .slice A2 n2 c2, .int .i64 e2, .bool b2] 62)).alloc (.cells #[.int .i64 0, .bool false, .slice none 0 0, .int .i64 0, .bool false] 62) = w0 at HS0 ⊢
    have HS := Lib.hid HS0
    obtain ⟨x0, x1, x2, x3, x4⟩ := HS.out.x
    obtain ⟨y0, y1, y2, y3, y4⟩ := HS.out.y
    clear HS0
    obtain ⟨⟨z0, z1, z2, z3, z4⟩, f0, f1, f2, f3, f4⟩ := HS.out.z.cells
    go_wp2
    all_goals exact bodyPost_ret (v := numV 0 false none 0 0 0 false) (by simp [results, Try.results90, go_sem, numV, z0, z1, z2, z3, z4]) rfl ⟨rfl, below_put5 HS.out.be HS.out.lo _ _ _ _ _⟩
  · exact absurd h (by decide)

set_option maxHeartbeats 3200000 in
set_option maxRecDepth 100000 in
theorem plus_inf1 (s1 : Bool) (A1 : Option Addr) (n1 c1 : Nat) (e1 : Int) (b1 : Bool) (s2 : Bool) (A2 : Option Addr) (n2 c2 : Nat) (e2 : Int) (b2 : Bool) (w : World)
    (h : (s1 != s2) = false) :
    Calls Try.prog 90 #[numV 1 s1 A1 n1 c1 e1 b1, numV 1 s2 A2 n2 c2 e2 b2] w fun e w' => Gives w (numV 1 s1 A1 n1 c1 e1 b1) e w' := by
  rcases s1 with _ | _ <;> rcases s2 with _ | _
  · clear h
    unfold numV
    have HS0 := TwoS.start w 1 false A1 n1 c1 e1 b1 1 false A2 n2 c2 e2 b2
    obtain ⟨g1, eg1⟩ : ∃ g, g = w.heap.size := ⟨_, rfl⟩
    obtain ⟨g2, eg2⟩ : ∃ g, g = w.heap.size + 1 := ⟨_, rfl⟩
    obtain ⟨h3, eg3⟩ : ∃ g, g = w.heap.size + 1 + 1 := ⟨_, rfl⟩
    rw [← eg3, ← eg2, ← eg1] at HS0
    have EG1 := Lib.hid eg1
    have EG2 := Lib.hid eg2
    have EG3 := Lib.hid eg3
    clear eg1 eg2 eg3
    go_enter Try.func90, Try.ntmps90
    go_upto_region 1 with (fail)
    rw [← EG3.out, ← EG2.out, ← EG1.out]
    unfold zeroNum at HS0
    generalize ((w.alloc (.cells #[.int .i64 1, .bool false, .slice A1 n1 c1, .int .i64 e1, .bool b1] 62)).alloc (.cells #[.int .i64 1, .bool false, .slice A2 n2 c2, .int .i64 e2, .bool b2] 62)).alloc (.cells #[.int .i64 0, .bool false, .slice none 0 0, .int .i64 0, .bool false] 62) = w0 at HS0 ⊢
    have HS := Lib.hid HS0
    obtain ⟨x0, x1, x2, x3, x4⟩ := HS.out.x
    obtain ⟨y0, y1, y2, y3, y4⟩ := HS.out.y
    clear HS0
    obtain ⟨⟨z0, z1, z2, z3, z4⟩, f0, f1, f2, f3, f4⟩ := HS.out.z.cells
    go_wp2
    all_goals exact bodyPost_ret (v := numV 1 false A1 n1 c1 e1 b1) (by simp [results, Try.results90, go_sem, numV, z0, z1, z2, z3, z4]) rfl ⟨rfl, below_put5 HS.out.be HS.out.lo _ _ _ _ _⟩
  · exact absurd h (by decide)
  · exact absurd h (by decide)
  · clear h
    unfold numV
    have HS0 := TwoS.start w 1 true A1 n1 c1 e1 b1 1 true A2 n2 c2 e2 b2
    obtain ⟨g1, eg1⟩ : ∃ g, g = w.heap.size := ⟨_, rfl⟩
    obtain ⟨g2, eg2⟩ : ∃ g, g = w.heap.size + 1 := ⟨_, rfl⟩
    obtain ⟨h3, eg3⟩ : ∃ g, g = w.heap.size + 1 + 1 := ⟨_, rfl⟩
    rw [← eg3, ← eg2, ← eg1] at HS0
    have EG1 := Lib.hid eg1
    have EG2 := Lib.hid eg2
    have EG3 := Lib.hid eg3
    clear eg1 eg2 eg3
    go_enter Try.func90, Try.ntmps90
    go_upto_region 1 with (fail)
    rw [← EG3.out, ← EG2.out, ← EG1.out]
    unfold zeroNum at HS0
    generalize ((w.alloc (.cells #[.int .i64 1, .bool true, .slice A1 n1 c1, .int .i64 e1, .bool b1] 62)).alloc (.cells #[.int .i64 1, .bool true, .slice A2 n2 c2, .int .i64 e2, .bool b2] 62)).alloc (.cells #[.int .i64 0, .bool false, .slice none 0 0, .int .i64 0, .bool false] 62) = w0 at HS0 ⊢
    have HS := Lib.hid HS0
    obtain ⟨x0, x1, x2, x3, x4⟩ := HS.out.x
    obtain ⟨y0, y1, y2, y3, y4⟩ := HS.out.y
    clear HS0
    obtain ⟨⟨z0, z1, z2, z3, z4⟩, f0, f1, f2, f3, f4⟩ := HS.out.z.cells
    go_wp2
    all_goals exact bodyPost_ret (v := numV 1 true A1 n1 c1 e1 b1) (by simp [results, Try.results90, go_sem, numV, z0, z1, z2, z3, z4]) rfl ⟨rfl, below_put5 HS.out.be HS.out.lo _ _ _ _ _⟩

set_option maxHeartbeats 3200000 in
set_option maxRecDepth 100000 in
theorem plus_inf2 (s1 : Bool) (A1 : Option Addr) (n1 c1 : Nat) (e1 : Int) (b1 : Bool) (s2 : Bool) (A2 : Option Addr) (n2 c2 : Nat) (e2 : Int) (b2 : Bool) (w : World)
    (_ : True) :
    Calls Try.prog 90 #[numV 1 s1 A1 n1 c1 e1 b1, numV 2 s2 A2 n2 c2 e2 b2] w fun e w' => Gives w (numV 1 s1 A1 n1 c1 e1 b1) e w' := by
  unfold numV
  have HS0 := TwoS.start w 1 s1 A1 n1 c1 e1 b1 2 s2 A2 n2 c2 e2 b2
  obtain ⟨g1, eg1⟩ : ∃ g, g = w.heap.size := ⟨_, rfl⟩
  obtain ⟨g2, eg2⟩ : ∃ g, g = w.heap.size + 1 := ⟨_, rfl⟩
  obtain ⟨h3, eg3⟩ : ∃ g, g = w.heap.size + 1 + 1 := ⟨_, rfl⟩
  rw [← eg3, ← eg2, ← eg1] at HS0
  have EG1 := Lib.hid eg1
  have EG2 := Lib.hid eg2
  have EG3 := Lib.hid eg3
  clear eg1 eg2 eg3
  go_enter Try.func90, Try.ntmps90
  go_upto_region 1 with (fail)
  rw [← EG3.out, ← EG2.out, ← EG1.out]
  unfold zeroNum at HS0
  generalize ((w.alloc (.cells #[.int .i64 1, .bool s1, .slice A1 n1 c1, .int .i64 e1, .bool b1] 62)).alloc (.cells #[.int .i64 2, .bool s2, .slice A2 n2 c2, .int .i64 e2, .bool b2] 62)).alloc (.cells #[.int .i64 0, .bool false, .slice none 0 0, .int .i64 0, .bool false] 62) = w0 at HS0 ⊢
  have HS := Lib.hid HS0
  obtain ⟨x0, x1, x2, x3, x4⟩ := HS.out.x
  obtain ⟨y0, y1, y2, y3, y4⟩ := HS.out.y
  clear HS0
  obtain ⟨⟨z0, z1, z2, z3, z4⟩, f0, f1, f2, f3, f4⟩ := HS.out.z.cells
  go_wp2
  all_goals exact bodyPost_ret (v := numV 1 s1 A1 n1 c1 e1 b1) (by simp [results, Try.results90, go_sem, numV, z0, z1, z2, z3, z4]) rfl ⟨rfl, below_put5 HS.out.be HS.out.lo _ _ _ _ _⟩

set_option maxHeartbeats 3200000 in
set_option maxRecDepth 100000 in
theorem plus_inf3 (s1 : Bool) (A1 : Option Addr) (n1 c1 : Nat) (e1 : Int) (b1 : Bool) (s2 : Bool) (A2 : Option Addr) (n2 c2 : Nat) (e2 : Int) (b2 : Bool) (w : World)
    (_ : True) :
    Calls Try.prog 90 #[numV 2 s1 A1 n1 c1 e1 b1, numV 1 s2 A2 n2 c2 e2 b2] w fun e w' => Gives w (numV 1 s2 A2 n2 c2 e2 b2) e w' := by
  unfold numV
  have HS0 := TwoS.start w 2 s1 A1 n1 c1 e1 b1 1 s2 A2 n2 c2 e2 b2
  obtain ⟨g1, eg1⟩ : ∃ g, g = w.heap.size := ⟨_, rfl⟩
  obtain ⟨g2, eg2⟩ : ∃ g, g = w.heap.size + 1 := ⟨_, rfl⟩
  obtain ⟨h3, eg3⟩ : ∃ g, g = w.heap.size + 1 + 1 := ⟨_, rfl⟩
  rw [← eg3, ← eg2, ← eg1] at HS0
  have EG1 := Lib.hid eg1
  have EG2 := Lib.hid eg2
  have EG3 := Lib.hid eg3
  clear eg1 eg2 eg3
  go_enter Try.func90, Try.ntmps90
  go_upto_region 1 with (fail)
  rw [← EG3.out, ← EG2.out, ← EG1.out]
  unfold zeroNum at HS0
  generalize ((w.alloc (.cells #[.int .i64 2, .bool s1, .slice A1 n1 c1, .int .i64 e1, .bool b1] 62)).alloc (.cells #[.int .i64 1, .bool s2, .slice A2 n2 c2, .int .i64 e2, .bool b2] 62)).alloc (.cells #[.int .i64 0, .bool false, .slice none 0 0, .int .i64 0, .bool false] 62) = w0 at HS0 ⊢
  have HS := Lib.hid HS0
  obtain ⟨x0, x1, x2, x3, x4⟩ := HS.out.x
  obtain ⟨y0, y1, y2, y3, y4⟩ := HS.out.y
  clear HS0
  obtain ⟨⟨z0, z1, z2, z3, z4⟩, f0, f1, f2, f3, f4⟩ := HS.out.z.cells
  go_wp2
  all_goals exact bodyPost_ret (v := numV 1 s2 A2 n2 c2 e2 b2) (by simp [results, Try.results90, go_sem, numV, z0, z1, z2, z3, z4]) rfl ⟨rfl, below_put5 HS.out.be HS.out.lo _ _ _ _ _⟩

end Go.Proofs.Ytmeifciagepmpaa
