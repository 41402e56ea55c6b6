/- halideref2.PlusNum. halideref2.PlusNum of two numbers. halideref2.PlusNum of anything; bits, num, Add, Sub, Wide, IsNaN. -/
import Derived.Test.YtdcpeeolfgohmaaNumB
import Derived.Laws.FloatBits
namespace Go.Proofs.Ytdcpeeolfgohmaa
open Go.RowKit Go.Proofs.YtdcpeeolfgohmaaW.PrintWords
set_option linter.unusedSimpArgs false
set_option linter.unusedVariables false

/-! ### Numbers in memory -/
def NumBox (W : World) (g : Nat) (k : Int) (s : Bool) (A : Option Addr) (n c : Nat) (e : Int) (mo : Bool) : Prop :=
  W.cell? ⟨g, 0, none⟩ = some (.int .i64 k) ∧ W.cell? ⟨g, 1, none⟩ = some (.bool s) ∧ W.cell? ⟨g, 2, none⟩ = some (.slice A n c) ∧ W.cell? ⟨g, 3, none⟩ = some (.int .i64 e) ∧ W.cell? ⟨g, 4, none⟩ = some (.bool mo)
def ZeroNum (W : World) (h : Nat) : Prop := W.heap[h]? = some (.cells #[.int .i64 0, .bool false, .slice none 0 0, .int .i64 0, .bool false] 166 (0, 0))
theorem NumBox.below {W W' : World} {g : Nat} {k : Int} {s : Bool} {A : Option Addr} {n c : Nat} {e : Int} {mo : Bool} (H : NumBox W g k s A n c e mo) (hb : Below W.heap.size W W') : NumBox W' g k s A n c e mo := by
  have kp : ∀ {p : Addr} {v : Value}, W.cell? p = some v → W'.cell? p = some v := fun h => (hb.cell (World.block_lt_of_cell? _ _ h)).trans h
  exact ⟨kp H.1, kp H.2.1, kp H.2.2.1, kp H.2.2.2.1, kp H.2.2.2.2⟩
theorem ZeroNum.below {W W' : World} {h : Nat} (H : ZeroNum W h) (hb : Below W.heap.size W W') : ZeroNum W' h := (hb.block _ (Array.getElem?_eq_some_iff.1 H).1).trans H
theorem ZeroNum.cells {W : World} {h : Nat} (k : ZeroNum W h) :
    (W.cell? ⟨h, 0, none⟩ = some (.int .i64 0) ∧ W.cell? ⟨h, 1, none⟩ = some (.bool false) ∧ W.cell? ⟨h, 2, none⟩ = some (.slice none 0 0) ∧ W.cell? ⟨h, 3, none⟩ = some (.int .i64 0) ∧ W.cell? ⟨h, 4, none⟩ = some (.bool false)) ∧
    (W.frozen? ⟨h, 0, none⟩ = false ∧ W.frozen? ⟨h, 1, none⟩ = false ∧ W.frozen? ⟨h, 2, none⟩ = false ∧ W.frozen? ⟨h, 3, none⟩ = false ∧ W.frozen? ⟨h, 4, none⟩ = false) :=
  ⟨⟨ucell k 0, ucell k 1, ucell k 2, ucell k 3, ucell k 4⟩, ufree k 0, ufree k 1, ufree k 2, ufree k 3, ufree k 4⟩
theorem numBox_new (W : World) (k : Int) (s : Bool) (A : Option Addr) (n c : Nat) (e : Int) (mo : Bool) :
    NumBox (W.alloc (.cells #[.int .i64 k, .bool s, .slice A n c, .int .i64 e, .bool mo] 166)) W.heap.size k s A n c e mo := by
  have hn := heap_alloc_new W (.cells #[.int .i64 k, .bool s, .slice A n c, .int .i64 e, .bool mo] 166)
  exact ⟨ucell hn 0, ucell hn 1, ucell hn 2, ucell hn 3, ucell hn 4⟩
theorem NumAt.form {w : World} {u : Value} {d : Ieee.Datum} (h : NumAt w u d) : ∃ k s A n c e b, u = numV k s A n c e b := by
  cases d with
  | number s m p => obtain ⟨A, c, rfl, _⟩ := h; exact ⟨_, _, _, _, _, _, _, rfl⟩
  | infinity s => obtain ⟨A, n, c, e, b, rfl⟩ := h; exact ⟨_, _, _, _, _, _, _, rfl⟩
  | nan s t => obtain ⟨s', A, n, c, e, b, rfl⟩ := h; exact ⟨_, _, _, _, _, _, _, rfl⟩

/-- Two numbers' boxes, a block for the result. -/
structure TwoS (w : World) (g1 g2 h : Nat) (k1 : Int) (s1 : Bool) (A1 : Option Addr) (n1 c1 : Nat) (e1 : Int) (b1 : Bool) (k2 : Int) (s2 : Bool) (A2 : Option Addr) (n2 c2 : Nat) (e2 : Int) (b2 : Bool) (W : World) : Prop where
  x : NumBox W g1 k1 s1 A1 n1 c1 e1 b1
  y : NumBox W g2 k2 s2 A2 n2 c2 e2 b2
  z : ZeroNum W h
  be : Below w.heap.size w W
  lo : w.heap.size ≤ h
theorem TwoS.below {w : World} {g1 g2 h : Nat} {k1 : Int} {s1 : Bool} {A1 : Option Addr} {n1 c1 : Nat} {e1 : Int} {b1 : Bool} {k2 : Int} {s2 : Bool} {A2 : Option Addr} {n2 c2 : Nat} {e2 : Int} {b2 : Bool} {W W' : World} (H : TwoS w g1 g2 h k1 s1 A1 n1 c1 e1 b1 k2 s2 A2 n2 c2 e2 b2 W) (hb : Below W.heap.size W W') : TwoS w g1 g2 h k1 s1 A1 n1 c1 e1 b1 k2 s2 A2 n2 c2 e2 b2 W' :=
  ⟨H.x.below hb, H.y.below hb, H.z.below hb, ujoin H.be hb, H.lo⟩
theorem TwoS.drew {w : World} {g1 g2 h : Nat} {k1 : Int} {s1 : Bool} {A1 : Option Addr} {n1 c1 : Nat} {e1 : Int} {b1 : Bool} {k2 : Int} {s2 : Bool} {A2 : Option Addr} {n2 c2 : Nat} {e2 : Int} {b2 : Bool} {W : World} (H : TwoS w g1 g2 h k1 s1 A1 n1 c1 e1 b1 k2 s2 A2 n2 c2 e2 b2 W) : TwoS w g1 g2 h k1 s1 A1 n1 c1 e1 b1 k2 s2 A2 n2 c2 e2 b2 W.drew :=
  ⟨H.x, H.y, H.z, H.be.drew, H.lo⟩
theorem TwoS.start (w : World) (k1 : Int) (s1 : Bool) (A1 : Option Addr) (n1 c1 : Nat) (e1 : Int) (b1 : Bool) (k2 : Int) (s2 : Bool) (A2 : Option Addr) (n2 c2 : Nat) (e2 : Int) (b2 : Bool) :
    TwoS w w.heap.size (w.heap.size + 1) (w.heap.size + 1 + 1) k1 s1 A1 n1 c1 e1 b1 k2 s2 A2 n2 c2 e2 b2 (((w.alloc (.cells #[.int .i64 k1, .bool s1, .slice A1 n1 c1, .int .i64 e1, .bool b1] 166)).alloc (.cells #[.int .i64 k2, .bool s2, .slice A2 n2 c2, .int .i64 e2, .bool b2] 166)).alloc zeroNum) := by
  have h1 := numBox_new w k1 s1 A1 n1 c1 e1 b1
  have h2 := numBox_new (w.alloc (.cells #[.int .i64 k1, .bool s1, .slice A1 n1 c1, .int .i64 e1, .bool b1] 166)) k2 s2 A2 n2 c2 e2 b2
  have h3 := heap_alloc_new ((w.alloc (.cells #[.int .i64 k1, .bool s1, .slice A1 n1 c1, .int .i64 e1, .bool b1] 166)).alloc (.cells #[.int .i64 k2, .bool s2, .slice A2 n2 c2, .int .i64 e2, .bool b2] 166)) zeroNum
  simp only [World.size_alloc] at h2 h3
  have q1 : Below _ _ _ := (Below.refl (w.alloc (.cells #[.int .i64 k1, .bool s1, .slice A1 n1 c1, .int .i64 e1, .bool b1] 166)).heap.size (w.alloc (.cells #[.int .i64 k1, .bool s1, .slice A1 n1 c1, .int .i64 e1, .bool b1] 166))).alloc (Nat.le_refl _) (.cells #[.int .i64 k2, .bool s2, .slice A2 n2 c2, .int .i64 e2, .bool b2] 166)
  have q2 : Below _ _ _ := (Below.refl ((w.alloc (.cells #[.int .i64 k1, .bool s1, .slice A1 n1 c1, .int .i64 e1, .bool b1] 166)).alloc (.cells #[.int .i64 k2, .bool s2, .slice A2 n2 c2, .int .i64 e2, .bool b2] 166)).heap.size ((w.alloc (.cells #[.int .i64 k1, .bool s1, .slice A1 n1 c1, .int .i64 e1, .bool b1] 166)).alloc (.cells #[.int .i64 k2, .bool s2, .slice A2 n2 c2, .int .i64 e2, .bool b2] 166))).alloc (Nat.le_refl _) zeroNum
  exact ⟨(h1.below q1).below q2, h2.below q2, h3, (((Below.refl _ _).alloc (Nat.le_refl _) _).alloc (by simp) _).alloc (by simp; omega) _, by omega⟩
theorem below_num {w W : World} {h : Nat} (hb : Below w.heap.size w W) (hz : ZeroNum W h) (hh : w.heap.size ≤ h) {A : Option Addr} {c m : Nat} (hr : RowU W A (len32 m) (dig m)) (hc : len32 m ≤ c) (s : Bool) (p : Int) :
    NumAt (put5 W h (.int .i64 2) (.bool s) (.slice A (len32 m) c) (.int .i64 p) (.bool false)) (numV 2 s A (len32 m) c p false) (.number s m p) ∧ Below w.heap.size w (put5 W h (.int .i64 2) (.bool s) (.slice A (len32 m) c) (.int .i64 p) (.bool false)) :=
  ⟨⟨A, c, rfl, A, c, rfl, hc, hr.put5 hz.cells.1 _ _ _ _ _⟩, below_put5 hb hh _ _ _ _ _⟩

/-- The sum, as the reference holds it. -/
def plusD (a b : Ieee.Datum) : Ieee.Datum := (a.sum b).getD (.nan false 0)

set_option maxHeartbeats 3200000 in
set_option maxRecDepth 100000 in
theorem plus_nan1 (s1 : Bool) (A1 : Option Addr) (n1 c1 : Nat) (e1 : Int) (b1 : Bool) (k2 : Int) (s2 : Bool) (A2 : Option Addr) (n2 c2 : Nat) (e2 : Int) (b2 : Bool) (w : World)
    (_ : True) :
    Calls Try.prog 152 #[numV 0 s1 A1 n1 c1 e1 b1, numV k2 s2 A2 n2 c2 e2 b2] w fun e w' => Gives w (numV 0 false none 0 0 0 false) e w' := by
  unfold numV
  have HS0 := TwoS.start w 0 s1 A1 n1 c1 e1 b1 k2 s2 A2 n2 c2 e2 b2
  obtain ⟨g1, eg1⟩ : ∃ g, g = w.heap.size := ⟨_, rfl⟩
  obtain ⟨g2, eg2⟩ : ∃ g, g = w.heap.size + 1 := ⟨_, rfl⟩
  obtain ⟨h3, eg3⟩ : ∃ g, g = w.heap.size + 1 + 1 := ⟨_, rfl⟩
  rw [← eg3, ← eg2, ← eg1] at HS0
  have EG1 := Lib.hid eg1
  have EG2 := Lib.hid eg2
  have EG3 := Lib.hid eg3
  clear eg1 eg2 eg3
  go_enter Try.func152, Try.ntmps152
  go_upto_region 1 with (fail)
  rw [← EG3.out, ← EG2.out, ← EG1.out]
  unfold zeroNum at HS0
  generalize ((w.alloc (.cells #[.int .i64 0, .bool s1, .slice A1 n1 c1, .int .i64 e1, .bool b1] 166)).alloc (.cells #[.int .i64 k2, .bool s2, .slice A2 n2 c2, .int .i64 e2, .bool b2] 166)).alloc (.cells #[.int .i64 0, .bool false, .slice none 0 0, .int .i64 0, .bool false] 166) = w0 at HS0 ⊢
  have HS := Lib.hid HS0
  obtain ⟨x0, x1, x2, x3, x4⟩ := HS.out.x
  obtain ⟨y0, y1, y2, y3, y4⟩ := HS.out.y
  clear HS0
  obtain ⟨⟨z0, z1, z2, z3, z4⟩, f0, f1, f2, f3, f4⟩ := HS.out.z.cells
  go_wp2
  all_goals exact bodyPost_ret (v := numV 0 false none 0 0 0 false) (by simp [results, Try.results152, go_sem, numV, z0, z1, z2, z3, z4]) rfl ⟨rfl, below_put5 HS.out.be HS.out.lo _ _ _ _ _⟩

set_option maxHeartbeats 3200000 in
set_option maxRecDepth 100000 in
theorem plus_nan2 (s1 : Bool) (A1 : Option Addr) (n1 c1 : Nat) (e1 : Int) (b1 : Bool) (s2 : Bool) (A2 : Option Addr) (n2 c2 : Nat) (e2 : Int) (b2 : Bool) (w : World)
    (_ : True) :
    Calls Try.prog 152 #[numV 1 s1 A1 n1 c1 e1 b1, numV 0 s2 A2 n2 c2 e2 b2] w fun e w' => Gives w (numV 0 false none 0 0 0 false) e w' := by
  unfold numV
  have HS0 := TwoS.start w 1 s1 A1 n1 c1 e1 b1 0 s2 A2 n2 c2 e2 b2
  obtain ⟨g1, eg1⟩ : ∃ g, g = w.heap.size := ⟨_, rfl⟩
  obtain ⟨g2, eg2⟩ : ∃ g, g = w.heap.size + 1 := ⟨_, rfl⟩
  obtain ⟨h3, eg3⟩ : ∃ g, g = w.heap.size + 1 + 1 := ⟨_, rfl⟩
  rw [← eg3, ← eg2, ← eg1] at HS0
  have EG1 := Lib.hid eg1
  have EG2 := Lib.hid eg2
  have EG3 := Lib.hid eg3
  clear eg1 eg2 eg3
  go_enter Try.func152, Try.ntmps152
  go_upto_region 1 with (fail)
  rw [← EG3.out, ← EG2.out, ← EG1.out]
  unfold zeroNum at HS0
  generalize ((w.alloc (.cells #[.int .i64 1, .bool s1, .slice A1 n1 c1, .int .i64 e1, .bool b1] 166)).alloc (.cells #[.int .i64 0, .bool s2, .slice A2 n2 c2, .int .i64 e2, .bool b2] 166)).alloc (.cells #[.int .i64 0, .bool false, .slice none 0 0, .int .i64 0, .bool false] 166) = w0 at HS0 ⊢
  have HS := Lib.hid HS0
  obtain ⟨x0, x1, x2, x3, x4⟩ := HS.out.x
  obtain ⟨y0, y1, y2, y3, y4⟩ := HS.out.y
  clear HS0
  obtain ⟨⟨z0, z1, z2, z3, z4⟩, f0, f1, f2, f3, f4⟩ := HS.out.z.cells
  go_wp2
  all_goals exact bodyPost_ret (v := numV 0 false none 0 0 0 false) (by simp [results, Try.results152, go_sem, numV, z0, z1, z2, z3, z4]) rfl ⟨rfl, below_put5 HS.out.be HS.out.lo _ _ _ _ _⟩

set_option maxHeartbeats 3200000 in
set_option maxRecDepth 100000 in
theorem plus_nan3 (s1 : Bool) (A1 : Option Addr) (n1 c1 : Nat) (e1 : Int) (b1 : Bool) (s2 : Bool) (A2 : Option Addr) (n2 c2 : Nat) (e2 : Int) (b2 : Bool) (w : World)
    (_ : True) :
    Calls Try.prog 152 #[numV 2 s1 A1 n1 c1 e1 b1, numV 0 s2 A2 n2 c2 e2 b2] w fun e w' => Gives w (numV 0 false none 0 0 0 false) e w' := by
  unfold numV
  have HS0 := TwoS.start w 2 s1 A1 n1 c1 e1 b1 0 s2 A2 n2 c2 e2 b2
  obtain ⟨g1, eg1⟩ : ∃ g, g = w.heap.size := ⟨_, rfl⟩
  obtain ⟨g2, eg2⟩ : ∃ g, g = w.heap.size + 1 := ⟨_, rfl⟩
  obtain ⟨h3, eg3⟩ : ∃ g, g = w.heap.size + 1 + 1 := ⟨_, rfl⟩
  rw [← eg3, ← eg2, ← eg1] at HS0
  have EG1 := Lib.hid eg1
  have EG2 := Lib.hid eg2
  have EG3 := Lib.hid eg3
  clear eg1 eg2 eg3
  go_enter Try.func152, Try.ntmps152
  go_upto_region 1 with (fail)
  rw [← EG3.out, ← EG2.out, ← EG1.out]
  unfold zeroNum at HS0
  generalize ((w.alloc (.cells #[.int .i64 2, .bool s1, .slice A1 n1 c1, .int .i64 e1, .bool b1] 166)).alloc (.cells #[.int .i64 0, .bool s2, .slice A2 n2 c2, .int .i64 e2, .bool b2] 166)).alloc (.cells #[.int .i64 0, .bool false, .slice none 0 0, .int .i64 0, .bool false] 166) = w0 at HS0 ⊢
  have HS := Lib.hid HS0
  obtain ⟨x0, x1, x2, x3, x4⟩ := HS.out.x
  obtain ⟨y0, y1, y2, y3, y4⟩ := HS.out.y
  clear HS0
  obtain ⟨⟨z0, z1, z2, z3, z4⟩, f0, f1, f2, f3, f4⟩ := HS.out.z.cells
  go_wp2
  all_goals exact bodyPost_ret (v := numV 0 false none 0 0 0 false) (by simp [results, Try.results152, go_sem, numV, z0, z1, z2, z3, z4]) rfl ⟨rfl, below_put5 HS.out.be HS.out.lo _ _ _ _ _⟩

set_option maxHeartbeats 3200000 in
set_option maxRecDepth 100000 in
theorem plus_infs (s1 : Bool) (A1 : Option Addr) (n1 c1 : Nat) (e1 : Int) (b1 : Bool) (s2 : Bool) (A2 : Option Addr) (n2 c2 : Nat) (e2 : Int) (b2 : Bool) (w : World)
    (h : (s1 != s2) = true) :
    Calls Try.prog 152 #[numV 1 s1 A1 n1 c1 e1 b1, numV 1 s2 A2 n2 c2 e2 b2] w fun e w' => Gives w (numV 0 false none 0 0 0 false) e w' := by
  rcases s1 with _ | _ <;> rcases s2 with _ | _
  · exact absurd h (by decide)
  · clear h
    unfold numV
    have HS0 := TwoS.start w 1 false A1 n1 c1 e1 b1 1 true A2 n2 c2 e2 b2
    obtain ⟨g1, eg1⟩ : ∃ g, g = w.heap.size := ⟨_, rfl⟩
    obtain ⟨g2, eg2⟩ : ∃ g, g = w.heap.size + 1 := ⟨_, rfl⟩
    obtain ⟨h3, eg3⟩ : ∃ g, g = w.heap.size + 1 + 1 := ⟨_, rfl⟩
    rw [← eg3, ← eg2, ← eg1] at HS0
    have EG1 := Lib.hid eg1
    have EG2 := Lib.hid eg2
    have EG3 := Lib.hid eg3
    clear eg1 eg2 eg3
    go_enter Try.func152, Try.ntmps152
    go_upto_region 1 with (fail)
    rw [← EG3.out, ← EG2.out, ← EG1.out]
    unfold zeroNum at HS0
    generalize ((w.alloc (.cells #[.int .i64 1, .bool false, .slice A1 n1 c1, .int .i64 e1, .bool b1] 166)).alloc (.cells #[.int .i64 1, .bool true, .slice A2 n2 c2, .int .i64 e2, .bool b2] 166)).alloc (.cells #[.int .i64 0, .bool false, .slice none 0 0, .int .i64 0, .bool false] 166) = w0 at HS0 ⊢
    have HS := Lib.hid HS0
    obtain ⟨x0, x1, x2, x3, x4⟩ := HS.out.x
    obtain ⟨y0, y1, y2, y3, y4⟩ := HS.out.y
    clear HS0
    obtain ⟨⟨z0, z1, z2, z3, z4⟩, f0, f1, f2, f3, f4⟩ := HS.out.z.cells
    go_wp2
    all_goals exact bodyPost_ret (v := numV 0 false none 0 0 0 false) (by simp [results, Try.results152, go_sem, numV, z0, z1, z2, z3, z4]) rfl ⟨rfl, below_put5 HS.out.be HS.out.lo _ _ _ _ _⟩
  · clear h
    unfold numV
    have HS0 := TwoS.start w 1 true A1 n1 c1 e1 b1 1 false A2 n2 c2 e2 b2
    obtain ⟨g1, eg1⟩ : ∃ g, g = w.heap.size := ⟨_, rfl⟩
    obtain ⟨g2, eg2⟩ : ∃ g, g = w.heap.size + 1 := ⟨_, rfl⟩
    obtain ⟨h3, eg3⟩ : ∃ g, g = w.heap.size + 1 + 1 := ⟨_, rfl⟩
    rw [← eg3, ← eg2, ← eg1] at HS0
    have EG1 := Lib.hid eg1
    have EG2 := Lib.hid eg2
    have EG3 := Lib.hid eg3
    clear eg1 eg2 eg3
    go_enter Try.func152, Try.ntmps152
    go_upto_region 1 with (fail)
    rw [← EG3.out, ← EG2.out, ← EG1.out]
    unfold zeroNum at HS0
    generalize ((w.alloc (.cells #[.int .i64 1, .bool true, .slice A1 n1 c1, .int .i64 e1, .bool b1] 166)).alloc (.cells #[.int .i64 1, .bool false, .slice A2 n2 c2, .int .i64 e2, .bool b2] 166)).alloc (.cells #[.int .i64 0, .bool false, .slice none 0 0, .int .i64 0, .bool false] 166) = w0 at HS0 ⊢
    have HS := Lib.hid HS0
    obtain ⟨x0, x1, x2, x3, x4⟩ := HS.out.x
    obtain ⟨y0, y1, y2, y3, y4⟩ := HS.out.y
    clear HS0
    obtain ⟨⟨z0, z1, z2, z3, z4⟩, f0, f1, f2, f3, f4⟩ := HS.out.z.cells
    go_wp2
    all_goals exact bodyPost_ret (v := numV 0 false none 0 0 0 false) (by simp [results, Try.results152, go_sem, numV, z0, z1, z2, z3, z4]) rfl ⟨rfl, below_put5 HS.out.be HS.out.lo _ _ _ _ _⟩
  · exact absurd h (by decide)

set_option maxHeartbeats 3200000 in
set_option maxRecDepth 100000 in
theorem plus_inf1 (s1 : Bool) (A1 : Option Addr) (n1 c1 : Nat) (e1 : Int) (b1 : Bool) (s2 : Bool) (A2 : Option Addr) (n2 c2 : Nat) (e2 : Int) (b2 : Bool) (w : World)
    (h : (s1 != s2) = false) :
    Calls Try.prog 152 #[numV 1 s1 A1 n1 c1 e1 b1, numV 1 s2 A2 n2 c2 e2 b2] w fun e w' => Gives w (numV 1 s1 A1 n1 c1 e1 b1) e w' := by
  rcases s1 with _ | _ <;> rcases s2 with _ | _
  · clear h
    unfold numV
    have HS0 := TwoS.start w 1 false A1 n1 c1 e1 b1 1 false A2 n2 c2 e2 b2
    obtain ⟨g1, eg1⟩ : ∃ g, g = w.heap.size := ⟨_, rfl⟩
    obtain ⟨g2, eg2⟩ : ∃ g, g = w.heap.size + 1 := ⟨_, rfl⟩
    obtain ⟨h3, eg3⟩ : ∃ g, g = w.heap.size + 1 + 1 := ⟨_, rfl⟩
    rw [← eg3, ← eg2, ← eg1] at HS0
    have EG1 := Lib.hid eg1
    have EG2 := Lib.hid eg2
    have EG3 := Lib.hid eg3
    clear eg1 eg2 eg3
    go_enter Try.func152, Try.ntmps152
    go_upto_region 1 with (fail)
    rw [← EG3.out, ← EG2.out, ← EG1.out]
    unfold zeroNum at HS0
    generalize ((w.alloc (.cells #[.int .i64 1, .bool false, .slice A1 n1 c1, .int .i64 e1, .bool b1] 166)).alloc (.cells #[.int .i64 1, .bool false, .slice A2 n2 c2, .int .i64 e2, .bool b2] 166)).alloc (.cells #[.int .i64 0, .bool false, .slice none 0 0, .int .i64 0, .bool false] 166) = w0 at HS0 ⊢
    have HS := Lib.hid HS0
    obtain ⟨x0, x1, x2, x3, x4⟩ := HS.out.x
    obtain ⟨y0, y1, y2, y3, y4⟩ := HS.out.y
    clear HS0
    obtain ⟨⟨z0, z1, z2, z3, z4⟩, f0, f1, f2, f3, f4⟩ := HS.out.z.cells
    go_wp2
    all_goals exact bodyPost_ret (v := numV 1 false A1 n1 c1 e1 b1) (by simp [results, Try.results152, go_sem, numV, z0, z1, z2, z3, z4]) rfl ⟨rfl, below_put5 HS.out.be HS.out.lo _ _ _ _ _⟩
  · exact absurd h (by decide)
  · exact absurd h (by decide)
  · clear h
    unfold numV
    have HS0 := TwoS.start w 1 true A1 n1 c1 e1 b1 1 true A2 n2 c2 e2 b2
    obtain ⟨g1, eg1⟩ : ∃ g, g = w.heap.size := ⟨_, rfl⟩
    obtain ⟨g2, eg2⟩ : ∃ g, g = w.heap.size + 1 := ⟨_, rfl⟩
    obtain ⟨h3, eg3⟩ : ∃ g, g = w.heap.size + 1 + 1 := ⟨_, rfl⟩
    rw [← eg3, ← eg2, ← eg1] at HS0
    have EG1 := Lib.hid eg1
    have EG2 := Lib.hid eg2
    have EG3 := Lib.hid eg3
    clear eg1 eg2 eg3
    go_enter Try.func152, Try.ntmps152
    go_upto_region 1 with (fail)
    rw [← EG3.out, ← EG2.out, ← EG1.out]
    unfold zeroNum at HS0
    generalize ((w.alloc (.cells #[.int .i64 1, .bool true, .slice A1 n1 c1, .int .i64 e1, .bool b1] 166)).alloc (.cells #[.int .i64 1, .bool true, .slice A2 n2 c2, .int .i64 e2, .bool b2] 166)).alloc (.cells #[.int .i64 0, .bool false, .slice none 0 0, .int .i64 0, .bool false] 166) = w0 at HS0 ⊢
    have HS := Lib.hid HS0
    obtain ⟨x0, x1, x2, x3, x4⟩ := HS.out.x
    obtain ⟨y0, y1, y2, y3, y4⟩ := HS.out.y
    clear HS0
    obtain ⟨⟨z0, z1, z2, z3, z4⟩, f0, f1, f2, f3, f4⟩ := HS.out.z.cells
    go_wp2
    all_goals exact bodyPost_ret (v := numV 1 true A1 n1 c1 e1 b1) (by simp [results, Try.results152, go_sem, numV, z0, z1, z2, z3, z4]) rfl ⟨rfl, below_put5 HS.out.be HS.out.lo _ _ _ _ _⟩

set_option maxHeartbeats 3200000 in
set_option maxRecDepth 100000 in
theorem plus_inf2 (s1 : Bool) (A1 : Option Addr) (n1 c1 : Nat) (e1 : Int) (b1 : Bool) (s2 : Bool) (A2 : Option Addr) (n2 c2 : Nat) (e2 : Int) (b2 : Bool) (w : World)
    (_ : True) :
    Calls Try.prog 152 #[numV 1 s1 A1 n1 c1 e1 b1, numV 2 s2 A2 n2 c2 e2 b2] w fun e w' => Gives w (numV 1 s1 A1 n1 c1 e1 b1) e w' := by
  unfold numV
  have HS0 := TwoS.start w 1 s1 A1 n1 c1 e1 b1 2 s2 A2 n2 c2 e2 b2
  obtain ⟨g1, eg1⟩ : ∃ g, g = w.heap.size := ⟨_, rfl⟩
  obtain ⟨g2, eg2⟩ : ∃ g, g = w.heap.size + 1 := ⟨_, rfl⟩
  obtain ⟨h3, eg3⟩ : ∃ g, g = w.heap.size + 1 + 1 := ⟨_, rfl⟩
  rw [← eg3, ← eg2, ← eg1] at HS0
  have EG1 := Lib.hid eg1
  have EG2 := Lib.hid eg2
  have EG3 := Lib.hid eg3
  clear eg1 eg2 eg3
  go_enter Try.func152, Try.ntmps152
  go_upto_region 1 with (fail)
  rw [← EG3.out, ← EG2.out, ← EG1.out]
  unfold zeroNum at HS0
  generalize ((w.alloc (.cells #[.int .i64 1, .bool s1, .slice A1 n1 c1, .int .i64 e1, .bool b1] 166)).alloc (.cells #[.int .i64 2, .bool s2, .slice A2 n2 c2, .int .i64 e2, .bool b2] 166)).alloc (.cells #[.int .i64 0, .bool false, .slice none 0 0, .int .i64 0, .bool false] 166) = w0 at HS0 ⊢
  have HS := Lib.hid HS0
  obtain ⟨x0, x1, x2, x3, x4⟩ := HS.out.x
  obtain ⟨y0, y1, y2, y3, y4⟩ := HS.out.y
  clear HS0
  obtain ⟨⟨z0, z1, z2, z3, z4⟩, f0, f1, f2, f3, f4⟩ := HS.out.z.cells
  go_wp2
  all_goals exact bodyPost_ret (v := numV 1 s1 A1 n1 c1 e1 b1) (by simp [results, Try.results152, go_sem, numV, z0, z1, z2, z3, z4]) rfl ⟨rfl, below_put5 HS.out.be HS.out.lo _ _ _ _ _⟩

set_option maxHeartbeats 3200000 in
set_option maxRecDepth 100000 in
theorem plus_inf3 (s1 : Bool) (A1 : Option Addr) (n1 c1 : Nat) (e1 : Int) (b1 : Bool) (s2 : Bool) (A2 : Option Addr) (n2 c2 : Nat) (e2 : Int) (b2 : Bool) (w : World)
    (_ : True) :
    Calls Try.prog 152 #[numV 2 s1 A1 n1 c1 e1 b1, numV 1 s2 A2 n2 c2 e2 b2] w fun e w' => Gives w (numV 1 s2 A2 n2 c2 e2 b2) e w' := by
  unfold numV
  have HS0 := TwoS.start w 2 s1 A1 n1 c1 e1 b1 1 s2 A2 n2 c2 e2 b2
  obtain ⟨g1, eg1⟩ : ∃ g, g = w.heap.size := ⟨_, rfl⟩
  obtain ⟨g2, eg2⟩ : ∃ g, g = w.heap.size + 1 := ⟨_, rfl⟩
  obtain ⟨h3, eg3⟩ : ∃ g, g = w.heap.size + 1 + 1 := ⟨_, rfl⟩
  rw [← eg3, ← eg2, ← eg1] at HS0
  have EG1 := Lib.hid eg1
  have EG2 := Lib.hid eg2
  have EG3 := Lib.hid eg3
  clear eg1 eg2 eg3
  go_enter Try.func152, Try.ntmps152
  go_upto_region 1 with (fail)
  rw [← EG3.out, ← EG2.out, ← EG1.out]
  unfold zeroNum at HS0
  generalize ((w.alloc (.cells #[.int .i64 2, .bool s1, .slice A1 n1 c1, .int .i64 e1, .bool b1] 166)).alloc (.cells #[.int .i64 1, .bool s2, .slice A2 n2 c2, .int .i64 e2, .bool b2] 166)).alloc (.cells #[.int .i64 0, .bool false, .slice none 0 0, .int .i64 0, .bool false] 166) = w0 at HS0 ⊢
  have HS := Lib.hid HS0
  obtain ⟨x0, x1, x2, x3, x4⟩ := HS.out.x
  obtain ⟨y0, y1, y2, y3, y4⟩ := HS.out.y
  clear HS0
  obtain ⟨⟨z0, z1, z2, z3, z4⟩, f0, f1, f2, f3, f4⟩ := HS.out.z.cells
  go_wp2
  all_goals exact bodyPost_ret (v := numV 1 s2 A2 n2 c2 e2 b2) (by simp [results, Try.results152, go_sem, numV, z0, z1, z2, z3, z4]) rfl ⟨rfl, below_put5 HS.out.be HS.out.lo _ _ _ _ _⟩


theorem signed_eq (s : Bool) (m k : Nat) : Ieee.signed s m k = if s then -((m * 2 ^ k : Nat) : Int) else ((m * 2 ^ k : Nat) : Int) := by
  unfold Ieee.signed; rw [Nat.shiftLeft_eq]
theorem plusD_same (s : Bool) (m1 m2 : Nat) (p1 p2 : Int) : plusD (.number s m1 p1) (.number s m2 p2) = .number s (m1 * 2 ^ (p1 - min p1 p2).toNat + m2 * 2 ^ (p2 - min p1 p2).toNat) (min p1 p2) := by
  unfold plusD Ieee.Datum.sum
  simp only [Option.getD_some]
  rw [signed_eq, signed_eq]
  generalize m1 * 2 ^ (p1 - min p1 p2).toNat = X
  generalize m2 * 2 ^ (p2 - min p1 p2).toNat = Y
  cases s
  · simp only [Bool.false_eq_true, if_false]
    congr 1
    · by_cases h : (X : Int) + (Y : Int) = 0
      · rw [if_pos h]; rfl
      · rw [if_neg h]; exact decide_eq_false (by omega)
  · simp only [if_true]
    congr 1
    · by_cases h : -(X : Int) + -(Y : Int) = 0
      · rw [if_pos h]; rfl
      · rw [if_neg h]; exact decide_eq_true (by omega)
    · omega
theorem plusD_diff (s : Bool) (m1 m2 : Nat) (p1 p2 : Int) (X Y : Nat) (hX : X = m1 * 2 ^ (p1 - min p1 p2).toNat) (hY : Y = m2 * 2 ^ (p2 - min p1 p2).toNat) :
    plusD (.number s m1 p1) (.number (!s) m2 p2) = if X < Y then .number (!s) (Y - X) (min p1 p2) else if X = Y then .number false 0 (min p1 p2) else .number s (X - Y) (min p1 p2) := by
  unfold plusD Ieee.Datum.sum
  simp only [Option.getD_some]
  rw [signed_eq, signed_eq, ← hX, ← hY]
  cases s
  · simp only [Bool.false_eq_true, if_false, Bool.not_false, if_true]
    by_cases h1 : X < Y
    · rw [if_pos h1, if_neg (by omega)]
      congr 1
      · exact decide_eq_true (by omega)
      · omega
    · rw [if_neg h1]
      by_cases h2 : X = Y
      · rw [if_pos h2, if_pos (by omega)]
        congr 1; omega
      · rw [if_neg h2, if_neg (by omega)]
        congr 1
        · exact decide_eq_false (by omega)
        · omega
  · simp only [Bool.not_true, Bool.false_eq_true, if_false, if_true]
    by_cases h1 : X < Y
    · rw [if_pos h1, if_neg (by omega)]
      congr 1
      · exact decide_eq_false (by omega)
      · omega
    · rw [if_neg h1]
      by_cases h2 : X = Y
      · rw [if_pos h2, if_pos (by omega)]
        congr 1; omega
      · rw [if_neg h2, if_neg (by omega)]
        congr 1
        · exact decide_eq_true (by omega)
        · omega

theorem keep11 {w0 W W' : World} {p0 p1 p2 p3 p4 q0 q1 q2 q3 q4 : Addr} {u0 u1 u2 u3 u4 v0 v1 v2 v3 v4 : Value} (hb : Below W.heap.size W W')
    (h : W.cell? p0 = some u0 ∧ W.cell? p1 = some u1 ∧ W.cell? p2 = some u2 ∧ W.cell? p3 = some u3 ∧ W.cell? p4 = some u4 ∧ W.cell? q0 = some v0 ∧ W.cell? q1 = some v1 ∧ W.cell? q2 = some v2 ∧ W.cell? q3 = some v3 ∧ W.cell? q4 = some v4 ∧ Below w0.heap.size w0 W) :
    W'.cell? p0 = some u0 ∧ W'.cell? p1 = some u1 ∧ W'.cell? p2 = some u2 ∧ W'.cell? p3 = some u3 ∧ W'.cell? p4 = some u4 ∧ W'.cell? q0 = some v0 ∧ W'.cell? q1 = some v1 ∧ W'.cell? q2 = some v2 ∧ W'.cell? q3 = some v3 ∧ W'.cell? q4 = some v4 ∧ Below w0.heap.size w0 W' := by
  have kp : ∀ {p : Addr} {v : Value}, W.cell? p = some v → W'.cell? p = some v := fun h => (hb.cell (World.block_lt_of_cell? _ _ h)).trans h
  obtain ⟨a, b, c, d, e, f, g, i, j, k, l⟩ := h
  exact ⟨kp a, kp b, kp c, kp d, kp e, kp f, kp g, kp i, kp j, kp k, ujoin l hb⟩

set_option maxHeartbeats 6400000 in
set_option maxRecDepth 100000 in
theorem plus_num (s1 s2 : Bool) (m1 m2 : Nat) (p1 p2 : Int) (A1 A2 : Option Addr) (c1 c2 : Nat) (w : World) (hn1 : NatAt w (.slice A1 (len32 m1) c1) m1) (hn2 : NatAt w (.slice A2 (len32 m2) c2) m2)
    (hl1 : len32 m1 ≤ 10000) (hl2 : len32 m2 ≤ 10000) (hp1 : -100000 ≤ p1) (hp1' : p1 ≤ 100000) (hp2 : -100000 ≤ p2) (hp2' : p2 ≤ 100000) :
    Calls Try.prog 152 #[numV 2 s1 A1 (len32 m1) c1 p1 false, numV 2 s2 A2 (len32 m2) c2 p2 false] w fun e w' => NumEnd w (plusD (.number s1 m1 p1) (.number s2 m2 p2)) e w' := by
  have HN1 := Lib.hid hn1
  have HN2 := Lib.hid hn2
  obtain ⟨b, eb⟩ : ∃ b, b = min p1 p2 := ⟨_, rfl⟩
  obtain ⟨k1, ek1⟩ : ∃ k, k = (p1 - b).toNat := ⟨_, rfl⟩
  obtain ⟨k2, ek2⟩ : ∃ k, k = (p2 - b).toNat := ⟨_, rfl⟩
  obtain ⟨X, eX⟩ : ∃ X, X = m1 * 2 ^ k1 := ⟨_, rfl⟩
  obtain ⟨Y, eY⟩ : ∃ Y, Y = m2 * 2 ^ k2 := ⟨_, rfl⟩
  have hk1 : k1 ≤ 200000 := by omega
  have hk2 : k2 ≤ 200000 := by omega
  have hlX : len32 X ≤ 20000 := by rw [eX]; have := len_up (a := m1) (n := k1); omega
  have hlY : len32 Y ≤ 20000 := by rw [eY]; have := len_up (a := m2) (n := k2); omega
  have HSAME : Hid (∀ s, plusD (.number s m1 p1) (.number s m2 p2) = .number s (X + Y) b) := fun s => by rw [plusD_same, eX, eY, ek1, ek2, eb]
  have HDIFF : Hid (∀ s, plusD (.number s m1 p1) (.number (!s) m2 p2) = if X < Y then .number (!s) (Y - X) b else if X = Y then .number false 0 b else .number s (X - Y) b) := fun s => by
    rw [plusD_diff s m1 m2 p1 p2 X Y (by rw [eX, ek1, eb]) (by rw [eY, ek2, eb]), eb]
  have D1 : IntKind.i64.wrap (p1 - b) = (k1 : Int) := by rw [IntWalk.i64_in _ (by omega)]; omega
  have D2 : IntKind.i64.wrap (p2 - b) = (k2 : Int) := by rw [IntWalk.i64_in _ (by omega)]; omega
  have HZ : Hid ((if p2 < p1 then p2 else p1) = b) := (show _ = _ by rw [eb]; split <;> omega)
  have HU1 : Hid (∀ W, Below w.heap.size w W → Calls Try.prog 140 #[.slice A1 (len32 m1) c1, .int .i64 (k1 : Int)] W fun e w' => NatEnd W X e w') := fun W hb => by rw [eX]; exact up_calls W _ m1 k1 (hn1.below hb) (by omega) (by omega)
  have HU2 : Hid (∀ W, Below w.heap.size w W → Calls Try.prog 140 #[.slice A2 (len32 m2) c2, .int .i64 (k2 : Int)] W fun e w' => NatEnd W Y e w') := fun W hb => by rw [eY]; exact up_calls W _ m2 k2 (hn2.below hb) (by omega) (by omega)
  obtain ⟨n1, en1⟩ : ∃ n, n = len32 m1 := ⟨_, rfl⟩
  obtain ⟨n2, en2⟩ : ∃ n, n = len32 m2 := ⟨_, rfl⟩
  rw [← en1] at HU1 ⊢
  rw [← en2] at HU2 ⊢
  clear hn1 hn2 eb ek1 ek2 eX eY en1 en2 hl1 hl2
  unfold numV
  have HS0 := TwoS.start w 2 s1 A1 n1 c1 p1 false 2 s2 A2 n2 c2 p2 false
  obtain ⟨g1, eg1⟩ : ∃ g, g = w.heap.size := ⟨_, rfl⟩
  obtain ⟨g2, eg2⟩ : ∃ g, g = w.heap.size + 1 := ⟨_, rfl⟩
  obtain ⟨h3, eg3⟩ : ∃ g, g = w.heap.size + 1 + 1 := ⟨_, rfl⟩
  rw [← eg3, ← eg2, ← eg1] at HS0
  have EG1 := Lib.hid eg1
  have EG2 := Lib.hid eg2
  have EG3 := Lib.hid eg3
  clear eg1 eg2 eg3
  go_enter Try.func152, Try.ntmps152
  go_upto_region 1 with (fail)
  rw [← EG3.out, ← EG2.out, ← EG1.out]
  unfold zeroNum at HS0
  generalize ((w.alloc (.cells #[.int .i64 2, .bool s1, .slice A1 n1 c1, .int .i64 p1, .bool false] 166)).alloc (.cells #[.int .i64 2, .bool s2, .slice A2 n2 c2, .int .i64 p2, .bool false] 166)).alloc (.cells #[.int .i64 0, .bool false, .slice none 0 0, .int .i64 0, .bool false] 166) = w0 at HS0 ⊢
  have HS := Lib.hid HS0
  obtain ⟨x0, x1, x2, x3, x4⟩ := HS.out.x
  obtain ⟨y0, y1, y2, y3, y4⟩ := HS.out.y
  clear HS0
  go_upto_region 8 with (fail)
  rw [HZ.out]
  have C1 := Lib.hid (HU1.out w0.drew HS.out.be.drew)
  clear HZ HU1
  go_region_held3 (fun w' => w'.cell? ⟨g1, 0, none⟩ = some (.int .i64 2) ∧ w'.cell? ⟨g1, 1, none⟩ = some (.bool s1) ∧ w'.cell? ⟨g1, 2, none⟩ = some (.slice A1 n1 c1) ∧ w'.cell? ⟨g1, 3, none⟩ = some (.int .i64 p1) ∧ w'.cell? ⟨g1, 4, none⟩ = some (.bool false) ∧
      w'.cell? ⟨g2, 0, none⟩ = some (.int .i64 2) ∧ w'.cell? ⟨g2, 1, none⟩ = some (.bool s2) ∧ w'.cell? ⟨g2, 2, none⟩ = some (.slice A2 n2 c2) ∧ w'.cell? ⟨g2, 3, none⟩ = some (.int .i64 p2) ∧ w'.cell? ⟨g2, 4, none⟩ = some (.bool false) ∧ Below w0.heap.size w0 w')
    (first | exact ⟨x0, x1, x2, x3, x4, y0, y1, y2, y3, y4, (Below.refl _ _).drew⟩ | exact keep11 hbel ‹_›) (first
    | (go_at_call 140; (with_reducible refine (C1.out).mono ?_); rintro e1 w4 ⟨v, rfl, ⟨B1, d1, rfl, hd1, hr1⟩, hbel⟩; have HX := Lib.hid (show NatAt w4 (.slice B1 (len32 X) d1) X from ⟨B1, d1, rfl, hd1, hr1⟩); have HS4 := Lib.hid (HS.out.drew.below hbel); have C2 := Lib.hid (HU2.out w4 HS4.out.be))
    | (go_at_call 140; (with_reducible refine (C2.out).mono ?_); rintro e1 w5 ⟨v, rfl, ⟨B2, d2, rfl, hd2, hr2⟩, hbel⟩; have HY := Lib.hid (show NatAt w5 (.slice B2 (len32 Y) d2) Y from ⟨B2, d2, rfl, hd2, hr2⟩); have HX5 := Lib.hid (HX.out.below hbel); have HS5 := Lib.hid (HS4.out.below hbel)))
  rename_i hH
  clear hH hbel hd1 hd2 hr1 hr2 x0 x1 x2 x3 x4 y0 y1 y2 y3 y4 C1 C2 D1 D2 HU2 HS HS4 HX
  obtain ⟨x0, x1, x2, x3, x4⟩ := HS5.out.x
  obtain ⟨y0, y1, y2, y3, y4⟩ := HS5.out.y
  obtain ⟨⟨z0, z1, z2, z3, z4⟩, f0, f1, f2, f3, f4⟩ := HS5.out.z.cells
  go_upto_region 9 with (fail)
  by_cases hs : s1 = s2
  · subst hs
    have RES := Lib.hid (HSAME.out s1)
    have HPL := Lib.hid (plus_calls w5.drew _ _ X Y HX5.out HY.out (by omega) (by omega))
    clear z0 z1 z2 z3 z4 f0 f1 f2 f3 f4
    cases s1
    · go_upto_region 10 with (fail)
      go_region_with ((go_at_call 141; refine HPL.out.mono ?_; rintro e1 w6 ⟨v, rfl, ⟨B3, d3, rfl, hd3, hr3⟩, hbel⟩; have HS6 := Lib.hid (HS5.out.drew.below hbel); have HR3 := Lib.hid hr3; have HD3 := Lib.hid hd3; obtain ⟨u0, u1, u2, u3, u4⟩ := HS6.out.x; obtain ⟨⟨z0, z1, z2, z3, z4⟩, f0, f1, f2, f3, f4⟩ := HS6.out.z.cells; clear hbel hr3 hd3))
      all_goals
        go_wp2
        refine bodyPost_ret (v := numV 2 false B3 (len32 (X + Y)) d3 b false) (by simp [results, Try.results152, go_sem, numV, z0, z1, z2, z3, z4]) rfl ?_
        have F := below_num HS6.out.be HS6.out.z HS6.out.lo HR3.out HD3.out false b
        exact ⟨_, rfl, by rw [RES.out]; exact F.1, F.2⟩
    · go_upto_region 10 with (fail)
      go_region_with ((go_at_call 141; refine HPL.out.mono ?_; rintro e1 w6 ⟨v, rfl, ⟨B3, d3, rfl, hd3, hr3⟩, hbel⟩; have HS6 := Lib.hid (HS5.out.drew.below hbel); have HR3 := Lib.hid hr3; have HD3 := Lib.hid hd3; obtain ⟨u0, u1, u2, u3, u4⟩ := HS6.out.x; obtain ⟨⟨z0, z1, z2, z3, z4⟩, f0, f1, f2, f3, f4⟩ := HS6.out.z.cells; clear hbel hr3 hd3))
      all_goals
        go_wp2
        refine bodyPost_ret (v := numV 2 true B3 (len32 (X + Y)) d3 b false) (by simp [results, Try.results152, go_sem, numV, z0, z1, z2, z3, z4]) rfl ?_
        have F := below_num HS6.out.be HS6.out.z HS6.out.lo HR3.out HD3.out true b
        exact ⟨_, rfl, by rw [RES.out]; exact F.1, F.2⟩
  · obtain rfl : s2 = !s1 := by cases s1 <;> cases s2 <;> simp_all
    clear hs
    have RES := Lib.hid (HDIFF.out s1)
    have HCM := Lib.hid (ncompare_calls w5 _ _ X Y HX5.out HY.out (by omega) (by omega))
    rcases Nat.lt_trichotomy X Y with hxy | hxy | hxy
    · -- the second one is the greater one
      have R := Lib.hid (RES.out.trans (if_pos hxy))
      have CM := cmpN_lt hxy
      have HMI : Hid (∀ W, NatAt W (.slice B1 (len32 X) d1) X → NatAt W (.slice B2 (len32 Y) d2) Y → Calls Try.prog 160 #[.slice B2 (len32 Y) d2, .slice B1 (len32 X) d1] W fun e w' => NatEnd W (Y - X) e w') := fun W h1 h2 => minus_calls W _ _ Y X h2 h1 (Nat.le_of_lt hxy) (by omega)
      rw [CM] at HCM
      clear hxy CM RES HSAME HDIFF z0 z1 z2 z3 z4 f0 f1 f2 f3 f4
      cases s1
      · go_upto_region 16 with (go_at_call 159; refine HCM.out.mono ?_; rintro e1 w6 ⟨rfl, hd⟩; have HS6 := Lib.hid (HS5.out.below hd.below); have HX6 := Lib.hid (HX5.out.below hd.below); have HY6 := Lib.hid (HY.out.below hd.below); have HM6 := Lib.hid (HMI.out w6.drew HX6.out HY6.out); obtain ⟨v0, v1, v2, v3, v4⟩ := HS6.out.x; obtain ⟨t0, t1, t2, t3, t4⟩ := HS6.out.y; clear hd)
        go_region_with ((go_at_call 160; refine HM6.out.mono ?_; rintro e1 w7 ⟨v, rfl, ⟨B3, d3, rfl, hd3, hr3⟩, hbel⟩; have HS7 := Lib.hid (HS6.out.drew.below hbel); have HR3 := Lib.hid hr3; have HD3 := Lib.hid hd3; obtain ⟨u0, u1, u2, u3, u4⟩ := HS7.out.x; obtain ⟨r0, r1, r2, r3, r4⟩ := HS7.out.y; obtain ⟨⟨z0, z1, z2, z3, z4⟩, f0, f1, f2, f3, f4⟩ := HS7.out.z.cells; clear hbel hr3 hd3))
        all_goals
          go_wp2
          refine bodyPost_ret (v := numV 2 true B3 (len32 (Y - X)) d3 b false) (by simp [results, Try.results152, go_sem, numV, z0, z1, z2, z3, z4]) rfl ?_
          have F := below_num HS7.out.be HS7.out.z HS7.out.lo HR3.out HD3.out true b
          exact ⟨_, rfl, by rw [R.out]; exact F.1, F.2⟩
      · go_upto_region 16 with (go_at_call 159; refine HCM.out.mono ?_; rintro e1 w6 ⟨rfl, hd⟩; have HS6 := Lib.hid (HS5.out.below hd.below); have HX6 := Lib.hid (HX5.out.below hd.below); have HY6 := Lib.hid (HY.out.below hd.below); have HM6 := Lib.hid (HMI.out w6.drew HX6.out HY6.out); obtain ⟨v0, v1, v2, v3, v4⟩ := HS6.out.x; obtain ⟨t0, t1, t2, t3, t4⟩ := HS6.out.y; clear hd)
        go_region_with ((go_at_call 160; refine HM6.out.mono ?_; rintro e1 w7 ⟨v, rfl, ⟨B3, d3, rfl, hd3, hr3⟩, hbel⟩; have HS7 := Lib.hid (HS6.out.drew.below hbel); have HR3 := Lib.hid hr3; have HD3 := Lib.hid hd3; obtain ⟨u0, u1, u2, u3, u4⟩ := HS7.out.x; obtain ⟨r0, r1, r2, r3, r4⟩ := HS7.out.y; obtain ⟨⟨z0, z1, z2, z3, z4⟩, f0, f1, f2, f3, f4⟩ := HS7.out.z.cells; clear hbel hr3 hd3))
        all_goals
          go_wp2
          refine bodyPost_ret (v := numV 2 false B3 (len32 (Y - X)) d3 b false) (by simp [results, Try.results152, go_sem, numV, z0, z1, z2, z3, z4]) rfl ?_
          have F := below_num HS7.out.be HS7.out.z HS7.out.lo HR3.out HD3.out false b
          exact ⟨_, rfl, by rw [R.out]; exact F.1, F.2⟩
    · have R := Lib.hid (RES.out.trans ((if_neg (by omega)).trans (if_pos hxy)))
      have CM := cmpN_eq hxy
      rw [CM] at HCM
      clear hxy CM RES HSAME HDIFF z0 z1 z2 z3 z4 f0 f1 f2 f3 f4
      cases s1
      all_goals
        go_wp2_with (go_at_call 159; refine HCM.out.mono ?_; rintro e1 w6 ⟨rfl, hd⟩; have HS6 := Lib.hid (HS5.out.below hd.below); obtain ⟨⟨z0, z1, z2, z3, z4⟩, f0, f1, f2, f3, f4⟩ := HS6.out.z.cells; clear hd)
        refine bodyPost_ret (v := numV 2 false none 0 0 b false) (by simp [results, Try.results152, go_sem, numV, z0, z1, z2, z3, z4]) rfl ?_
        have F := below_num (A := none) (c := 0) (m := 0) HS6.out.be HS6.out.z HS6.out.lo (RowU.nil _ _ _) (Nat.le_refl _) false b
        exact ⟨_, rfl, by rw [R.out]; exact F.1, F.2⟩
    · have R := Lib.hid (RES.out.trans ((if_neg (by omega)).trans (if_neg (by omega))))
      have CM := cmpN_gt hxy
      have HMI : Hid (∀ W, NatAt W (.slice B1 (len32 X) d1) X → NatAt W (.slice B2 (len32 Y) d2) Y → Calls Try.prog 160 #[.slice B1 (len32 X) d1, .slice B2 (len32 Y) d2] W fun e w' => NatEnd W (X - Y) e w') := fun W h1 h2 => minus_calls W _ _ X Y h1 h2 (Nat.le_of_lt hxy) (by omega)
      rw [CM] at HCM
      clear hxy CM RES HSAME HDIFF z0 z1 z2 z3 z4 f0 f1 f2 f3 f4
      cases s1
      · go_upto_region 15 with (go_at_call 159; refine HCM.out.mono ?_; rintro e1 w6 ⟨rfl, hd⟩; have HS6 := Lib.hid (HS5.out.below hd.below); have HX6 := Lib.hid (HX5.out.below hd.below); have HY6 := Lib.hid (HY.out.below hd.below); have HM6 := Lib.hid (HMI.out w6.drew HX6.out HY6.out); obtain ⟨v0, v1, v2, v3, v4⟩ := HS6.out.x; obtain ⟨t0, t1, t2, t3, t4⟩ := HS6.out.y; clear hd)
        go_region_with ((go_at_call 160; refine HM6.out.mono ?_; rintro e1 w7 ⟨v, rfl, ⟨B3, d3, rfl, hd3, hr3⟩, hbel⟩; have HS7 := Lib.hid (HS6.out.drew.below hbel); have HR3 := Lib.hid hr3; have HD3 := Lib.hid hd3; obtain ⟨u0, u1, u2, u3, u4⟩ := HS7.out.x; obtain ⟨r0, r1, r2, r3, r4⟩ := HS7.out.y; obtain ⟨⟨z0, z1, z2, z3, z4⟩, f0, f1, f2, f3, f4⟩ := HS7.out.z.cells; clear hbel hr3 hd3))
        all_goals
          go_wp2
          refine bodyPost_ret (v := numV 2 false B3 (len32 (X - Y)) d3 b false) (by simp [results, Try.results152, go_sem, numV, z0, z1, z2, z3, z4]) rfl ?_
          have F := below_num HS7.out.be HS7.out.z HS7.out.lo HR3.out HD3.out false b
          exact ⟨_, rfl, by rw [R.out]; exact F.1, F.2⟩
      · go_upto_region 15 with (go_at_call 159; refine HCM.out.mono ?_; rintro e1 w6 ⟨rfl, hd⟩; have HS6 := Lib.hid (HS5.out.below hd.below); have HX6 := Lib.hid (HX5.out.below hd.below); have HY6 := Lib.hid (HY.out.below hd.below); have HM6 := Lib.hid (HMI.out w6.drew HX6.out HY6.out); obtain ⟨v0, v1, v2, v3, v4⟩ := HS6.out.x; obtain ⟨t0, t1, t2, t3, t4⟩ := HS6.out.y; clear hd)
        go_region_with ((go_at_call 160; refine HM6.out.mono ?_; rintro e1 w7 ⟨v, rfl, ⟨B3, d3, rfl, hd3, hr3⟩, hbel⟩; have HS7 := Lib.hid (HS6.out.drew.below hbel); have HR3 := Lib.hid hr3; have HD3 := Lib.hid hd3; obtain ⟨u0, u1, u2, u3, u4⟩ := HS7.out.x; obtain ⟨r0, r1, r2, r3, r4⟩ := HS7.out.y; obtain ⟨⟨z0, z1, z2, z3, z4⟩, f0, f1, f2, f3, f4⟩ := HS7.out.z.cells; clear hbel hr3 hd3))
        all_goals
          go_wp2
          refine bodyPost_ret (v := numV 2 true B3 (len32 (X - Y)) d3 b false) (by simp [results, Try.results152, go_sem, numV, z0, z1, z2, z3, z4]) rfl ?_
          have F := below_num HS7.out.be HS7.out.z HS7.out.lo HR3.out HD3.out true b
          exact ⟨_, rfl, by rw [R.out]; exact F.1, F.2⟩

theorem keep6 {w0 W W' : World} {p0 p1 p2 p3 p4 : Addr} {u0 u1 u2 u3 u4 : Value} (hb : Below W.heap.size W W')
    (h : W.cell? p0 = some u0 ∧ W.cell? p1 = some u1 ∧ W.cell? p2 = some u2 ∧ W.cell? p3 = some u3 ∧ W.cell? p4 = some u4 ∧ Below w0.heap.size w0 W) :
    W'.cell? p0 = some u0 ∧ W'.cell? p1 = some u1 ∧ W'.cell? p2 = some u2 ∧ W'.cell? p3 = some u3 ∧ W'.cell? p4 = some u4 ∧ Below w0.heap.size w0 W' := by
  have kp : ∀ {p : Addr} {v : Value}, W.cell? p = some v → W'.cell? p = some v := fun h => (hb.cell (World.block_lt_of_cell? _ _ h)).trans h
  obtain ⟨a, b, c, d, e, l⟩ := h
  exact ⟨kp a, kp b, kp c, kp d, kp e, ujoin l hb⟩
theorem plusNum_calls (d1 d2 : Ieee.Datum) (u1 u2 : Value) (w : World) (h1 : NumAt w u1 d1) (h2 : NumAt w u2 d2) (s1 : Small d1) (s2 : Small d2) :
    Calls Try.prog 152 #[u1, u2] w fun e w' => NumEnd w (plusD d1 d2) e w' := by
  have nan : ∀ {e : Ending} {w' : World}, Gives w (numV 0 false none 0 0 0 false) e w' → ∀ d, plusD d1 d2 = d → d = .nan false 0 → NumEnd w (plusD d1 d2) e w' := fun h d hd he => ⟨_, h.1, by rw [hd, he]; exact ⟨_, _, _, _, _, _, rfl⟩, h.2⟩
  cases d1 with
  | nan s t =>
    obtain ⟨s', A, n, c, e, b, rfl⟩ := h1
    obtain ⟨k2, s2', A2, n2, c2, e2, b2, rfl⟩ := h2.form
    exact (plus_nan1 s' A n c e b k2 s2' A2 n2 c2 e2 b2 w trivial).mono fun e w' h => nan h _ rfl rfl
  | infinity s =>
    obtain ⟨A, n, c, e, b, rfl⟩ := h1
    cases d2 with
    | nan s2 t =>
      obtain ⟨s2', A2, n2, c2, e2, b2, rfl⟩ := h2
      exact (plus_nan2 s A n c e b s2' A2 n2 c2 e2 b2 w trivial).mono fun e w' h => nan h _ rfl rfl
    | infinity t =>
      obtain ⟨A2, n2, c2, e2, b2, rfl⟩ := h2
      by_cases hst : s = t
      · have e0 : plusD (.infinity s) (.infinity t) = .infinity s := by unfold plusD Ieee.Datum.sum; simp only [if_pos hst]; rfl
        exact (plus_inf1 s A n c e b t A2 n2 c2 e2 b2 w (by rw [hst]; exact bne_self_eq_false _)).mono fun e w' h => ⟨_, h.1, by rw [e0]; exact ⟨_, _, _, _, _, rfl⟩, h.2⟩
      · have e0 : plusD (.infinity s) (.infinity t) = .nan false 0 := by unfold plusD Ieee.Datum.sum; simp only [if_neg hst]; rfl
        exact (plus_infs s A n c e b t A2 n2 c2 e2 b2 w (bne_iff_ne.2 hst)).mono fun e w' h => nan h _ rfl e0
    | number t m p =>
      obtain ⟨A2, c2, rfl, _⟩ := h2
      exact (plus_inf2 s A n c e b t A2 (len32 m) c2 p false w trivial).mono fun e w' h => ⟨_, h.1, ⟨_, _, _, _, _, rfl⟩, h.2⟩
  | number s m p =>
    cases d2 with
    | nan s2 t =>
      obtain ⟨A, c, rfl, _⟩ := h1
      obtain ⟨s2', A2, n2, c2, e2, b2, rfl⟩ := h2
      exact (plus_nan3 s A (len32 m) c p false s2' A2 n2 c2 e2 b2 w trivial).mono fun e w' h => nan h _ rfl rfl
    | infinity t =>
      obtain ⟨A, c, rfl, _⟩ := h1
      obtain ⟨A2, n2, c2, e2, b2, rfl⟩ := h2
      exact (plus_inf3 s A (len32 m) c p false t A2 n2 c2 e2 b2 w trivial).mono fun e w' h => ⟨_, h.1, ⟨_, _, _, _, _, rfl⟩, h.2⟩
    | number t m2 p2 =>
      obtain ⟨A, c, rfl, hn1⟩ := h1
      obtain ⟨A2, c2, rfl, hn2⟩ := h2
      exact plus_num s t m m2 p p2 A A2 c c2 w hn1 hn2 s1.1 s2.1 s1.2.1 s1.2.2 s2.2.1 s2.2.2

/-! ### Words of 32 and of 64 bits -/
abbrev rd32 (a : Nat) : Ieee.Datum := (fmt 23 8).read a
abbrev rd64 (a : Nat) : Ieee.Datum := (fmt 52 11).read a
abbrev told32 (d : Ieee.Datum) : Nat := toldW 23 8 255 d
abbrev told64 (d : Ieee.Datum) : Nat := toldW 52 11 2047 d
theorem isF32 : IsForm 23 8 150 255 := .inl ⟨rfl, rfl, rfl, rfl⟩
theorem isF64 : IsForm 52 11 1075 2047 := .inr ⟨rfl, rfl, rfl, rfl⟩
theorem told32_lt (d : Ieee.Datum) : told32 d < 4294967296 := by
  cases d with
  | nan s t => show (255 * 2 ^ 23 + 2 ^ 22 : Nat) < _; decide
  | number s m p => exact Nat.lt_of_lt_of_eq ((fmt 23 8).write_lt (.number s m p)) (by decide +kernel)
  | infinity s => exact Nat.lt_of_lt_of_eq ((fmt 23 8).write_lt (.infinity s)) (by decide +kernel)
theorem told64_lt (d : Ieee.Datum) : told64 d < 18446744073709551616 := by
  cases d with
  | nan s t => show (2047 * 2 ^ 52 + 2 ^ 51 : Nat) < _; decide
  | number s m p => exact Nat.lt_of_lt_of_eq ((fmt 52 11).write_lt (.number s m p)) (by decide +kernel)
  | infinity s => exact Nat.lt_of_lt_of_eq ((fmt 52 11).write_lt (.infinity s)) (by decide +kernel)
theorem small_lt {n m : Nat} (h : n < 2 ^ (32 * m)) (hm : m ≤ 10000) : len32 n ≤ 10000 := Nat.le_trans ((lt_len32 n m).2 h) hm
theorem small_read (fr ex bias top : Nat) (hf : IsForm fr ex bias top) (b : Nat) : Small ((fmt fr ex).read b) := by
  rw [read_parts fr ex bias top hf]
  have hm := Nat.mod_lt b (Nat.two_pow_pos fr)
  have hx := Nat.mod_lt (b / 2 ^ fr) (Nat.two_pow_pos ex)
  have F : 2 ^ fr ≤ 4503599627370496 ∧ 2 ^ ex ≤ 2048 ∧ bias ≤ 1075 ∧ 150 ≤ bias := by rcases hf with ⟨rfl, rfl, rfl, rfl⟩ | ⟨rfl, rfl, rfl, rfl⟩ <;> decide
  obtain ⟨F1, F2, F3, F4⟩ := F
  split
  · split <;> trivial
  · split
    · exact ⟨small_lt (m := 2) (by omega) (by decide), by omega, by omega⟩
    · exact ⟨small_lt (m := 2) (by omega) (by decide), by omega, by omega⟩

theorem numAt_put5 {W : World} {u : Value} {d : Ieee.Datum} {h : Nat} (hu : NumAt W u d) (hz : ZeroNum W h) (a b c e f : Value) : NumAt (put5 W h a b c e f) u d := by
  cases d with
  | number s m p =>
    obtain ⟨A, q, rfl, A', q', he, hq, hr⟩ := hu
    exact ⟨A, q, rfl, A', q', he, hq, hr.put5 hz.cells.1 _ _ _ _ _⟩
  | infinity s => obtain ⟨A, n, k, l, b', rfl⟩ := hu; exact ⟨A, n, k, l, b', rfl⟩
  | nan s t => obtain ⟨s', A, n, k, l, b', rfl⟩ := hu; exact ⟨s', A, n, k, l, b', rfl⟩

set_option maxHeartbeats 1600000 in
set_option maxRecDepth 100000 in
theorem num_calls (a : Nat) (ha : a < 4294967296) (w : World) : Calls Try.prog 151 #[.int .u32 (a : Int)] w fun e w' => NumEnd w (rd32 a) e w' := by
  have HF := Lib.hid fun W => F32_calls W
  have HO := Lib.hid fun W => of_calls 23 8 150 255 isF32 a ha W
  have W1 := u_w64 a (by omega)
  have HZ : Hid (ZeroNum (w.alloc zeroNum) w.heap.size) := heap_alloc_new w zeroNum
  have HB : Hid (Below w.heap.size w (w.alloc zeroNum)) := (Below.refl _ _).alloc (Nat.le_refl _) _
  clear ha
  go_enter Try.func151, Try.ntmps151
  go_upto_region 1 with (fail)
  unfold zeroNum at HZ HB
  generalize w.alloc (.cells #[.int .i64 0, .bool false, .slice none 0 0, .int .i64 0, .bool false] 166) = w0 at HZ HB ⊢
  obtain ⟨h, eh⟩ : ∃ h, h = w.heap.size := ⟨_, rfl⟩
  rw [← eh] at HZ ⊢
  have hh : w.heap.size ≤ h := by omega
  clear eh
  go_wp2_with (first
    | (go_at_call 154; refine (HF.out _).mono ?_; rintro e1 w1 ⟨rfl, hbel⟩; have HZ1 := Lib.hid (HZ.out.below hbel); have HB1 := Lib.hid (ujoin HB.out hbel); clear hbel)
    | (go_at_call 108; refine (HO.out _).mono ?_; rintro e1 w2 ⟨u, rfl, hu, hbel⟩; have HZ2 := Lib.hid (HZ1.out.below hbel); have HB2 := Lib.hid (ujoin HB1.out hbel); have HU := Lib.hid hu; obtain ⟨k, s, A, n, c, e, b, rfl⟩ := hu.form; unfold numV; obtain ⟨⟨z0, z1, z2, z3, z4⟩, f0, f1, f2, f3, f4⟩ := HZ2.out.cells; clear hbel hu))
  exact bodyPost_ret (v := numV k s A n c e b) (by simp [results, Try.results151, go_sem, numV, z0, z1, z2, z3, z4]) rfl ⟨_, rfl, numAt_put5 HU.out HZ2.out _ _ _ _ _, below_put5 HB2.out hh _ _ _ _ _⟩

set_option maxHeartbeats 1600000 in
set_option maxRecDepth 100000 in
theorem bits_calls (d : Ieee.Datum) (u : Value) (w : World) (hu : NumAt w u d) (hd : Small d) : Calls Try.prog 134 #[u] w fun e w' => Gives w (.int .u32 ((told32 d : Nat) : Int)) e w' := by
  have HF := Lib.hid fun W => F32_calls W
  have HR : Hid (∀ W, Below w.heap.size w W → Calls Try.prog 110 #[formV 23 8, u] W fun e' w' => Gives W (.int .u64 ((told32 d : Nat) : Int)) e' w') := fun W hb => round_calls 23 8 150 255 isF32 d u W (hu.below hb) hd
  have hlt := told32_lt d
  obtain ⟨r, er⟩ : ∃ r, r = told32 d := ⟨_, rfl⟩
  rw [← er] at HR hlt ⊢
  have W1 := u_w32 r hlt
  obtain ⟨k, s, A, n, c, e, b, rfl⟩ := hu.form
  clear hu hd er
  unfold numV at HR ⊢
  have hn := numBox_new w k s A n c e b
  have HB : Hid (Below w.heap.size w (w.alloc (.cells #[.int .i64 k, .bool s, .slice A n c, .int .i64 e, .bool b] 166))) := (Below.refl _ _).alloc (Nat.le_refl _) _
  obtain ⟨g, eg⟩ : ∃ g, g = w.heap.size := ⟨_, rfl⟩
  rw [← eg] at hn
  have EG := Lib.hid eg
  clear eg
  go_enter Try.func134, Try.ntmps134
  go_upto_region 1 with (fail)
  rw [← EG.out]
  generalize w.alloc (.cells #[.int .i64 k, .bool s, .slice A n c, .int .i64 e, .bool b] 166) = w0 at hn HB ⊢
  obtain ⟨x0, x1, x2, x3, x4⟩ := hn
  have hb := HB.out
  go_region_held3 (fun w' => w'.cell? ⟨g, 0, none⟩ = some (.int .i64 k) ∧ w'.cell? ⟨g, 1, none⟩ = some (.bool s) ∧ w'.cell? ⟨g, 2, none⟩ = some (.slice A n c) ∧ w'.cell? ⟨g, 3, none⟩ = some (.int .i64 e) ∧ w'.cell? ⟨g, 4, none⟩ = some (.bool b) ∧ Below w.heap.size w w')
    (first | exact ⟨x0, x1, x2, x3, x4, hb.drew⟩ | exact keep6 hbel ‹_›) (first
    | (go_at_call 154; refine (HF.out _).mono ?_; rintro e1 w1 ⟨rfl, hbel⟩; have HB1 := Lib.hid (ujoin hb.drew hbel); unfold formV)
    | (go_at_call 110; refine (HR.out w1 HB1.out).mono ?_; rintro e1 w2 ⟨rfl, hbel⟩))
  rename_i hH
  go_wp2
  go_ret
  exact ⟨rfl, hH.2.2.2.2.2⟩
end Go.Proofs.Ytdcpeeolfgohmaa
