/- halideref2.TimesNum: the product of numbers. halideref3.Dot: the reference's sums of products are the machine's. -/
import Derived.Test.YtdcpeeolfgohmaaPlusAC
import Derived.Test.YtdcpeeolfgohmaaRgRK
import Derived.Test.YtdcpeeolfgohmaaDot
import Derived.Test.YtdcpeeolfgohmaaNarCP
namespace Go.Proofs.Ytdcpeeolfgohmaa
open Go.RowKit Go.Proofs.YtdcpeeolfgohmaaW.PrintWords
set_option linter.unusedSimpArgs false
set_option linter.unusedVariables false
attribute [local go_sem] Oper.semAt_some

theorem len_prod {a b la lb : Nat} (ha : len32 a ≤ la) (hb : len32 b ≤ lb) : len32 (a * b) ≤ la + lb := by
  have h1 := (lt_len32 a la).1 ha
  have h2 := (lt_len32 b lb).1 hb
  rw [lt_len32, Nat.mul_add, Nat.pow_add]
  exact Nat.mul_lt_mul'' h1 h2
/-- What the rounds of a product hold. -/
structure TmS (w : World) (g1 g2 h : Nat) (s1 : Bool) (A1 : Option Addr) (n1 c1 : Nat) (e1 : Int) (s2 : Bool) (A2 : Option Addr) (n2 c2 : Nat) (e2 : Int) (m1 m2 : Nat) (W : World) : Prop where
  t : TwoS w g1 g2 h 2 s1 A1 n1 c1 e1 false 2 s2 A2 n2 c2 e2 false W
  a : NatAt W (.slice A1 n1 c1) m1
  b : RowU W A2 n2 (dig m2)
theorem TmS.below {w : World} {g1 g2 h : Nat} {s1 : Bool} {A1 : Option Addr} {n1 c1 : Nat} {e1 : Int} {s2 : Bool} {A2 : Option Addr} {n2 c2 : Nat} {e2 : Int} {m1 m2 : Nat} {W W' : World} (H : TmS w g1 g2 h s1 A1 n1 c1 e1 s2 A2 n2 c2 e2 m1 m2 W) (hb : Below W.heap.size W W') : TmS w g1 g2 h s1 A1 n1 c1 e1 s2 A2 n2 c2 e2 m1 m2 W' := ⟨H.t.below hb, H.a.below hb, H.b.below hb⟩
set_option maxHeartbeats 3200000 in
set_option maxRecDepth 100000 in
theorem tms_nan (k1 : Int) (s1 : Bool) (A1 : Option Addr) (n1 c1 : Nat) (e1 : Int) (b1 : Bool) (s2 : Bool) (A2 : Option Addr) (n2 c2 : Nat) (e2 : Int) (b2 : Bool) (w : World) (hk : (k1 == 0) = false) :
    Calls Try.prog 127 #[numV k1 s1 A1 n1 c1 e1 b1, numV 0 s2 A2 n2 c2 e2 b2] w fun e w' => Gives w (numV 0 false none 0 0 0 false) e w' := by
  unfold numV
  have HS0 := TwoS.start w k1 s1 A1 n1 c1 e1 b1 0 s2 A2 n2 c2 e2 b2
  obtain ⟨g1, eg1⟩ : ∃ g, g = w.heap.size := ⟨_, rfl⟩
  obtain ⟨g2, eg2⟩ : ∃ g, g = w.heap.size + 1 := ⟨_, rfl⟩
  obtain ⟨h3, eg3⟩ : ∃ g, g = w.heap.size + 1 + 1 := ⟨_, rfl⟩
  rw [← eg3, ← eg2, ← eg1] at HS0
  have EG1 := Lib.hid eg1
  have EG2 := Lib.hid eg2
  have EG3 := Lib.hid eg3
  clear eg1 eg2 eg3
  go_enter Try.func127, Try.ntmps127
  go_upto_region 1 with (fail)
  rw [← EG3.out, ← EG2.out, ← EG1.out]
  unfold zeroNum at HS0
  generalize ((w.alloc (.cells #[.int .i64 k1, .bool s1, .slice A1 n1 c1, .int .i64 e1, .bool b1] 166)).alloc (.cells #[.int .i64 0, .bool s2, .slice A2 n2 c2, .int .i64 e2, .bool b2] 166)).alloc (.cells #[.int .i64 0, .bool false, .slice none 0 0, .int .i64 0, .bool false] 166) = w0 at HS0 ⊢
  have HS := Lib.hid HS0
  obtain ⟨x0, x1, x2, x3, x4⟩ := HS.out.x
  obtain ⟨y0, y1, y2, y3, y4⟩ := HS.out.y
  clear HS0
  obtain ⟨⟨z0, z1, z2, z3, z4⟩, f0, f1, f2, f3, f4⟩ := HS.out.z.cells
  go_wp2
  all_goals exact bodyPost_ret (v := numV 0 false none 0 0 0 false) (by simp [results, Try.results127, go_sem, numV, z0, z1, z2, z3, z4]) rfl ⟨rfl, below_put5 HS.out.be HS.out.lo _ _ _ _ _⟩
set_option maxHeartbeats 1600000 in
set_option maxRecDepth 100000 in
theorem nzero_calls (s : Bool) (A : Option Addr) (n c : Nat) (e : Int) (b : Bool) (hz : ((n : Int) == 0) = false) (w : World) : Calls Try.prog 149 #[numV 2 s A n c e b] w fun e' w' => Gives w (.bool false) e' w' := by
  unfold numV
  go_enter Try.func149, Try.ntmps149
  go_wp2
  go_ret
  exact ⟨rfl, (Below.refl _ _).alloc (Nat.le_refl _) _⟩
set_option maxHeartbeats 3200000 in
set_option maxRecDepth 100000 in
theorem tms_inf (s1 : Bool) (A1 : Option Addr) (n1 c1 : Nat) (e1 : Int) (b1 : Bool) (s2 : Bool) (A2 : Option Addr) (n2 c2 : Nat) (e2 : Int) (b2 : Bool) (w : World) (hz : ((n1 : Int) == 0) = false) :
    Calls Try.prog 127 #[numV 2 s1 A1 n1 c1 e1 b1, numV 1 s2 A2 n2 c2 e2 b2] w fun e w' => Gives w (numV 1 (s1 != s2) none 0 0 0 false) e w' := by
  have HZ := Lib.hid fun W => nzero_calls s1 A1 n1 c1 e1 b1 hz W
  unfold numV at HZ
  obtain ⟨sg, esg⟩ : ∃ q, q = (s1 != s2) := ⟨_, rfl⟩
  rw [← esg]
  have HSG := Lib.hid esg
  clear esg hz
  unfold numV
  have HS0 := TwoS.start w 2 s1 A1 n1 c1 e1 b1 1 s2 A2 n2 c2 e2 b2
  obtain ⟨g1, eg1⟩ : ∃ g, g = w.heap.size := ⟨_, rfl⟩
  obtain ⟨g2, eg2⟩ : ∃ g, g = w.heap.size + 1 := ⟨_, rfl⟩
  obtain ⟨h3, eg3⟩ : ∃ g, g = w.heap.size + 1 + 1 := ⟨_, rfl⟩
  rw [← eg3, ← eg2, ← eg1] at HS0
  have EG1 := Lib.hid eg1
  have EG2 := Lib.hid eg2
  have EG3 := Lib.hid eg3
  clear eg1 eg2 eg3
  go_enter Try.func127, Try.ntmps127
  go_upto_region 1 with (fail)
  rw [← EG3.out, ← EG2.out, ← EG1.out]
  unfold zeroNum at HS0
  generalize ((w.alloc (.cells #[.int .i64 2, .bool s1, .slice A1 n1 c1, .int .i64 e1, .bool b1] 166)).alloc (.cells #[.int .i64 1, .bool s2, .slice A2 n2 c2, .int .i64 e2, .bool b2] 166)).alloc (.cells #[.int .i64 0, .bool false, .slice none 0 0, .int .i64 0, .bool false] 166) = w0 at HS0 ⊢
  have HS := Lib.hid HS0
  obtain ⟨x0, x1, x2, x3, x4⟩ := HS.out.x
  obtain ⟨y0, y1, y2, y3, y4⟩ := HS.out.y
  clear HS0
  go_wp2_with (go_at_call 149; (with_reducible refine (HZ.out _).mono ?_); rintro e1 w3 ⟨rfl, hbel⟩; have HS3 := Lib.hid (HS.out.below hbel); clear hbel x0 x1 x2 x3 x4 y0 y1 y2 y3 y4; obtain ⟨x0, x1, x2, x3, x4⟩ := HS3.out.x; obtain ⟨y0, y1, y2, y3, y4⟩ := HS3.out.y; obtain ⟨⟨z0, z1, z2, z3, z4⟩, f0, f1, f2, f3, f4⟩ := HS3.out.z.cells)
  all_goals exact bodyPost_ret (v := numV 1 sg none 0 0 0 false) (by simp [results, Try.results127, go_sem, numV, z0, z1, z2, z3, z4, HSG.out]; cases s1 <;> cases s2 <;> rfl) rfl ⟨rfl, below_put5 HS3.out.be HS3.out.lo _ _ _ _ _⟩
set_option maxHeartbeats 6400000 in
set_option maxRecDepth 100000 in
theorem tms_num (s1 s2 : Bool) (m1 m2 : Nat) (p1 p2 : Int) (A1 A2 : Option Addr) (c1 c2 : Nat) (w : World) (h1 : NatAt w (.slice A1 (len32 m1) c1) m1) (h2 : NatAt w (.slice A2 (len32 m2) c2) m2) (hl1 : len32 m1 ≤ 10000) (hl2 : len32 m2 ≤ 10000) (hp1 : -100000 ≤ p1 ∧ p1 ≤ 100000) (hp2 : -100000 ≤ p2 ∧ p2 ≤ 100000) :
    Calls Try.prog 127 #[numV 2 s1 A1 (len32 m1) c1 p1 false, numV 2 s2 A2 (len32 m2) c2 p2 false] w fun e w' => NumEnd w (.number (s1 != s2) (m1 * m2) (p1 + p2)) e w' := by
  obtain ⟨sg, esg⟩ : ∃ q, q = (s1 != s2) := ⟨_, rfl⟩
  rw [← esg]
  have HSG := Lib.hid esg
  have WP : IntKind.i64.wrap (p1 + p2) = p1 + p2 := IntWalk.i64_in _ (by omega)
  have H2 : RowU w A2 (len32 m2) (dig m2) := by
    obtain ⟨A, c, e, -, hr⟩ := h2
    injection e with e1 e2 e3
    subst e1
    exact hr
  have hpr : ∀ i, i ≤ len32 m2 → len32 (m1 * vt (dig m2) i) ≤ 20000 := fun i hi => by
    have h := len_prod hl1 (show len32 (vt (dig m2) i) ≤ 10000 by
      have h3 : vt (dig m2) i ≤ m2 := by rw [vt_dig]; exact Nat.mod_le _ _
      exact Nat.le_trans (len32_mono h3) hl2)
    omega
  have HPR := Lib.hid hpr
  have HV : Hid (vt (dig m2) (len32 m2) = m2) := (show _ = _ from vt_all (Nat.le_refl _))
  obtain ⟨n1, en1⟩ : ∃ n, n = len32 m1 := ⟨_, rfl⟩
  obtain ⟨n2, en2⟩ : ∃ n, n = len32 m2 := ⟨_, rfl⟩
  have HL1 : Hid (len32 m1 ≤ 10000) := (show _ ≤ _ from hl1)
  have hn2 : n2 ≤ 10000 := by rw [en2]; exact hl2
  have EN1 := Lib.hid en1
  rw [← en1] at h1 ⊢
  rw [← en2] at H2 HPR HV ⊢
  have HA := Lib.hid h1
  have HB := Lib.hid H2
  clear h1 h2 H2 esg hpr en1 en2 hl1 hl2 hp1 hp2
  unfold numV
  have HS0 := TwoS.start w 2 s1 A1 n1 c1 p1 false 2 s2 A2 n2 c2 p2 false
  obtain ⟨g1, eg1⟩ : ∃ g, g = w.heap.size := ⟨_, rfl⟩
  obtain ⟨g2, eg2⟩ : ∃ g, g = w.heap.size + 1 := ⟨_, rfl⟩
  obtain ⟨h3, eg3⟩ : ∃ g, g = w.heap.size + 1 + 1 := ⟨_, rfl⟩
  rw [← eg3, ← eg2, ← eg1] at HS0
  have EG1 := Lib.hid eg1
  have EG2 := Lib.hid eg2
  have EG3 := Lib.hid eg3
  clear eg1 eg2 eg3
  go_enter Try.func127, Try.ntmps127
  go_upto_region 1 with (fail)
  rw [← EG3.out, ← EG2.out, ← EG1.out]
  unfold zeroNum at HS0
  generalize ((w.alloc (.cells #[.int .i64 2, .bool s1, .slice A1 n1 c1, .int .i64 p1, .bool false] 166)).alloc (.cells #[.int .i64 2, .bool s2, .slice A2 n2 c2, .int .i64 p2, .bool false] 166)).alloc (.cells #[.int .i64 0, .bool false, .slice none 0 0, .int .i64 0, .bool false] 166) = w0 at HS0 ⊢
  have HS := Lib.hid HS0
  obtain ⟨x0, x1, x2, x3, x4⟩ := HS.out.x
  obtain ⟨y0, y1, y2, y3, y4⟩ := HS.out.y
  clear HS0
  have HT : Hid (TmS w g1 g2 h3 s1 A1 n1 c1 p1 s2 A2 n2 c2 p2 m1 m2 w0) := (show TmS _ _ _ _ _ _ _ _ _ _ _ _ _ _ _ _ _ from ⟨HS.out, HA.out.below HS.out.be, HB.out.below HS.out.be⟩)
  clear HS HA HB EG1 EG2 EG3
  go_wp2
  go_loopg [6, 7] n2 (fun kq v6 v7 wr => ∃ i : Nat, v7 = .int .i64 (i : Int) ∧ i ≤ n2 ∧ n2 ≤ i + kq ∧ Aside (NatAt wr v6 (m1 * vt (dig m2) i)) ∧ Aside (TmS w g1 g2 h3 s1 A1 n1 c1 p1 s2 A2 n2 c2 p2 m1 m2 wr))
  case atStart => exact ⟨0, rfl, Nat.zero_le _, by omega, NatAt.zero _ _ _, HT.out⟩
  case round =>
    obtain ⟨i, rfl, hi, hik, HN, HTi⟩ := hrel
    clear HT x0 x1 x2 x3 x4 y0 y1 y2 y3 y4
    obtain ⟨B6, d6, e6, -, -⟩ := HN.out
    subst e6
    obtain ⟨X, eX⟩ : ∃ q, q = m1 * vt (dig m2) i := ⟨_, rfl⟩
    obtain ⟨y0, y1, y2, y3, y4⟩ := HTi.out.t.y
    by_cases hlt : i < n2
    · have hltz : (i : Int) < (n2 : Int) := by omega
      have hn1 : 1 ≤ n2 := by omega
      obtain ⟨ad, ead, hcd⟩ := HTi.out.b hn1
      subst ead
      obtain ⟨dk0, edk⟩ : ∃ q, q = dig m2 i := ⟨_, rfl⟩
      have HDI : Hid (dig m2 i = dk0) := (show _ = _ from edk.symm)
      have hdk : dk0 < 4294967296 := by rw [edk]; exact dig_lt _ _
      have WI : IntKind.i64.wrap (32 * (i : Int)) = ((32 * i : Nat) : Int) := by rw [IntWalk.i64_in _ (by omega)]; omega
      have h20 := HPR.out i hi
      have h21 := HPR.out (i + 1) (by omega)
      rw [← eX] at h20
      have hvs : m1 * vt (dig m2) (i + 1) = X + m1 * dk0 * 2 ^ (32 * i) := by
        rw [show vt (dig m2) (i + 1) = vt (dig m2) i + dig m2 i * 2 ^ (32 * i) from rfl, Nat.mul_add, ← eX, edk, Nat.mul_assoc]
      have hY : len32 (m1 * dk0) ≤ 20000 := by
        have := len_prod (a := m1) (b := dk0) HL1.out (show len32 dk0 ≤ 1 from (lt_len32 dk0 1).2 hdk)
        omega
      have hZ : len32 (m1 * dk0 * 2 ^ (32 * i)) ≤ 20000 := Nat.le_trans (len32_mono (by rw [hvs]; exact Nat.le_add_left _ _)) h21
      obtain ⟨Y, eY⟩ : ∃ q, q = m1 * dk0 := ⟨_, rfl⟩
      obtain ⟨Z, eZ⟩ : ∃ q, q = m1 * dk0 * 2 ^ (32 * i) := ⟨_, rfl⟩
      have HVS : Hid (X + Z = m1 * vt (dig m2) (i + 1)) := (show _ = _ from by rw [hvs, eZ])
      rw [← eY] at hY
      rw [← eZ] at hZ
      have HCT : Hid (∀ W, NatAt W (.slice A1 n1 c1) m1 → Calls Try.prog 150 #[.slice A1 n1 c1, .int .u32 (dk0 : Int)] W fun e w' => NatEnd W Y e w') := (show ∀ W, _ → _ from fun W h => by rw [eY]; exact times_calls W _ m1 dk0 h (by have := HL1.out; omega) hdk)
      have HCU : Hid (∀ W v, NatAt W v Y → Calls Try.prog 140 #[v, .int .i64 ((32 * i : Nat) : Int)] W fun e w' => NatEnd W Z e w') := (show ∀ W v, _ → _ from fun W v h => by
        have := up_calls W v Y (32 * i) h (by omega) (by omega)
        rw [eZ, ← eY]; exact this)
      have HCP : Hid (∀ W v u, NatAt W v X → NatAt W u Z → Calls Try.prog 141 #[v, u] W fun e w' => NatEnd W (X + Z) e w') := (show ∀ W v u, _ → _ → _ from fun W v u h k => plus_calls W v u X Z h k (by omega) (by omega))
      have HNX : Hid (NatAt wr (.slice B6 (len32 (m1 * vt (dig m2) i)) d6) X) := (show NatAt _ _ _ from by rw [eX]; exact HN.out)
      obtain ⟨lx, elx⟩ : ∃ q, q = len32 (m1 * vt (dig m2) i) := ⟨_, rfl⟩
      rw [← elx] at HNX ⊢
      clear HN eX eY eZ hvs h20 h21 hY hZ edk hcd elx
      go_upto_region 10 with (fail)
      refine wp_region_any (by kernel_rfl) ?_
      change wpAny _ _ _ _ _ _ _ wr.drew
      have HTd := Lib.hid (HTi.out.below (Below.refl wr.heap.size wr).drew)
      have HNd := Lib.hid (HNX.out.below (Below.refl wr.heap.size wr).drew)
      clear HTi HNX y0 y1 y2 y3 y4
      generalize wr.drew = V0 at HTd HNd ⊢
      have hS := HTd.out
      refine wpAny_of_K (S := TmS w g1 g2 h3 s1 A1 n1 c1 p1 s2 (some ad) n2 c2 p2 m1 m2) (T := []) _ _ _ _ ?_
      refine wpAnyK_take [] (i := 0) (v := ?_) rfl (by kernel_rfl) (by kernel_rfl) (by kernel_rfl) (by kernel_rfl) (fun _ _ _ h => h) (Or.inl ⟨by rfl, ?_⟩) hS ?_
      rotate_left
      · intro W' hSw; obtain ⟨x0, x1, x2, x3, x4⟩ := hSw.t.x; obtain ⟨y0, y1, y2, y3, y4⟩ := hSw.t.y; obtain ⟨ad', ead', hcd'⟩ := hSw.b hn1; injection ead' with ead'; subst ead'; have dk := hcd' i hlt; rw [HDI.out] at dk; clear hSw hcd'; go_simp; try (with_reducible rfl)
      simp only [Act.put, List.setIfInBounds_toArray, List.set_cons_zero, List.set_cons_succ]
      refine wpAnyK_take [] (i := 1) (v := ?_) rfl (by kernel_rfl) (by kernel_rfl) (by kernel_rfl) (by kernel_rfl) (fun _ _ _ h => h) (Or.inl ⟨by rfl, ?_⟩) hS ?_
      rotate_left
      · intro W' hSw; obtain ⟨x0, x1, x2, x3, x4⟩ := hSw.t.x; obtain ⟨y0, y1, y2, y3, y4⟩ := hSw.t.y; obtain ⟨ad', ead', hcd'⟩ := hSw.b hn1; injection ead' with ead'; subst ead'; have dk := hcd' i hlt; rw [HDI.out] at dk; clear hSw hcd'; go_simp; try (with_reducible rfl)
      simp only [Act.put, List.setIfInBounds_toArray, List.set_cons_zero, List.set_cons_succ]
      refine wpAnyK_take [] (i := 2) (v := ?_) rfl (by kernel_rfl) (by kernel_rfl) (by kernel_rfl) (by kernel_rfl) (fun _ _ _ h => h) (Or.inl ⟨by rfl, ?_⟩) hS ?_
      rotate_left
      · intro W' hSw; obtain ⟨x0, x1, x2, x3, x4⟩ := hSw.t.x; obtain ⟨y0, y1, y2, y3, y4⟩ := hSw.t.y; obtain ⟨ad', ead', hcd'⟩ := hSw.b hn1; injection ead' with ead'; subst ead'; have dk := hcd' i hlt; rw [HDI.out] at dk; clear hSw hcd'; go_simp; try (with_reducible rfl)
      simp only [Act.put, List.setIfInBounds_toArray, List.set_cons_zero, List.set_cons_succ]
      refine wpAnyK_take [] (i := 3) (v := ?_) rfl (by kernel_rfl) (by kernel_rfl) (by kernel_rfl) (by kernel_rfl) (fun _ _ _ h => h) (Or.inl ⟨by rfl, ?_⟩) hS ?_
      rotate_left
      · intro W' hSw; obtain ⟨x0, x1, x2, x3, x4⟩ := hSw.t.x; obtain ⟨y0, y1, y2, y3, y4⟩ := hSw.t.y; obtain ⟨ad', ead', hcd'⟩ := hSw.b hn1; injection ead' with ead'; subst ead'; have dk := hcd' i hlt; rw [HDI.out] at dk; clear hSw hcd'; go_simp; try (with_reducible rfl)
      simp only [Act.put, List.setIfInBounds_toArray, List.set_cons_zero, List.set_cons_succ]
      refine wpAnyK_take [] (i := 4) (v := ?_) rfl (by kernel_rfl) (by kernel_rfl) (by kernel_rfl) (by kernel_rfl) (fun _ _ _ h => h) (Or.inl ⟨by rfl, ?_⟩) hS ?_
      rotate_left
      · intro W' hSw; obtain ⟨x0, x1, x2, x3, x4⟩ := hSw.t.x; obtain ⟨y0, y1, y2, y3, y4⟩ := hSw.t.y; obtain ⟨ad', ead', hcd'⟩ := hSw.b hn1; injection ead' with ead'; subst ead'; have dk := hcd' i hlt; rw [HDI.out] at dk; clear hSw hcd'; go_simp; try (with_reducible rfl)
      simp only [Act.put, List.setIfInBounds_toArray, List.set_cons_zero, List.set_cons_succ]
      refine wpAnyK_take [] (i := 5) (v := ?_) rfl (by kernel_rfl) (by kernel_rfl) (by kernel_rfl) (by kernel_rfl) (fun _ _ _ h => h) (Or.inl ⟨by rfl, ?_⟩) hS ?_
      rotate_left
      · intro W' hSw; obtain ⟨x0, x1, x2, x3, x4⟩ := hSw.t.x; obtain ⟨y0, y1, y2, y3, y4⟩ := hSw.t.y; obtain ⟨ad', ead', hcd'⟩ := hSw.b hn1; injection ead' with ead'; subst ead'; have dk := hcd' i hlt; rw [HDI.out] at dk; clear hSw hcd'; go_simp; try (with_reducible rfl)
      simp only [Act.put, List.setIfInBounds_toArray, List.set_cons_zero, List.set_cons_succ]
      refine wpAnyK_take [] (i := 6) (v := ?_) rfl (by kernel_rfl) (by kernel_rfl) (by kernel_rfl) (by kernel_rfl) (fun _ _ _ h => h) (Or.inl ⟨by rfl, ?_⟩) hS ?_
      rotate_left
      · intro W' hSw; obtain ⟨x0, x1, x2, x3, x4⟩ := hSw.t.x; obtain ⟨y0, y1, y2, y3, y4⟩ := hSw.t.y; obtain ⟨ad', ead', hcd'⟩ := hSw.b hn1; injection ead' with ead'; subst ead'; have dk := hcd' i hlt; rw [HDI.out] at dk; clear hSw hcd'; go_simp; try (with_reducible rfl)
      simp only [Act.put, List.setIfInBounds_toArray, List.set_cons_zero, List.set_cons_succ]
      refine wpAnyK_take [] (i := 7) (v := ?_) rfl (by kernel_rfl) (by kernel_rfl) (by kernel_rfl) (by kernel_rfl) (fun _ _ _ h => h) (Or.inl ⟨by rfl, ?_⟩) hS ?_
      rotate_left
      · intro W' hSw; obtain ⟨x0, x1, x2, x3, x4⟩ := hSw.t.x; obtain ⟨y0, y1, y2, y3, y4⟩ := hSw.t.y; obtain ⟨ad', ead', hcd'⟩ := hSw.b hn1; injection ead' with ead'; subst ead'; have dk := hcd' i hlt; rw [HDI.out] at dk; clear hSw hcd'; go_simp; try (with_reducible rfl)
      simp only [Act.put, List.setIfInBounds_toArray, List.set_cons_zero, List.set_cons_succ]
      refine wpAnyK_take [] (i := 9) (v := ?_) rfl (by kernel_rfl) (by kernel_rfl) (by kernel_rfl) (by kernel_rfl) (fun _ _ _ h => h) (Or.inl ⟨by rfl, ?_⟩) hS ?_
      rotate_left
      · intro W' hSw; obtain ⟨x0, x1, x2, x3, x4⟩ := hSw.t.x; obtain ⟨y0, y1, y2, y3, y4⟩ := hSw.t.y; obtain ⟨ad', ead', hcd'⟩ := hSw.b hn1; injection ead' with ead'; subst ead'; have dk := hcd' i hlt; rw [HDI.out] at dk; clear hSw hcd'; go_simp; try (with_reducible rfl)
      simp only [Act.put, List.setIfInBounds_toArray, List.set_cons_zero, List.set_cons_succ]
      refine wpAnyK_take [] (i := 10) (v := ?_) rfl (by kernel_rfl) (by kernel_rfl) (by kernel_rfl) (by kernel_rfl) (fun _ _ _ h => h) (Or.inl ⟨by rfl, ?_⟩) hS ?_
      rotate_left
      · intro W' hSw; obtain ⟨x0, x1, x2, x3, x4⟩ := hSw.t.x; obtain ⟨y0, y1, y2, y3, y4⟩ := hSw.t.y; obtain ⟨ad', ead', hcd'⟩ := hSw.b hn1; injection ead' with ead'; subst ead'; have dk := hcd' i hlt; rw [HDI.out] at dk; clear hSw hcd'; go_simp; try (with_reducible rfl)
      simp only [Act.put, List.setIfInBounds_toArray, List.set_cons_zero, List.set_cons_succ]
      refine wpAnyK_ready (rs := [8]) (by kernel_rfl) (by simp) (ReadyK.cons rfl (fun K hK => ?_) ReadyK.nil)
      rw [if_pos (by rfl)]
      go_simp
      refine (HCT.out _ HTd.out.a).mono ?_
      rintro e1 w7 ⟨v7, rfl, ⟨B7, d7, rfl, hd7, hr7⟩, hb7⟩
      have HN7 : Hid (NatAt w7 (.slice B7 (len32 Y) d7) Y) := (show NatAt _ _ _ from ⟨B7, d7, rfl, hd7, hr7⟩)
      have HT7 := Lib.hid (HTd.out.below hb7)
      have HX7 := Lib.hid (HNd.out.below hb7)
      refine hK.out _ _ (fun _ => HT7.out) ?_
      clear hK K hS hd7 hr7 hb7 HTd HNd HCT
      refine wpAnyK_ready (rs := [11]) (by kernel_rfl) (by simp) (ReadyK.cons rfl (fun K hK => ?_) ReadyK.nil)
      rw [if_pos (by rfl)]
      go_simp
      refine (HCU.out _ _ HN7.out).mono ?_
      rintro e1 w8 ⟨v8, rfl, ⟨B8, d8, rfl, hd8, hr8⟩, hb8⟩
      have HN8 : Hid (NatAt w8 (.slice B8 (len32 Z) d8) Z) := (show NatAt _ _ _ from ⟨B8, d8, rfl, hd8, hr8⟩)
      have HT8 := Lib.hid (HT7.out.below hb8)
      have HX8 := Lib.hid (HX7.out.below hb8)
      refine hK.out _ _ (fun _ => HT8.out) ?_
      clear hK K hd8 hr8 hb8 HT7 HX7 HN7 HCU
      refine wpAnyK_ready (rs := [12]) (by kernel_rfl) (by simp) (ReadyK.cons rfl (fun K hK => ?_) ReadyK.nil)
      rw [if_pos (by rfl)]
      go_simp
      refine (HCP.out _ _ _ HX8.out HN8.out).mono ?_
      rintro e1 w9 ⟨v9, rfl, hn9, hb9⟩
      have HN9 := Lib.hid hn9
      have HT9 := Lib.hid (HT8.out.below hb9)
      refine hK.out _ _ (fun _ => HT9.out) ?_
      clear hK K hn9 hb9 HT8 HX8 HN8 HCP
      refine wpAnyK_ready (rs := [13]) (by kernel_rfl) (by simp) (ReadyK.cons rfl (fun K hK => ?_) ReadyK.nil)
      rw [if_pos (by rfl)]
      go_simp
      refine hK.out _ _ (fun _ => HT9.out) ?_
      clear hK K
      refine wpAnyK_done (by kernel_rfl) ?_ _
      go_wp2
      go_roundg (n2 - (i + 1))
      case measure => omega
      case rel => exact ⟨i + 1, by go_num, by omega, by omega, (show NatAt _ _ _ from by rw [← HVS.out]; exact HN9.out), HT9.out⟩
    · have hltz : ¬ (i : Int) < (n2 : Int) := by omega
      have hin : i = n2 := by omega
      subst hin
      have HNX : Hid (NatAt wr (.slice B6 (len32 (m1 * vt (dig m2) i)) d6) (m1 * m2)) := (show NatAt _ _ _ from by rw [HV.out]; have := HN.out; rw [HV.out] at this; exact this)
      have HR : Hid (m1 * vt (dig m2) i = m1 * m2) := (show _ = _ from by rw [HV.out])
      obtain ⟨x0, x1, x2, x3, x4⟩ := HTi.out.t.x
      obtain ⟨⟨z0, z1, z2, z3, z4⟩, f0, f1, f2, f3, f4⟩ := HTi.out.t.z.cells
      obtain ⟨B7, d7, e7, hd7, hr7⟩ := HNX.out
      injection e7 with e71 e72 e73
      subst e71 e73
      have HR7 := Lib.hid hr7
      have HD7 := Lib.hid hd7
      obtain ⟨lx, elx⟩ : ∃ q, q = len32 (m1 * vt (dig m2) i) := ⟨_, rfl⟩
      have HLX : Hid (lx = len32 (m1 * m2)) := (show _ = _ from by rw [elx, HR.out])
      rw [← elx]
      clear HN HNX eX elx e72 hd7 hr7 HR
      go_wp2
      have F := below_num HTi.out.t.be HTi.out.t.z HTi.out.t.lo HR7.out HD7.out sg (p1 + p2)
      rw [← HLX.out] at F
      refine bodyPost_ret (v := numV 2 sg B6 lx d6 (p1 + p2) false) (by simp [results, Try.results127, go_sem, numV, z0, z1, z2, z3, z4, HSG.out]; cases s1 <;> cases s2 <;> rfl) rfl ?_
      refine ⟨_, rfl, ?_, ?_⟩
      · have := F.1
        rw [HSG.out] at this ⊢
        exact this
      · have := F.2
        rw [HSG.out] at this
        exact this
/-- A number times whatever is read of a word. -/
theorem timesNum_calls (s1 : Bool) (m1 : Nat) (p1 : Int) (d2 : Ieee.Datum) (u1 u2 : Value) (w : World) (hm : m1 ≠ 0) (h1 : NumAt w u1 (.number s1 m1 p1)) (h2 : NumAt w u2 d2) (q1 : Small (.number s1 m1 p1)) (q2 : Small d2) :
    Calls Try.prog 127 #[u1, u2] w fun e w' => NumEnd w (prodD (.number s1 m1 p1) d2) e w' := by
  obtain ⟨A, c, rfl, hn1⟩ := h1
  have hl : ((len32 m1 : Nat) : Int) ≠ 0 := by
    have := len32_pos.2 hm
    omega
  cases d2 with
  | nan s t =>
    obtain ⟨s2', A2, n2, c2, e2, b2, rfl⟩ := h2
    exact (tms_nan 2 s1 A (len32 m1) c p1 false s2' A2 n2 c2 e2 b2 w rfl).mono fun e w' h => ⟨_, h.1, ⟨_, _, _, _, _, _, rfl⟩, h.2⟩
  | infinity t =>
    obtain ⟨A2, n2, c2, e2, b2, rfl⟩ := h2
    have e0 : prodD (.number s1 m1 p1) (.infinity t) = .infinity (s1 != t) := by
      unfold prodD Ieee.Datum.product
      simp only [if_neg hm]
      cases s1 <;> cases t <;> rfl
    exact (tms_inf s1 A (len32 m1) c p1 false t A2 n2 c2 e2 b2 w (by rw [beq_eq_false_iff_ne]; exact hl)).mono fun e w' h => ⟨_, h.1, by rw [e0]; exact ⟨_, _, _, _, _, rfl⟩, h.2⟩
  | number t m2 p2 =>
    obtain ⟨A2, c2, rfl, hn2⟩ := h2
    have e0 : prodD (.number s1 m1 p1) (.number t m2 p2) = .number (s1 != t) (m1 * m2) (p1 + p2) := by
      unfold prodD Ieee.Datum.product
      cases s1 <;> cases t <;> rfl
    rw [e0]
    exact tms_num s1 t m1 m2 p1 p2 A A2 c c2 w hn1 hn2 q1.1 q2.1 q1.2 q2.2
attribute [local go_sem] Oper.semAt_some

/-! ### Plain -/
theorem rprod_eq {n : Nat} (hn : n ≠ 0) (h : n < 131072) (b : Nat) : told64 (prodD (.number false n 0) (rd64 b)) = mul64 (flt64 (n : Int)) b := by
  obtain ⟨j, hj, hr⟩ := flt64_read n hn h
  unfold mul64
  rw [hr]
  cases e : rd64 b with
  | nan s t => rfl
  | infinity s =>
    have h2 : n * 2 ^ j ≠ 0 := Nat.mul_ne_zero hn (Nat.ne_of_gt (Nat.two_pow_pos j))
    unfold prodD Ieee.Datum.product
    simp only [if_neg hn, if_neg h2]
  | number s m p =>
    show told64 (.number (false ^^ s) (n * m) (0 + p)) = told64 (.number (false ^^ s) (n * 2 ^ j * m) (-(j : Int) + p))
    by_cases hm : m = 0
    · rw [hm, Nat.mul_zero, Nat.mul_zero]; exact z64_same _ _ _
    · rw [show n * 2 ^ j * m = n * m * 2 ^ j by rw [Nat.mul_assoc, Nat.mul_comm (2 ^ j), ← Nat.mul_assoc], show -(j : Int) + p = (0 + p) - (j : Int) by omega]
      exact (w64_scale (false ^^ s) (Nat.mul_ne_zero hn hm)).symm
/-- A number by 65536, as the reference has it: its place. -/
def sixteenD : Ieee.Datum → Ieee.Datum
  | .number s m p => .number s m (p - 16)
  | d => d
theorem rdiv_eq (a : Nat) : told64 (sixteenD (rd64 a)) = div64 a k65536 := by
  unfold div64
  rw [k65536_read]
  cases e : rd64 a with
  | nan s t => rfl
  | infinity s =>
    show told64 (.infinity s) = told64 (.infinity (s ^^ false))
    cases s <;> rfl
  | number s m p =>
    have hbd := read64_bd _ _ _ _ e
    have hl : (4503599627370496 : Nat).log2 = 52 := by decide +kernel
    unfold quotD sixteenD
    simp only [Ieee.Datum.quotient]
    rw [if_neg (by decide), hl]
    simp only [Option.getD_some]
    have hlog : m.log2 ≤ 52 := by
      rcases Nat.eq_zero_or_pos m with h0 | h0
      · rw [h0]; decide
      · have : m.log2 < 53 := (Nat.log2_lt (by omega)).2 (by omega)
        omega
    obtain ⟨k, ek⟩ : ∃ k, 54 + 52 - m.log2 = 52 + k := ⟨54 - m.log2, by omega⟩
    rw [ek]
    have hP : 0 < 2 ^ 52 := by decide
    rw [Nat.shiftLeft_eq, Nat.pow_add, show (4503599627370496 : Nat) = 2 ^ 52 by decide, Nat.mul_comm (2 ^ 52) (2 ^ k), ← Nat.mul_assoc, Nat.mul_div_cancel _ hP, Nat.mul_mod_left]
    simp only [bne_self_eq_false, Bool.toNat_false, Nat.add_zero]
    have hs : (s ^^ false) = s := by cases s <;> rfl
    rw [hs]
    by_cases hm : m = 0
    · rw [hm, Nat.zero_mul, Nat.mul_zero]; exact z64_same _ _ _
    · rw [show 2 * (m * 2 ^ k) = m * 2 ^ (k + 1) by rw [Nat.pow_succ]; grind, show p - -36 - ((52 + k : Nat) : Int) - 1 = (p - 16) - ((k + 1 : Nat) : Int) by omega]
      exact (w64_scale s hm).symm
theorem small_prod (n x : Nat) (hn : n < 131072) : Small (prodD (.number false n 0) (rd64 (wide64 x))) := by
  cases e : rd64 (wide64 x) with
  | nan s t => trivial
  | infinity s =>
    unfold prodD Ieee.Datum.product
    by_cases h : n = 0
    · simp only [if_pos h]; trivial
    · simp only [if_neg h]; trivial
  | number s m p =>
    have h1 := read64_bd _ _ _ _ e
    have h2 : -1074 ≤ p ∧ p ≤ 1000 := by
      have hx := e
      rw [rd64, read_parts 52 11 1075 2047 isF64] at hx
      by_cases g : wide64 x / 2 ^ 52 % 2 ^ 11 = 2047
      · rw [if_pos g] at hx; split at hx <;> cases hx
      · rw [if_neg g] at hx
        have := Nat.mod_lt (wide64 x / 2 ^ 52) (Nat.two_pow_pos 11)
        split at hx
        · injection hx with _ q2 q3; omega
        · injection hx with _ q2 q3; omega
    show len32 (n * m) ≤ 10000 ∧ -100000 ≤ 0 + p ∧ 0 + p ≤ 100000
    refine ⟨?_, by omega, by omega⟩
    have h3 := len_prod (a := n) (b := m) (la := 1) (lb := 2) ((lt_len32 n 1).2 (by omega)) ((lt_len32 m 2).2 (by omega))
    omega
theorem small_sixteen (a : Nat) : Small (sixteenD (rd64 a)) := by
  cases e : rd64 a with
  | nan s t => trivial
  | infinity s => trivial
  | number s m p =>
    have h := small_read 52 11 1075 2047 isF64 a
    have h1 := read64_bd _ _ _ _ e
    have h2 : -1074 ≤ p ∧ p ≤ 1000 := by
      have hx := e
      rw [rd64, read_parts 52 11 1075 2047 isF64] at hx
      by_cases g : a / 2 ^ 52 % 2 ^ 11 = 2047
      · rw [if_pos g] at hx; split at hx <;> cases hx
      · rw [if_neg g] at hx
        have := Nat.mod_lt (a / 2 ^ 52) (Nat.two_pow_pos 11)
        split at hx
        · injection hx with _ q2 q3; omega
        · injection hx with _ q2 q3; omega
    show len32 m ≤ 10000 ∧ -100000 ≤ p - 16 ∧ p - 16 ≤ 100000
    exact ⟨Nat.le_trans ((lt_len32 m 2).2 (by omega)) (by decide), by omega, by omega⟩

/-! ### The walks -/
set_option maxHeartbeats 1600000 in
set_option maxRecDepth 100000 in
theorem rNarrow_calls (b : Nat) (hb : b < 18446744073709551616) (w : World) : Calls Try.prog 109 #[.int .u64 (b : Int)] w fun e w' => Gives w (.int .u32 ((told32 (rd64 b) : Nat) : Int)) e w' := by
  have HF := Lib.hid fun W => F64_calls W
  have HA : Hid (∀ W, Calls Try.prog 108 #[.agg #[.int .i64 52, .int .i64 11], .int .u64 (b : Int)] W fun e w' => NumEnd W (rd64 b) e w') := (show ∀ W, _ from fun W => of_calls 52 11 1075 2047 isF64 b hb W)
  have HB := Lib.hid fun (u : Value) (W : World) (h : NumAt W u (rd64 b)) => bits_calls (rd64 b) u W h (small_read 52 11 1075 2047 isF64 b)
  obtain ⟨r, er⟩ : ∃ r, r = told32 (rd64 b) := ⟨_, rfl⟩
  rw [← er] at HB ⊢
  clear hb er
  unfold formV at HF
  go_enter Try.func109, Try.ntmps109
  go_wp2_with (first
    | (go_at_call 107; refine (HF.out _).mono ?_; rintro e1 w1 ⟨rfl, hbel⟩; have HB1 := Lib.hid hbel; clear hbel)
    | (go_at_call 108; refine (HA.out _).mono ?_; rintro e1 w2 ⟨u, rfl, hu, hbel⟩; have HU := Lib.hid hu; have HB2 := Lib.hid (ujoin HB1.out hbel); clear hu hbel)
    | (go_at_call 134; refine (HB.out u _ HU.out).mono ?_; rintro e1 w3 ⟨rfl, hbel⟩; have HB3 := Lib.hid (ujoin HB2.out hbel); clear hbel))
  go_ret
  exact ⟨rfl, HB3.out⟩
set_option maxHeartbeats 1600000 in
set_option maxRecDepth 100000 in
theorem number_calls (n : Nat) (hn : n ≤ 268435456) (w : World) : Calls Try.prog 128 #[.int .i64 (n : Int)] w fun e w' => NumEnd w (.number false n 0) e w' := by
  have HN := Lib.hid fun W => natOf_calls n W (by omega)
  have h0 : ¬ ((n : Int) < 0) := by omega
  have W1 : IntKind.u64.wrap (n : Int) = (n : Int) := by rw [IntKind.wrap]; simp [IntKind.bits, IntKind.signed]; omega
  have hz := heap_alloc_new w zeroNum
  have HZ : Hid (ZeroNum (w.alloc zeroNum) w.heap.size) := (show ZeroNum _ _ from hz)
  have HB0 : Hid (Below w.heap.size w (w.alloc zeroNum)) := (show Below _ _ _ from (Below.refl _ _).alloc (Nat.le_refl _) _)
  unfold zeroNum at HZ HB0
  clear hz hn
  go_enter Try.func128, Try.ntmps128
  go_wp2_with (go_at_call 132; refine (HN.out _).mono ?_; rintro e1 w2 ⟨v, rfl, ⟨A, c, rfl, hc, hr⟩, hbel⟩; have HR := Lib.hid hr; have HC := Lib.hid hc; have HB2 := Lib.hid (ujoin HB0.out hbel); have HZ2 := Lib.hid (HZ.out.below hbel); obtain ⟨⟨z0, z1, z2, z3, z4⟩, f0, f1, f2, f3, f4⟩ := HZ2.out.cells; clear hr hc hbel)
  refine bodyPost_ret (v := numV 2 false A (len32 n) c 0 false) (by simp [results, Try.results128, go_sem, numV, z0, z1, z2, z3, z4]) rfl ?_
  have F := below_num HB2.out HZ2.out (Nat.le_refl _) HR.out HC.out false 0
  exact ⟨_, rfl, F.1, F.2⟩
theorem keep5 {w0 W W' : World} {p0 p1 p2 p3 : Addr} {u0 u1 u2 u3 : Value} (hb : Below W.heap.size W W')
    (h : W.cell? p0 = some u0 ∧ W.cell? p1 = some u1 ∧ W.cell? p2 = some u2 ∧ W.cell? p3 = some u3 ∧ Below w0.heap.size w0 W) :
    W'.cell? p0 = some u0 ∧ W'.cell? p1 = some u1 ∧ W'.cell? p2 = some u2 ∧ W'.cell? p3 = some u3 ∧ Below w0.heap.size w0 W' := by
  have kp : ∀ {p : Addr} {v : Value}, W.cell? p = some v → W'.cell? p = some v := fun h => (hb.cell (World.block_lt_of_cell? _ _ h)).trans h
  obtain ⟨a, b, c, d, l⟩ := h
  exact ⟨kp a, kp b, kp c, kp d, ujoin l hb⟩
theorem dotOf64_lt (y : Nat → Int) (x : Nat → Nat) (k : Nat) : dotOf64 y x k < 18446744073709551616 := by
  cases k with
  | zero => exact (by decide : (0 : Nat) < 18446744073709551616)
  | succ k =>
    rw [dotOf64_succ]
    cases k with
    | zero => exact told64_lt _
    | succ k => exact told64_lt _
set_option maxHeartbeats 3200000 in
set_option maxRecDepth 100000 in
theorem rDot64_calls (w : World) (A B : Option Addr) (n c d : Nat) (y : Nat → Int) (x : Nat → Nat) (hy : RowZ w A n y) (hr : RowU w B n x) (hn1 : 1 ≤ n) (hn : n ≤ 1000000) (hx : ∀ k, k < n → x k < 4294967296) (hg : ∀ k, k < n → 1 ≤ y k ∧ y k < 131072) :
    Calls Try.prog 106 #[.slice A n c, .slice B n d] w fun e w' => Gives w (.tuple #[.int .u64 ((dotOf64 y x n : Nat) : Int), .int .i64 0]) e w' := by
  have HF := Lib.hid fun W => F64_calls W
  have hnn : ((n : Int) != (n : Int)) = false := bne_self_eq_false _
  obtain ⟨ad, eA, hcy⟩ := hy hn1
  subst eA
  obtain ⟨ax, eB, hcx⟩ := hr hn1
  subst eB
  have HCY := Lib.hid hcy
  have HCX := Lib.hid hcx
  have HX := Lib.hid hx
  have HG := Lib.hid hg
  clear hy hr hx hg hcy hcx
  unfold formV at HF
  go_enter Try.func106, Try.ntmps106
  go_wp2
  go_loopg [6] n (fun kq v6 wr => ∃ i : Nat, v6 = .int .i64 (i : Int) ∧ i ≤ n ∧ n ≤ i + kq ∧ wr = w)
  case atStart => exact ⟨0, rfl, Nat.zero_le _, by omega, rfl⟩
  case round =>
    obtain ⟨i, rfl, hi, hik, ew⟩ := hrel
    have ew2 := ew.symm
    subst ew2
    clear ew
    by_cases hlt : i < n
    · have hltz : (i : Int) < (n : Int) := by omega
      have hb := HG.out i hlt
      have k1 := HCY.out i hlt
      obtain ⟨yi, eyi⟩ : ∃ q, q = y i := ⟨_, rfl⟩
      rw [← eyi] at hb k1
      have b1 : decide (268435456 < yi) = false := decide_eq_false (by omega)
      have b2 : decide (yi < -268435456) = false := decide_eq_false (by omega)
      clear eyi
      go_wp2
      go_roundg (n - (i + 1))
      case measure => omega
      case rel => exact ⟨i + 1, by go_num, by omega, by omega, by first | rfl | trivial⟩
    · have hltz : ¬ (i : Int) < (n : Int) := by omega
      go_upto_region 9 with (go_at_call 107; refine (HF.out _).mono ?_; rintro e1 w1 ⟨rfl, hbel⟩; have HFM : Hid (FormAt (w1.alloc (.cells #[.int .i64 52, .int .i64 11] 162)) w1.heap.size 52 11) := (show FormAt _ _ _ _ from FormAt.new w1 52 11); have HB1 := Lib.hid (ujoin hbel ((Below.refl _ _).alloc (Nat.le_refl _) (.cells #[.int .i64 52, .int .i64 11] 162))); clear hbel)
      obtain ⟨g, eg⟩ : ∃ g, g = w1.heap.size := ⟨_, rfl⟩
      rw [← eg] at HFM ⊢
      clear eg
      generalize w1.alloc (.cells #[.int .i64 52, .int .i64 11] 162) = w2 at HFM HB1 ⊢
      go_wp2
      go_loopg [8, 9] n (fun kq v8 v9 wx => ∃ k : Nat, v8 = .int .u64 ((dotOf64 y x k : Nat) : Int) ∧ v9 = .int .i64 (k : Int) ∧ k ≤ n ∧ n ≤ k + kq ∧ Aside (FormAt wx g 52 11) ∧ Aside (Below w.heap.size w wx))
      case atStart => exact ⟨0, rfl, rfl, Nat.zero_le _, by omega, HFM.out, HB1.out⟩
      case round =>
        obtain ⟨k, rfl, rfl, hk, hkq, HFk, HBk⟩ := hrel
        by_cases hkt : k < n
        · have hkz : (k : Int) < (n : Int) := by omega
          obtain ⟨yk, eyk⟩ : ∃ q : Nat, y k = q := ⟨(y k).toNat, by have := HG.out k hkt; omega⟩
          have hyk := HG.out k hkt
          rw [eyk] at hyk
          obtain ⟨xk, exk⟩ : ∃ q, q = x k := ⟨_, rfl⟩
          have hxk := HX.out k hkt
          rw [← exk] at hxk
          have k1 := (HBk.out.cell (World.block_lt_of_cell? _ _ (HCY.out k hkt))).trans (HCY.out k hkt)
          have k2 := (HBk.out.cell (World.block_lt_of_cell? _ _ (HCX.out k hkt))).trans (HCX.out k hkt)
          rw [eyk] at k1
          rw [← exk] at k2
          have HN := Lib.hid fun W => number_calls yk (by omega) W
          have HW := Lib.hid fun W => rWide_calls xk hxk W
          have hwl : wide64 xk < 18446744073709551616 := told64_lt _
          have HO : Hid (∀ W, Calls Try.prog 108 #[.agg #[.int .i64 52, .int .i64 11], .int .u64 ((wide64 xk : Nat) : Int)] W fun e w' => NumEnd W (rd64 (wide64 xk)) e w') := (show ∀ W, _ from fun W => of_calls 52 11 1075 2047 isF64 (wide64 xk) hwl W)
          have HT := Lib.hid fun (u1 u2 : Value) (W : World) (h1 : NumAt W u1 (.number false yk 0)) (h2 : NumAt W u2 (rd64 (wide64 xk))) => timesNum_calls false yk 0 (rd64 (wide64 xk)) u1 u2 W (by omega) h1 h2 ⟨Nat.le_trans ((lt_len32 yk 1).2 (by omega)) (by decide), by omega, by omega⟩ (small_read 52 11 1075 2047 isF64 (wide64 xk))
          have HR : Hid (∀ (u : Value) (W : World), NumAt W u (prodD (.number false yk 0) (rd64 (wide64 xk))) → Calls Try.prog 110 #[.agg #[.int .i64 52, .int .i64 11], u] W fun e w' => Gives W (.int .u64 ((mul64 (flt64 (yk : Int)) (wide64 xk) : Nat) : Int)) e w') := (show ∀ u W, _ → _ from fun u W h => by
            have q := round_calls 52 11 1075 2047 isF64 _ u W h (small_prod yk xk (by omega))
            rw [show toldW 52 11 2047 (prodD (.number false yk 0) (rd64 (wide64 xk))) = mul64 (flt64 (yk : Int)) (wide64 xk) from rprod_eq (by omega) (by omega) _] at q
            exact q)
          have HPD : Hid (dotOf64 y x (k + 1) = if k = 0 then mul64 (flt64 (yk : Int)) (wide64 xk) else add64 (dotOf64 y x k) (mul64 (flt64 (yk : Int)) (wide64 xk))) := (show _ = _ from by
            rw [dotOf64_succ, exk, ← eyk]
            cases k with
            | zero => rfl
            | succ k => rw [if_neg (by omega), dotOf64_succ]; rfl)
          obtain ⟨wk, ewk⟩ : ∃ q, q = wide64 xk := ⟨_, rfl⟩
          rw [← ewk] at HW HO HT HR hwl HPD
          obtain ⟨pk, epk⟩ : ∃ q, q = mul64 (flt64 (yk : Int)) wk := ⟨_, rfl⟩
          have hpk : pk < 18446744073709551616 := by rw [epk]; exact told64_lt _
          rw [← epk] at HR HPD
          obtain ⟨pd, epd⟩ : ∃ q, q = prodD (.number false yk 0) (rd64 wk) := ⟨_, rfl⟩
          rw [← epd] at HT HR
          obtain ⟨sk, esk⟩ : ∃ q, q = dotOf64 y x k := ⟨_, rfl⟩
          have hsk : sk < 18446744073709551616 := by rw [esk]; exact dotOf64_lt _ _ _
          rw [← esk] at HPD ⊢
          have HA := Lib.hid fun W => rAdd64_calls sk pk hsk hpk W
          clear ewk epk epd esk eyk exk hxk hwl hyk
          obtain ⟨c1, c2⟩ := HFk.out
          have hb := HBk.out
          go_upto_region 13 with (fail)
          go_region_held3 (fun w' => w'.cell? ⟨g, 0, none⟩ = some (.int .i64 52) ∧ w'.cell? ⟨g, 1, none⟩ = some (.int .i64 11) ∧ w'.cell? (ad.add k) = some (.int .i64 (yk : Int)) ∧ w'.cell? (ax.add k) = some (.int .u32 (xk : Int)) ∧ Below w.heap.size w w') (first | exact ⟨c1, c2, k1, k2, hb.drew⟩ | exact keep5 hbel ‹_›) (first
            | (go_at_call 128; (with_reducible refine (HN.out _).mono ?_); rintro e1 w3 ⟨u1, rfl, hu1, hbel⟩; have HU1 := Lib.hid hu1)
            | (go_at_call 129; (with_reducible refine (HW.out _).mono ?_); rintro e1 w4 ⟨rfl, hbel⟩; have HU2 := Lib.hid (HU1.out.below hbel))
            | (go_at_call 108; (with_reducible refine (HO.out _).mono ?_); rintro e1 w5 ⟨u2, rfl, hu2, hbel⟩; have HU3 := Lib.hid (HU2.out.below hbel); have HV3 := Lib.hid hu2)
            | (go_at_call 127; (with_reducible refine (HT.out u1 u2 _ HU3.out HV3.out).mono ?_); rintro e1 w6 ⟨u3, rfl, hu3, hbel⟩; have HU4 := Lib.hid hu3)
            | (go_at_call 110; (with_reducible refine (HR.out u3 _ HU4.out).mono ?_); rintro e1 w7 ⟨rfl, hbel⟩))
          rename_i hH
          have HFN : Hid (FormAt w7 g 52 11) := (show FormAt _ _ _ _ from ⟨hH.1, hH.2.1⟩)
          have HBN := Lib.hid hH.2.2.2.2
          clear hH hbel c1 c2 k1 k2 hb hu1 hu2 hu3 HU1 HU2 HU3 HV3 HU4 HN HW HO HT HR HFk HBk
          by_cases h0 : k = 0
          · subst h0
            have HPE : Hid (pk = dotOf64 y x (0 + 1)) := (show _ = _ from by rw [HPD.out, if_pos rfl])
            clear HPD
            go_wp2
            go_roundg (n - (0 + 1))
            case measure => omega
            case rel => exact ⟨0 + 1, by rw [← HPE.out], by go_num, by omega, by omega, HFN.out, HBN.out⟩
          · have h0z : ((k : Int) == 0) = false := by rw [beq_eq_false_iff_ne]; omega
            have HPE : Hid (add64 sk pk = dotOf64 y x (k + 1)) := (show _ = _ from by rw [HPD.out, if_neg h0])
            clear HPD h0
            obtain ⟨sp, esp⟩ : ∃ q, q = add64 sk pk := ⟨_, rfl⟩
            rw [← esp] at HPE HA
            clear esp
            go_wp2_with (go_at_call 130; (with_reducible refine (HA.out _).mono ?_); rintro e1 w8 ⟨rfl, hbel⟩; have HFN2 := Lib.hid (HFN.out.below hbel); have HBN2 := Lib.hid (ujoin HBN.out hbel); clear hbel)
            go_roundg (n - (k + 1))
            case measure => omega
            case rel => exact ⟨k + 1, by rw [← HPE.out], by go_num, by omega, by omega, HFN2.out, HBN2.out⟩
        · have hkz : ¬ (k : Int) < (n : Int) := by omega
          have hkn : k = n := by omega
          subst hkn
          have HBL := Lib.hid HBk.out
          obtain ⟨sk, esk⟩ : ∃ q, q = dotOf64 y x k := ⟨_, rfl⟩
          have ESK : Hid (dotOf64 y x k = sk) := (show _ = _ from esk.symm)
          rw [← esk]
          clear esk HBk HFk
          go_wp2
          go_ret2
          exact ⟨by rw [ESK.out]; rfl, HBL.out⟩
/-- The exponent sixteen less, in a number's box. -/
theorem sixteen_at {W : World} {k : Int} {s : Bool} {A : Option Addr} {n c : Nat} {e e6 : Int} {b : Bool} {d : Ieee.Datum} (h : NumAt W (numV k s A n c e b) d) (hd : Small d) (he : IntKind.i64.wrap (e - 16) = e6) : NumAt W (numV k s A n c e6 b) (sixteenD d) := by
  cases d with
  | nan s' t =>
    obtain ⟨s2, A', n', c', e', b', h⟩ := h
    unfold numV at h
    simp only [Value.agg.injEq, Array.mk.injEq, List.cons.injEq, Value.int.injEq, Value.bool.injEq, Value.slice.injEq, true_and, and_true] at h
    obtain ⟨rfl, _⟩ := h
    exact ⟨_, _, _, _, _, _, rfl⟩
  | infinity s' =>
    obtain ⟨A', n', c', e', b', h⟩ := h
    unfold numV at h
    simp only [Value.agg.injEq, Array.mk.injEq, List.cons.injEq, Value.int.injEq, Value.bool.injEq, Value.slice.injEq, true_and, and_true] at h
    obtain ⟨rfl, rfl, _⟩ := h
    exact ⟨_, _, _, _, _, rfl⟩
  | number s' m p =>
    obtain ⟨A', c', h, hn⟩ := h
    unfold numV at h
    simp only [Value.agg.injEq, Array.mk.injEq, List.cons.injEq, Value.int.injEq, Value.bool.injEq, Value.slice.injEq, true_and, and_true] at h
    obtain ⟨rfl, rfl, ⟨rfl, rfl, rfl⟩, rfl, rfl⟩ := h
    have h2 := hd.2
    rw [IntWalk.i64_in _ (by omega)] at he
    subst he
    exact ⟨_, _, rfl, hn⟩
theorem FormAt.far {w : World} {g fr ex : Nat} (h : FormAt w g fr ex) (p : Addr) (v : Value) (hp : p.block ≠ g) : FormAt (w.setCell p v) g fr ex :=
  ⟨(World.cell?_setCell_far _ _ _ _ hp).trans h.1, (World.cell?_setCell_far _ _ _ _ hp).trans h.2⟩
set_option maxHeartbeats 3200000 in
set_option maxRecDepth 100000 in
theorem rDot_calls (w : World) (A B : Option Addr) (n c d : Nat) (y : Nat → Int) (x : Nat → Nat) (hy : RowZ w A n y) (hr : RowU w B n x) (hn1 : 1 ≤ n) (hn : n ≤ 1000000) (hx : ∀ k, k < n → x k < 4294967296) (hg : ∀ k, k < n → 1 ≤ y k ∧ y k < 131072) :
    Calls Try.prog 70 #[.slice A n c, .slice B n d] w fun e w' => Gives w (.tuple #[.int .u32 ((dotOf y x n : Nat) : Int), .int .i64 0]) e w' := by
  have HD := Lib.hid (rDot64_calls w A B n c d y x hy hr hn1 hn hx hg)
  obtain ⟨s, es⟩ : ∃ q, q = dotOf64 y x n := ⟨_, rfl⟩
  have hs : s < 18446744073709551616 := by rw [es]; exact dotOf64_lt _ _ _
  have HF := Lib.hid fun W => F64_calls W
  have HO : Hid (∀ W, Calls Try.prog 108 #[.agg #[.int .i64 52, .int .i64 11], .int .u64 (s : Int)] W fun e w' => NumEnd W (rd64 s) e w') := (show ∀ W, _ from fun W => of_calls 52 11 1075 2047 isF64 s hs W)
  have HR : Hid (∀ (u : Value) (W : World), NumAt W u (sixteenD (rd64 s)) → Calls Try.prog 110 #[.agg #[.int .i64 52, .int .i64 11], u] W fun e w' => Gives W (.int .u64 ((div64 s k65536 : Nat) : Int)) e w') := (show ∀ u W, _ → _ from fun u W h => by
    have q := round_calls 52 11 1075 2047 isF64 _ u W h (small_sixteen s)
    rw [show toldW 52 11 2047 (sixteenD (rd64 s)) = div64 s k65536 from rdiv_eq s] at q
    exact q)
  have HSM : Hid (Small (rd64 s)) := (show Small _ from small_read 52 11 1075 2047 isF64 s)
  obtain ⟨b, eb⟩ : ∃ q, q = div64 s k65536 := ⟨_, rfl⟩
  have hb : b < 18446744073709551616 := by rw [eb]; exact told64_lt _
  rw [← eb] at HR
  have HN := Lib.hid fun W => rNarrow_calls b hb W
  have HE : Hid (told32 (rd64 b) = dotOf y x n) := (show _ = _ from by rw [eb, es]; rfl)
  obtain ⟨v, ev⟩ : ∃ q, q = told32 (rd64 b) := ⟨_, rfl⟩
  rw [← ev] at HN HE
  rw [← HE.out]
  rw [← es] at HD
  unfold formV at HF
  clear hy hr hx hg es hs eb hb ev
  go_enter Try.func70, Try.ntmps70
  go_upto_region 5 with (first
    | (go_at_call 106; refine HD.out.mono ?_; rintro e1 w1 ⟨rfl, hbel⟩; have HB1 := Lib.hid hbel; clear hbel)
    | (go_at_call 107; refine (HF.out _).mono ?_; rintro e1 w2 ⟨rfl, hbel⟩; have HFM : Hid (FormAt (w2.alloc (.cells #[.int .i64 52, .int .i64 11] 162)) w2.heap.size 52 11) := (show FormAt _ _ _ _ from FormAt.new w2 52 11); have HB2 := Lib.hid (ujoin (ujoin HB1.out hbel) ((Below.refl _ _).alloc (Nat.le_refl _) (.cells #[.int .i64 52, .int .i64 11] 162))); have HG2 : Hid (w2.heap.size < (w2.alloc (.cells #[.int .i64 52, .int .i64 11] 162)).heap.size) := (show _ < _ from by rw [World.size_alloc]; omega); clear hbel))
  obtain ⟨g, eg⟩ : ∃ g, g = w2.heap.size := ⟨_, rfl⟩
  rw [← eg] at HFM HG2 ⊢
  clear eg HD HF
  generalize w2.alloc (.cells #[.int .i64 52, .int .i64 11] 162) = w3 at HFM HB2 HG2 ⊢
  obtain ⟨c1, c2⟩ := HFM.out
  go_upto_region 6 with (go_at_call 108; refine (HO.out _).mono ?_; rintro e1 w5 ⟨u, rfl, hu, hbel⟩; obtain ⟨k', s', A', n', c', e', b', rfl⟩ := hu.form; have hal := (Below.refl w5.heap.size w5).alloc (Nat.le_refl _) (.cells #[.int .i64 k', .bool s', .slice A' n' c', .int .i64 e', .bool b'] 166); have HU5 := Lib.hid hu; have HF5 := Lib.hid ((HFM.out.below hbel).below hal); have HB5 := Lib.hid (ujoin HB2.out hbel); have HX5 := Lib.hid (heap_alloc_new w5 (.cells #[.int .i64 k', .bool s', .slice A' n' c', .int .i64 e', .bool b'] 166)); have HAL := Lib.hid hal; have HG5 : Hid (g < w5.heap.size) := (show _ < _ from by have := hbel.size; have := HG2.out; omega); clear hu hbel hal c1 c2; unfold numV)
  obtain ⟨e6, ee6⟩ : ∃ q, IntKind.i64.wrap (e' - 16) = q := ⟨_, rfl⟩
  have HU6 := Lib.hid (sixteen_at HU5.out HSM.out ee6)
  obtain ⟨g9, eg9⟩ : ∃ g, g = w5.heap.size := ⟨_, rfl⟩
  have HALL : Hid (∀ v : Value, Below w5.heap.size w5 ((w5.alloc (.cells #[.int .i64 k', .bool s', .slice A' n' c', .int .i64 e', .bool b'] 166)).setCell ⟨g9, 3, none⟩ v)) := (show ∀ v, _ from fun v => HAL.out.setCell (p := ⟨g9, 3, none⟩) (by show w5.heap.size ≤ g9; omega) v)
  rw [← eg9] at HX5 HG5 ⊢
  clear HAL HU5 HFM eg9
  generalize w5.alloc (.cells #[.int .i64 k', .bool s', .slice A' n' c', .int .i64 e', .bool b'] 166) = w6 at HF5 HX5 HALL ⊢
  have x3 := ucell HX5.out 3
  have f3 := ufree HX5.out 3
  go_upto_region 7 with (fail)
  have HX7 : Hid ((w6.setCell ⟨g9, 3, none⟩ (.int .i64 e6)).heap[g9]? = some (.cells #[.int .i64 k', .bool s', .slice A' n' c', .int .i64 e6, .bool b'] 166 (0, 0))) := (show _ = _ from blk_put HX5.out 3 (.int .i64 e6) rfl)
  have HF7 := Lib.hid (HF5.out.far ⟨g9, 3, none⟩ (.int .i64 e6) (by have := HG5.out; show g9 ≠ g; omega))
  have HU7 := Lib.hid (HU6.out.below (HALL.out (.int .i64 e6)))
  have HB7 := Lib.hid (ujoin HB5.out (HALL.out (.int .i64 e6)))
  clear x3 f3 HF5 HX5 HALL HU6 HB5 ee6
  generalize w6.setCell ⟨g9, 3, none⟩ (.int .i64 e6) = w7 at HX7 HF7 HU7 HB7 ⊢
  obtain ⟨c1, c2⟩ := HF7.out
  have x0 := ucell HX7.out 0
  have x1 := ucell HX7.out 1
  have x2 := ucell HX7.out 2
  have x3 := ucell HX7.out 3
  have x4 := ucell HX7.out 4
  unfold numV at HU7
  go_wp2_with (first
    | (go_at_call 110; refine (HR.out _ _ HU7.out).mono ?_; rintro e1 w8 ⟨rfl, hbel⟩; have HB8 := Lib.hid (ujoin HB7.out hbel); clear hbel)
    | (go_at_call 109; refine (HN.out _).mono ?_; rintro e1 w9 ⟨rfl, hbel⟩; have HB9 := Lib.hid (ujoin HB8.out hbel); clear hbel))
  go_ret2
  exact ⟨rfl, HB9.out⟩
end Go.Proofs.Ytdcpeeolfgohmaa
