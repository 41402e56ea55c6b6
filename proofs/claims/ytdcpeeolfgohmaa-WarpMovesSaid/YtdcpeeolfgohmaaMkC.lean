/- plane.maker.made over the functions that Turn and Flip lay. -/
import Derived.Test.YtdcpeeolfgohmaaMkB
namespace Go.Proofs.Ytdcpeeolfgohmaa
open Go.RowKit Go.Proofs.YtdcpeeolfgohmaaW.PrintWords
set_option linter.unusedSimpArgs false
set_option linter.unusedVariables false
attribute [local go_sem] Oper.semAt_some

set_option maxHeartbeats 6400000 in
set_option maxRecDepth 100000 in
theorem mkmade_turn (w0 : World) (w h : Int) (pa pb : Nat) (z : Nat → Nat → Nat) (hs : sizeB w h = true)
    (HF : ∀ W (i j : Nat), Below w0.heap.size w0 W → (i : Int) < w → (j : Int) < h → Calls Try.prog 77 #[.int .i64 (i : Int), .int .i64 (j : Int), .pointer (some ⟨pa, 0, none⟩), .pointer (some ⟨pb, 0, none⟩)] W fun e w' => e = .returned (.int .u32 ((z i j : Nat) : Int)) ∧ W = w') :
    Calls Try.prog 116 #[.agg #[.int .i64 w, .int .i64 h, .func (.func 77) #[] #[.pointer (some ⟨pa, 0, none⟩), .pointer (some ⟨pb, 0, none⟩)]]] w0 fun e w' => MadeEnd w0 w h z e w' := by
  obtain ⟨a1, a2, a3, a4, a5, a6⟩ := sizeB_in hs
  obtain ⟨wn, rfl⟩ := Int.eq_ofNat_of_zero_le (by omega : 0 ≤ w)
  obtain ⟨hn, rfl⟩ := Int.eq_ofNat_of_zero_le (by omega : 0 ≤ h)
  obtain ⟨N, eN⟩ : ∃ N, N = wn * hn := ⟨_, rfl⟩
  have HF1 := Lib.hid HF
  have hm := fun W => pl_make N (by rw [eN]; have : ((wn * hn : Nat) : Int) ≤ 65536 := by rw [Int.natCast_mul]; omega
                                    omega) W
  have WP : IntKind.i64.wrap ((wn : Int) * (hn : Int)) = (N : Int) := by rw [eN, Int.natCast_mul]; exact IntWalk.i64_in _ (by omega)
  have hN : N ≤ 65536 := by
    have : ((wn * hn : Nat) : Int) ≤ 65536 := by rw [Int.natCast_mul]; omega
    omega
  have EN := Lib.hid eN
  have hw1 : 1 ≤ wn ∧ wn ≤ 1024 := by omega
  have hh1 : 1 ≤ hn ∧ hn ≤ 1024 := by omega
  have b1 := heap_alloc_new w0 (.cells #[.int .i64 (wn : Int), .int .i64 (hn : Int), .func (.func 77) #[] #[.pointer (some ⟨pa, 0, none⟩), .pointer (some ⟨pb, 0, none⟩)]] 132)
  obtain ⟨w1, e1⟩ : ∃ w1, w1 = w0.alloc (.cells #[.int .i64 (wn : Int), .int .i64 (hn : Int), .func (.func 77) #[] #[.pointer (some ⟨pa, 0, none⟩), .pointer (some ⟨pb, 0, none⟩)]] 132) := ⟨_, rfl⟩
  rw [← e1] at b1
  have b2 := heap_alloc_new w1 (.cells #[.int .i64 0, .int .i64 0, .slice none 0 0] 55)
  have s1 : w1.heap.size = w0.heap.size + 1 := by rw [e1, World.size_alloc]
  have B1 : Below w0.heap.size w0 w1 := by rw [e1]; exact (Below.refl _ _).alloc (Nat.le_refl _) _
  have B2 := (Below.refl w1.heap.size w1).alloc (Nat.le_refl _) (.cells #[.int .i64 0, .int .i64 0, .slice none 0 0] 55)
  have b1' := (B2.block _ (heap_lt' b1)).trans b1
  obtain ⟨w2, e2⟩ : ∃ w2, w2 = w1.alloc (.cells #[.int .i64 0, .int .i64 0, .slice none 0 0] 55) := ⟨_, rfl⟩
  rw [← e2] at b2 B2 b1'
  have s2 : w2.heap.size = w0.heap.size + 2 := by rw [e2, World.size_alloc, s1]
  rw [s1] at b2
  have m0 := ucell b1' 0
  have m1 := ucell b1' 1
  have HS0 : Hid (w2.heap[w0.heap.size]? = some (.cells #[.int .i64 (wn : Int), .int .i64 (hn : Int), .func (.func 77) #[] #[.pointer (some ⟨pa, 0, none⟩), .pointer (some ⟨pb, 0, none⟩)]] 132 (0, 0)) ∧ w2.heap[w0.heap.size + 1]? = some (.cells #[.int .i64 0, .int .i64 0, .slice none 0 0] 55 (0, 0)) ∧ Below w0.heap.size w0 w2 ∧ w2.heap.size = w0.heap.size + 2) := (show _ ∧ _ from ⟨b1', b2, ujoin B1 B2, s2⟩)
  have HE2 := Lib.hid e2
  have HE1 := Lib.hid e1
  clear HF hs eN a1 a2 a3 a4 a5 a6 e1 e2 b1 b2 s1 s2 B1 B2 b1'
  go_enter Try.func116, Try.ntmps116
  go_upto_region 1 with (fail)
  rw [← HE1.out, ← HE2.out]

  go_cut [3] (fun v3 wc => ∃ g3 v, v3 = .pointer (some ⟨g3, 0, none⟩) ∧ Hid (MkL w0 (wn : Int) (hn : Int) (.func (.func 77) #[] #[.pointer (some ⟨pa, 0, none⟩), .pointer (some ⟨pb, 0, none⟩)]) w0.heap.size (w0.heap.size + 1) g3 v [] wc))
  case first =>
    obtain ⟨P, eP⟩ : ∃ P, P = Obj.cells #[.int .i64 0, .int .i64 0, .slice none 0 0] 55 := ⟨_, rfl⟩
    obtain ⟨R, eR⟩ : ∃ R, R = Obj.cells (madeCells #[.int .u32 0] N) 65 := ⟨_, rfl⟩
    have kp : ∀ (W : World) (o : Obj) (a : Addr) (x : Value), W.cell? a = some x → (W.alloc o).cell? a = some x := fun W o a x hx => (((Below.refl W.heap.size W).alloc (Nat.le_refl _) o).cell (World.block_lt_of_cell? _ _ hx)).trans hx
    have p0 := kp _ P _ _ m0
    have p1 := kp _ P _ _ m1
    have r0 := kp _ R _ _ m0
    have r1 := kp _ R _ _ m1
    have pr0 := kp _ R _ _ p0
    have pr1 := kp _ R _ _ p1
    have rp0 := kp _ P _ _ r0
    have rp1 := kp _ P _ _ r1
    rw [eP] at p0 p1 pr0 pr1 rp0 rp1
    rw [eR] at r0 r1 pr0 pr1 rp0 rp1
    have q0 := heap_alloc_new w2 P
    rw [eP] at q0
    have q1 := ucell q0 0
    have q2 := ucell q0 1
    have q3 := ucell q0 2
    have t1 := kp _ R _ _ q1
    have t2 := kp _ R _ _ q2
    have t3 := kp _ R _ _ q3
    rw [eR] at t1 t2 t3
    clear kp q0 eP eR
    go_region
    all_goals go_wp2_with fail
    all_goals go_meet
    all_goals
      case rel => first
        | exact ⟨_, _, rfl, (show MkL _ _ _ _ _ _ _ _ _ _ from mk_start1 hN HS0.out)⟩
        | exact ⟨_, _, rfl, (show MkL _ _ _ _ _ _ _ _ _ _ from mk_start2 hN HS0.out)⟩
  case rest =>
    obtain ⟨g3, v, rfl, HL⟩ := hcut
    have z1 := ucell HL.out.mb 1
    clear m0 m1 HS0 HE1 HE2 hm WP
    go_wp2
    go_loopg [19] hn (fun kq v19 wr => ∃ (y : Nat) (v : Value), v19 = .int .i64 (y : Int) ∧ y ≤ hn ∧ hn ≤ y + kq ∧ Hid (MkL w0 (wn : Int) (hn : Int) (.func (.func 77) #[] #[.pointer (some ⟨pa, 0, none⟩), .pointer (some ⟨pb, 0, none⟩)]) w0.heap.size (w0.heap.size + 1) g3 v (mkRow z wn (y * wn)) wr))
    case atStart => exact ⟨0, v, rfl, by omega, by omega, (show MkL _ _ _ _ _ _ _ _ _ _ from by rw [Nat.zero_mul]; exact HL.out)⟩
    case round =>
      obtain ⟨y, v1, rfl, hy, hk, HY⟩ := hrel
      by_cases hlt : y < hn
      · have hltz : (y : Int) < (hn : Int) := by omega
        have y0 := ucell HY.out.mb 0
        go_wp2
        go_loopg [24] wn (fun kr v24 wx => ∃ (x : Nat) (v : Value), v24 = .int .i64 (x : Int) ∧ x ≤ wn ∧ wn ≤ x + kr ∧ Hid (MkL w0 (wn : Int) (hn : Int) (.func (.func 77) #[] #[.pointer (some ⟨pa, 0, none⟩), .pointer (some ⟨pb, 0, none⟩)]) w0.heap.size (w0.heap.size + 1) g3 v (mkRow z wn (y * wn + x)) wx))
        case atStart => exact ⟨0, v1, rfl, by omega, by omega, HY.out⟩
        case round =>
          obtain ⟨x, v2, rfl, hx, hk2, HX⟩ := hrel
          by_cases hlt2 : x < wn
          · have hlt2z : (x : Int) < (wn : Int) := by omega
            have x2 := ucell HX.out.mb 2
            have x3 := ucell HX.out.pb 2
            have x4 : wr.frozen? ⟨g3, 2, none⟩ = false := ufree HX.out.pb 2
            have HC := Lib.hid fun W hb => HF1.out W x y hb hlt2z hltz
            have HR := Lib.hid (mkRow_next z wn y x hlt2)
            have hxy : y * wn + x ≤ 65536 := by
              have h1 := Nat.mul_le_mul_right wn (show y + 1 ≤ hn by omega)
              have h2 := EN.out
              rw [Nat.mul_comm] at h2
              rw [Nat.add_mul] at h1
              omega
            obtain ⟨A, n0, c0, e0⟩ := HX.out.ro.sl
            subst e0
            obtain ⟨u, eu⟩ : ∃ u, u = z x y := ⟨_, rfl⟩
            rw [← eu] at HC HR
            clear eu
            go_upto_region 8 with (fail)
            refine wp_region_any (by kernel_rfl) ?_
            change wpAny _ _ _ _ _ _ _ wr.drew
            have hS : MkS w0.heap.size g3 (.func (.func 77) #[] #[.pointer (some ⟨pa, 0, none⟩), .pointer (some ⟨pb, 0, none⟩)]) (.slice A n0 c0) wr.drew := ⟨x3, x2⟩
            have HX9 : Hid (MkL w0 (wn : Int) (hn : Int) (.func (.func 77) #[] #[.pointer (some ⟨pa, 0, none⟩), .pointer (some ⟨pb, 0, none⟩)]) w0.heap.size (w0.heap.size + 1) g3 (.slice A n0 c0) (mkRow z wn (y * wn + x)) wr.drew) := (show MkL _ _ _ _ _ _ _ _ _ _ from HX.out.below (Below.refl wr.heap.size wr).drew)
            have HLT : Hid (∀ k, (Value.slice A n0 c0).ownBlock = some k → w0.heap.size ≤ k) := (show ∀ _, _ → _ from fun k hk => (HX.out.ro.lt k hk).1)
            clear HX x2 x3 x4
            generalize wr.drew = V0 at HX9 hS ⊢
            refine wpAny_of_K (S := MkS w0.heap.size g3 (.func (.func 77) #[] #[.pointer (some ⟨pa, 0, none⟩), .pointer (some ⟨pb, 0, none⟩)]) (.slice A n0 c0)) (T := [8, 9, 10]) _ _ _ _ ?_
            refine wpAnyK_take [1, 8, 9, 10] (i := 0) (v := ?_) rfl (by kernel_rfl) (by kernel_rfl) (by kernel_rfl) (by kernel_rfl) (fun _ _ _ h => h) (Or.inl ⟨by rfl, ?_⟩) hS ?_
            rotate_left
            · intro W' hSw; obtain ⟨s3, s4⟩ := hSw; go_simp; try (with_reducible rfl)
            simp only [Act.put, List.setIfInBounds_toArray, List.set_cons_zero, List.set_cons_succ]
            refine wpAnyK_take [8, 9, 10] (i := 1) (v := ?_) rfl (by kernel_rfl) (by kernel_rfl) (by kernel_rfl) (by kernel_rfl) (fun _ _ _ h => h) (Or.inl ⟨by rfl, ?_⟩) hS ?_
            rotate_left
            · intro W' hSw; obtain ⟨s3, s4⟩ := hSw; go_simp; try (with_reducible rfl)
            simp only [Act.put, List.setIfInBounds_toArray, List.set_cons_zero, List.set_cons_succ]
            refine wpAnyK_take [3, 6, 7, 8, 9, 10] (i := 2) (v := ?_) rfl (by kernel_rfl) (by kernel_rfl) (by kernel_rfl) (by kernel_rfl) (fun _ _ _ h => h) (Or.inl ⟨by rfl, ?_⟩) hS ?_
            rotate_left
            · intro W' hSw; obtain ⟨s3, s4⟩ := hSw; go_simp; try (with_reducible rfl)
            simp only [Act.put, List.setIfInBounds_toArray, List.set_cons_zero, List.set_cons_succ]
            refine wpAnyK_take [6, 7, 8, 9, 10] (i := 3) (v := ?_) rfl (by kernel_rfl) (by kernel_rfl) (by kernel_rfl) (by kernel_rfl) (fun _ _ _ h => h) (Or.inl ⟨by rfl, ?_⟩) hS ?_
            rotate_left
            · intro W' hSw; obtain ⟨s3, s4⟩ := hSw; go_simp; try (with_reducible rfl)
            simp only [Act.put, List.setIfInBounds_toArray, List.set_cons_zero, List.set_cons_succ]
            refine wpAnyK_take [6, 7, 8, 9, 10] (i := 4) (v := ?_) rfl (by kernel_rfl) (by kernel_rfl) (by kernel_rfl) (by kernel_rfl) (fun _ _ _ h => h) (Or.inl ⟨by rfl, ?_⟩) hS ?_
            rotate_left
            · intro W' hSw; obtain ⟨s3, s4⟩ := hSw; go_simp; try (with_reducible rfl)
            simp only [Act.put, List.setIfInBounds_toArray, List.set_cons_zero, List.set_cons_succ]
            refine wpAnyK_take [6, 7, 8, 9, 10] (i := 5) (v := ?_) rfl (by kernel_rfl) (by kernel_rfl) (by kernel_rfl) (by kernel_rfl) (fun _ _ _ h => h) (Or.inl ⟨by rfl, ?_⟩) hS ?_
            rotate_left
            · intro W' hSw; obtain ⟨s3, s4⟩ := hSw; go_simp; try (with_reducible rfl)
            simp only [Act.put, List.setIfInBounds_toArray, List.set_cons_zero, List.set_cons_succ]
            refine wpAnyK_ready (rs := [6]) (by kernel_rfl) (by simp) (ReadyK.cons rfl (fun K hK => ?_) ReadyK.nil)
            rw [if_pos (by rfl)]
            go_simp
            refine (HC.out _ HX9.out.be).mono ?_
            rintro e1 w5 ⟨rfl, rfl⟩
            refine hK.out _ _ (fun _ => hS) ?_
            clear hK K
            have hx1 := HX9.out.below ((Below.refl V0.heap.size V0).alloc (Nat.le_refl _) (.cells #[.int .u32 (u : Int)] 65))
            refine wpAnyK_ready (rs := [7]) (by kernel_rfl) (by simp) (ReadyK.cons rfl (fun K hK => ?_) ReadyK.nil)
            rw [if_pos (by rfl)]
            go_simp
            refine hK.out _ _ (fun _ => ⟨ucell hx1.pb 2, ucell hx1.mb 2⟩) ?_
            clear hK K
            obtain ⟨v', V', hrun, p1, p2, p3⟩ := own_push_c oneU32 53 _ w0.heap.size _ _ hx1.ro hx1.be.size (by rw [mkRow_len]; omega) ⟨V0.heap.size, 0, none⟩ 1 (.int .u32 (u : Int)) (ucell (heap_alloc_new V0 _) 0) rfl
            rw [← HR.out] at p1
            have HX3 := Lib.hid (hx1.push p1 p2 p3 HLT.out)
            have hb6 := p2.block g3 (heap_lt' hx1.pb) (fun e => hx1.na.2.2 e.symm)
            have c2' : V'.cell? ⟨g3, 2, none⟩ = some (.slice A n0 c0) := ucell (hb6.trans hx1.pb) 2
            have f2' : V'.frozen? ⟨g3, 2, none⟩ = false := ufree (hb6.trans hx1.pb) 2
            obtain ⟨A9, n9, c9, e9⟩ := p1.sl
            subst e9
            clear p1 p2 p3 hb6 hx1 HX9
            refine wpAnyK_ready (rs := [8]) (by kernel_rfl) (by simp) (ReadyK.cons rfl (fun K hK => ?_) ReadyK.nil)
            rw [if_pos (by rfl)]
            refine Go.Lib.wp_append_run _ _ _ 53 53 rfl _ _ rfl rfl _ V' hrun ?_
            simp only [Act.put, List.setIfInBounds_toArray, List.set_cons_zero, List.set_cons_succ]
            refine hK.out _ _ (fun h => absurd h (by decide)) ?_
            clear hK K hrun
            refine wpAnyK_ready (rs := [9]) (by kernel_rfl) (by simp) (ReadyK.cons rfl (fun K hK => ?_) ReadyK.nil)
            rw [if_pos (by rfl)]
            go_simp
            refine hK.out _ _ (fun h => absurd h (by decide)) ?_
            clear hK K
            refine wpAnyK_ready (rs := [10]) (by kernel_rfl) (by simp) (ReadyK.cons rfl (fun K hK => ?_) ReadyK.nil)
            rw [if_pos (by rfl)]
            go_simp
            refine hK.out _ _ (fun h => absurd h (by decide)) ?_
            clear hK K
            refine wpAnyK_done (by kernel_rfl) ?_ _
            go_wp2
            go_roundg (wn - (x + 1))
            case measure => omega
            case rel => exact ⟨x + 1, _, by go_num, by omega, by omega, HX3.out⟩
          · have hlt2z : ¬ (x : Int) < (wn : Int) := by omega
            have e : x = wn := by omega
            subst e
            have HX1 : Hid (MkL w0 (x : Int) (hn : Int) (.func (.func 77) #[] #[.pointer (some ⟨pa, 0, none⟩), .pointer (some ⟨pb, 0, none⟩)]) w0.heap.size (w0.heap.size + 1) g3 v2 (mkRow z x ((y + 1) * x)) wr) := (show MkL _ _ _ _ _ _ _ _ _ _ from by rw [Nat.add_mul, Nat.one_mul]; exact HX.out)
            go_wp2
            go_roundg (hn - (y + 1))
            case measure => omega
            case rel => exact ⟨y + 1, v2, by go_num, by omega, by omega, HX1.out⟩
      · have hltz : ¬ (y : Int) < (hn : Int) := by omega
        have e : y = hn := by omega
        subst e
        obtain ⟨A, n0, c0, e0⟩ := HY.out.ro.sl
        subst e0
        have f0 := ucell HY.out.pb 0
        have f1 := ucell HY.out.pb 1
        have f2 := ucell HY.out.pb 2
        obtain ⟨d1, d2, d3, d4, d5, d6⟩ := st3 HY.out.ou (.int .i64 (wn : Int)) (.int .i64 (y : Int))
        have d7 := st3_end (x := .int .i64 (wn : Int)) (y := .int .i64 (y : Int)) (z := .slice A n0 c0) HY.out.ou
        have d8 := ucell d7 0
        have d9 := ucell d7 1
        have d10 := ucell d7 2
        clear d7
        have HE := Lib.hid (made_end HY.out)
        have H3 := Lib.hid (st3_end (x := .int .i64 (wn : Int)) (y := .int .i64 (y : Int)) (z := .slice A n0 c0) HY.out.ou)
        go_wp2
        refine bodyPost_ret (results_cell_row rfl _ _ (w0.heap.size + 1) 55 _ (0, 0) _ rfl H3.out Try.underlying55 rfl (by kernel_rfl)) rfl ?_
        exact HE.out

set_option maxHeartbeats 6400000 in
set_option maxRecDepth 100000 in
theorem mkmade_flip (w0 : World) (w h : Int) (pa pb : Nat) (z : Nat → Nat → Nat) (hs : sizeB w h = true)
    (HF : ∀ W (i j : Nat), Below w0.heap.size w0 W → (i : Int) < w → (j : Int) < h → Calls Try.prog 81 #[.int .i64 (i : Int), .int .i64 (j : Int), .pointer (some ⟨pa, 0, none⟩), .pointer (some ⟨pb, 0, none⟩)] W fun e w' => e = .returned (.int .u32 ((z i j : Nat) : Int)) ∧ W = w') :
    Calls Try.prog 116 #[.agg #[.int .i64 w, .int .i64 h, .func (.func 81) #[] #[.pointer (some ⟨pa, 0, none⟩), .pointer (some ⟨pb, 0, none⟩)]]] w0 fun e w' => MadeEnd w0 w h z e w' := by
  obtain ⟨a1, a2, a3, a4, a5, a6⟩ := sizeB_in hs
  obtain ⟨wn, rfl⟩ := Int.eq_ofNat_of_zero_le (by omega : 0 ≤ w)
  obtain ⟨hn, rfl⟩ := Int.eq_ofNat_of_zero_le (by omega : 0 ≤ h)
  obtain ⟨N, eN⟩ : ∃ N, N = wn * hn := ⟨_, rfl⟩
  have HF1 := Lib.hid HF
  have hm := fun W => pl_make N (by rw [eN]; have : ((wn * hn : Nat) : Int) ≤ 65536 := by rw [Int.natCast_mul]; omega
                                    omega) W
  have WP : IntKind.i64.wrap ((wn : Int) * (hn : Int)) = (N : Int) := by rw [eN, Int.natCast_mul]; exact IntWalk.i64_in _ (by omega)
  have hN : N ≤ 65536 := by
    have : ((wn * hn : Nat) : Int) ≤ 65536 := by rw [Int.natCast_mul]; omega
    omega
  have EN := Lib.hid eN
  have hw1 : 1 ≤ wn ∧ wn ≤ 1024 := by omega
  have hh1 : 1 ≤ hn ∧ hn ≤ 1024 := by omega
  have b1 := heap_alloc_new w0 (.cells #[.int .i64 (wn : Int), .int .i64 (hn : Int), .func (.func 81) #[] #[.pointer (some ⟨pa, 0, none⟩), .pointer (some ⟨pb, 0, none⟩)]] 132)
  obtain ⟨w1, e1⟩ : ∃ w1, w1 = w0.alloc (.cells #[.int .i64 (wn : Int), .int .i64 (hn : Int), .func (.func 81) #[] #[.pointer (some ⟨pa, 0, none⟩), .pointer (some ⟨pb, 0, none⟩)]] 132) := ⟨_, rfl⟩
  rw [← e1] at b1
  have b2 := heap_alloc_new w1 (.cells #[.int .i64 0, .int .i64 0, .slice none 0 0] 55)
  have s1 : w1.heap.size = w0.heap.size + 1 := by rw [e1, World.size_alloc]
  have B1 : Below w0.heap.size w0 w1 := by rw [e1]; exact (Below.refl _ _).alloc (Nat.le_refl _) _
  have B2 := (Below.refl w1.heap.size w1).alloc (Nat.le_refl _) (.cells #[.int .i64 0, .int .i64 0, .slice none 0 0] 55)
  have b1' := (B2.block _ (heap_lt' b1)).trans b1
  obtain ⟨w2, e2⟩ : ∃ w2, w2 = w1.alloc (.cells #[.int .i64 0, .int .i64 0, .slice none 0 0] 55) := ⟨_, rfl⟩
  rw [← e2] at b2 B2 b1'
  have s2 : w2.heap.size = w0.heap.size + 2 := by rw [e2, World.size_alloc, s1]
  rw [s1] at b2
  have m0 := ucell b1' 0
  have m1 := ucell b1' 1
  have HS0 : Hid (w2.heap[w0.heap.size]? = some (.cells #[.int .i64 (wn : Int), .int .i64 (hn : Int), .func (.func 81) #[] #[.pointer (some ⟨pa, 0, none⟩), .pointer (some ⟨pb, 0, none⟩)]] 132 (0, 0)) ∧ w2.heap[w0.heap.size + 1]? = some (.cells #[.int .i64 0, .int .i64 0, .slice none 0 0] 55 (0, 0)) ∧ Below w0.heap.size w0 w2 ∧ w2.heap.size = w0.heap.size + 2) := (show _ ∧ _ from ⟨b1', b2, ujoin B1 B2, s2⟩)
  have HE2 := Lib.hid e2
  have HE1 := Lib.hid e1
  clear HF hs eN a1 a2 a3 a4 a5 a6 e1 e2 b1 b2 s1 s2 B1 B2 b1'
  go_enter Try.func116, Try.ntmps116
  go_upto_region 1 with (fail)
  rw [← HE1.out, ← HE2.out]

  go_cut [3] (fun v3 wc => ∃ g3 v, v3 = .pointer (some ⟨g3, 0, none⟩) ∧ Hid (MkL w0 (wn : Int) (hn : Int) (.func (.func 81) #[] #[.pointer (some ⟨pa, 0, none⟩), .pointer (some ⟨pb, 0, none⟩)]) w0.heap.size (w0.heap.size + 1) g3 v [] wc))
  case first =>
    obtain ⟨P, eP⟩ : ∃ P, P = Obj.cells #[.int .i64 0, .int .i64 0, .slice none 0 0] 55 := ⟨_, rfl⟩
    obtain ⟨R, eR⟩ : ∃ R, R = Obj.cells (madeCells #[.int .u32 0] N) 65 := ⟨_, rfl⟩
    have kp : ∀ (W : World) (o : Obj) (a : Addr) (x : Value), W.cell? a = some x → (W.alloc o).cell? a = some x := fun W o a x hx => (((Below.refl W.heap.size W).alloc (Nat.le_refl _) o).cell (World.block_lt_of_cell? _ _ hx)).trans hx
    have p0 := kp _ P _ _ m0
    have p1 := kp _ P _ _ m1
    have r0 := kp _ R _ _ m0
    have r1 := kp _ R _ _ m1
    have pr0 := kp _ R _ _ p0
    have pr1 := kp _ R _ _ p1
    have rp0 := kp _ P _ _ r0
    have rp1 := kp _ P _ _ r1
    rw [eP] at p0 p1 pr0 pr1 rp0 rp1
    rw [eR] at r0 r1 pr0 pr1 rp0 rp1
    have q0 := heap_alloc_new w2 P
    rw [eP] at q0
    have q1 := ucell q0 0
    have q2 := ucell q0 1
    have q3 := ucell q0 2
    have t1 := kp _ R _ _ q1
    have t2 := kp _ R _ _ q2
    have t3 := kp _ R _ _ q3
    rw [eR] at t1 t2 t3
    clear kp q0 eP eR
    go_region
    all_goals go_wp2_with fail
    all_goals go_meet
    all_goals
      case rel => first
        | exact ⟨_, _, rfl, (show MkL _ _ _ _ _ _ _ _ _ _ from mk_start1 hN HS0.out)⟩
        | exact ⟨_, _, rfl, (show MkL _ _ _ _ _ _ _ _ _ _ from mk_start2 hN HS0.out)⟩
  case rest =>
    obtain ⟨g3, v, rfl, HL⟩ := hcut
    have z1 := ucell HL.out.mb 1
    clear m0 m1 HS0 HE1 HE2 hm WP
    go_wp2
    go_loopg [19] hn (fun kq v19 wr => ∃ (y : Nat) (v : Value), v19 = .int .i64 (y : Int) ∧ y ≤ hn ∧ hn ≤ y + kq ∧ Hid (MkL w0 (wn : Int) (hn : Int) (.func (.func 81) #[] #[.pointer (some ⟨pa, 0, none⟩), .pointer (some ⟨pb, 0, none⟩)]) w0.heap.size (w0.heap.size + 1) g3 v (mkRow z wn (y * wn)) wr))
    case atStart => exact ⟨0, v, rfl, by omega, by omega, (show MkL _ _ _ _ _ _ _ _ _ _ from by rw [Nat.zero_mul]; exact HL.out)⟩
    case round =>
      obtain ⟨y, v1, rfl, hy, hk, HY⟩ := hrel
      by_cases hlt : y < hn
      · have hltz : (y : Int) < (hn : Int) := by omega
        have y0 := ucell HY.out.mb 0
        go_wp2
        go_loopg [24] wn (fun kr v24 wx => ∃ (x : Nat) (v : Value), v24 = .int .i64 (x : Int) ∧ x ≤ wn ∧ wn ≤ x + kr ∧ Hid (MkL w0 (wn : Int) (hn : Int) (.func (.func 81) #[] #[.pointer (some ⟨pa, 0, none⟩), .pointer (some ⟨pb, 0, none⟩)]) w0.heap.size (w0.heap.size + 1) g3 v (mkRow z wn (y * wn + x)) wx))
        case atStart => exact ⟨0, v1, rfl, by omega, by omega, HY.out⟩
        case round =>
          obtain ⟨x, v2, rfl, hx, hk2, HX⟩ := hrel
          by_cases hlt2 : x < wn
          · have hlt2z : (x : Int) < (wn : Int) := by omega
            have x2 := ucell HX.out.mb 2
            have x3 := ucell HX.out.pb 2
            have x4 : wr.frozen? ⟨g3, 2, none⟩ = false := ufree HX.out.pb 2
            have HC := Lib.hid fun W hb => HF1.out W x y hb hlt2z hltz
            have HR := Lib.hid (mkRow_next z wn y x hlt2)
            have hxy : y * wn + x ≤ 65536 := by
              have h1 := Nat.mul_le_mul_right wn (show y + 1 ≤ hn by omega)
              have h2 := EN.out
              rw [Nat.mul_comm] at h2
              rw [Nat.add_mul] at h1
              omega
            obtain ⟨A, n0, c0, e0⟩ := HX.out.ro.sl
            subst e0
            obtain ⟨u, eu⟩ : ∃ u, u = z x y := ⟨_, rfl⟩
            rw [← eu] at HC HR
            clear eu
            go_upto_region 8 with (fail)
            refine wp_region_any (by kernel_rfl) ?_
            change wpAny _ _ _ _ _ _ _ wr.drew
            have hS : MkS w0.heap.size g3 (.func (.func 81) #[] #[.pointer (some ⟨pa, 0, none⟩), .pointer (some ⟨pb, 0, none⟩)]) (.slice A n0 c0) wr.drew := ⟨x3, x2⟩
            have HX9 : Hid (MkL w0 (wn : Int) (hn : Int) (.func (.func 81) #[] #[.pointer (some ⟨pa, 0, none⟩), .pointer (some ⟨pb, 0, none⟩)]) w0.heap.size (w0.heap.size + 1) g3 (.slice A n0 c0) (mkRow z wn (y * wn + x)) wr.drew) := (show MkL _ _ _ _ _ _ _ _ _ _ from HX.out.below (Below.refl wr.heap.size wr).drew)
            have HLT : Hid (∀ k, (Value.slice A n0 c0).ownBlock = some k → w0.heap.size ≤ k) := (show ∀ _, _ → _ from fun k hk => (HX.out.ro.lt k hk).1)
            clear HX x2 x3 x4
            generalize wr.drew = V0 at HX9 hS ⊢
            refine wpAny_of_K (S := MkS w0.heap.size g3 (.func (.func 81) #[] #[.pointer (some ⟨pa, 0, none⟩), .pointer (some ⟨pb, 0, none⟩)]) (.slice A n0 c0)) (T := [8, 9, 10]) _ _ _ _ ?_
            refine wpAnyK_take [1, 8, 9, 10] (i := 0) (v := ?_) rfl (by kernel_rfl) (by kernel_rfl) (by kernel_rfl) (by kernel_rfl) (fun _ _ _ h => h) (Or.inl ⟨by rfl, ?_⟩) hS ?_
            rotate_left
            · intro W' hSw; obtain ⟨s3, s4⟩ := hSw; go_simp; try (with_reducible rfl)
            simp only [Act.put, List.setIfInBounds_toArray, List.set_cons_zero, List.set_cons_succ]
            refine wpAnyK_take [8, 9, 10] (i := 1) (v := ?_) rfl (by kernel_rfl) (by kernel_rfl) (by kernel_rfl) (by kernel_rfl) (fun _ _ _ h => h) (Or.inl ⟨by rfl, ?_⟩) hS ?_
            rotate_left
            · intro W' hSw; obtain ⟨s3, s4⟩ := hSw; go_simp; try (with_reducible rfl)
            simp only [Act.put, List.setIfInBounds_toArray, List.set_cons_zero, List.set_cons_succ]
            refine wpAnyK_take [3, 6, 7, 8, 9, 10] (i := 2) (v := ?_) rfl (by kernel_rfl) (by kernel_rfl) (by kernel_rfl) (by kernel_rfl) (fun _ _ _ h => h) (Or.inl ⟨by rfl, ?_⟩) hS ?_
            rotate_left
            · intro W' hSw; obtain ⟨s3, s4⟩ := hSw; go_simp; try (with_reducible rfl)
            simp only [Act.put, List.setIfInBounds_toArray, List.set_cons_zero, List.set_cons_succ]
            refine wpAnyK_take [6, 7, 8, 9, 10] (i := 3) (v := ?_) rfl (by kernel_rfl) (by kernel_rfl) (by kernel_rfl) (by kernel_rfl) (fun _ _ _ h => h) (Or.inl ⟨by rfl, ?_⟩) hS ?_
            rotate_left
            · intro W' hSw; obtain ⟨s3, s4⟩ := hSw; go_simp; try (with_reducible rfl)
            simp only [Act.put, List.setIfInBounds_toArray, List.set_cons_zero, List.set_cons_succ]
            refine wpAnyK_take [6, 7, 8, 9, 10] (i := 4) (v := ?_) rfl (by kernel_rfl) (by kernel_rfl) (by kernel_rfl) (by kernel_rfl) (fun _ _ _ h => h) (Or.inl ⟨by rfl, ?_⟩) hS ?_
            rotate_left
            · intro W' hSw; obtain ⟨s3, s4⟩ := hSw; go_simp; try (with_reducible rfl)
            simp only [Act.put, List.setIfInBounds_toArray, List.set_cons_zero, List.set_cons_succ]
            refine wpAnyK_take [6, 7, 8, 9, 10] (i := 5) (v := ?_) rfl (by kernel_rfl) (by kernel_rfl) (by kernel_rfl) (by kernel_rfl) (fun _ _ _ h => h) (Or.inl ⟨by rfl, ?_⟩) hS ?_
            rotate_left
            · intro W' hSw; obtain ⟨s3, s4⟩ := hSw; go_simp; try (with_reducible rfl)
            simp only [Act.put, List.setIfInBounds_toArray, List.set_cons_zero, List.set_cons_succ]
            refine wpAnyK_ready (rs := [6]) (by kernel_rfl) (by simp) (ReadyK.cons rfl (fun K hK => ?_) ReadyK.nil)
            rw [if_pos (by rfl)]
            go_simp
            refine (HC.out _ HX9.out.be).mono ?_
            rintro e1 w5 ⟨rfl, rfl⟩
            refine hK.out _ _ (fun _ => hS) ?_
            clear hK K
            have hx1 := HX9.out.below ((Below.refl V0.heap.size V0).alloc (Nat.le_refl _) (.cells #[.int .u32 (u : Int)] 65))
            refine wpAnyK_ready (rs := [7]) (by kernel_rfl) (by simp) (ReadyK.cons rfl (fun K hK => ?_) ReadyK.nil)
            rw [if_pos (by rfl)]
            go_simp
            refine hK.out _ _ (fun _ => ⟨ucell hx1.pb 2, ucell hx1.mb 2⟩) ?_
            clear hK K
            obtain ⟨v', V', hrun, p1, p2, p3⟩ := own_push_c oneU32 53 _ w0.heap.size _ _ hx1.ro hx1.be.size (by rw [mkRow_len]; omega) ⟨V0.heap.size, 0, none⟩ 1 (.int .u32 (u : Int)) (ucell (heap_alloc_new V0 _) 0) rfl
            rw [← HR.out] at p1
            have HX3 := Lib.hid (hx1.push p1 p2 p3 HLT.out)
            have hb6 := p2.block g3 (heap_lt' hx1.pb) (fun e => hx1.na.2.2 e.symm)
            have c2' : V'.cell? ⟨g3, 2, none⟩ = some (.slice A n0 c0) := ucell (hb6.trans hx1.pb) 2
            have f2' : V'.frozen? ⟨g3, 2, none⟩ = false := ufree (hb6.trans hx1.pb) 2
            obtain ⟨A9, n9, c9, e9⟩ := p1.sl
            subst e9
            clear p1 p2 p3 hb6 hx1 HX9
            refine wpAnyK_ready (rs := [8]) (by kernel_rfl) (by simp) (ReadyK.cons rfl (fun K hK => ?_) ReadyK.nil)
            rw [if_pos (by rfl)]
            refine Go.Lib.wp_append_run _ _ _ 53 53 rfl _ _ rfl rfl _ V' hrun ?_
            simp only [Act.put, List.setIfInBounds_toArray, List.set_cons_zero, List.set_cons_succ]
            refine hK.out _ _ (fun h => absurd h (by decide)) ?_
            clear hK K hrun
            refine wpAnyK_ready (rs := [9]) (by kernel_rfl) (by simp) (ReadyK.cons rfl (fun K hK => ?_) ReadyK.nil)
            rw [if_pos (by rfl)]
            go_simp
            refine hK.out _ _ (fun h => absurd h (by decide)) ?_
            clear hK K
            refine wpAnyK_ready (rs := [10]) (by kernel_rfl) (by simp) (ReadyK.cons rfl (fun K hK => ?_) ReadyK.nil)
            rw [if_pos (by rfl)]
            go_simp
            refine hK.out _ _ (fun h => absurd h (by decide)) ?_
            clear hK K
            refine wpAnyK_done (by kernel_rfl) ?_ _
            go_wp2
            go_roundg (wn - (x + 1))
            case measure => omega
            case rel => exact ⟨x + 1, _, by go_num, by omega, by omega, HX3.out⟩
          · have hlt2z : ¬ (x : Int) < (wn : Int) := by omega
            have e : x = wn := by omega
            subst e
            have HX1 : Hid (MkL w0 (x : Int) (hn : Int) (.func (.func 81) #[] #[.pointer (some ⟨pa, 0, none⟩), .pointer (some ⟨pb, 0, none⟩)]) w0.heap.size (w0.heap.size + 1) g3 v2 (mkRow z x ((y + 1) * x)) wr) := (show MkL _ _ _ _ _ _ _ _ _ _ from by rw [Nat.add_mul, Nat.one_mul]; exact HX.out)
            go_wp2
            go_roundg (hn - (y + 1))
            case measure => omega
            case rel => exact ⟨y + 1, v2, by go_num, by omega, by omega, HX1.out⟩
      · have hltz : ¬ (y : Int) < (hn : Int) := by omega
        have e : y = hn := by omega
        subst e
        obtain ⟨A, n0, c0, e0⟩ := HY.out.ro.sl
        subst e0
        have f0 := ucell HY.out.pb 0
        have f1 := ucell HY.out.pb 1
        have f2 := ucell HY.out.pb 2
        obtain ⟨d1, d2, d3, d4, d5, d6⟩ := st3 HY.out.ou (.int .i64 (wn : Int)) (.int .i64 (y : Int))
        have d7 := st3_end (x := .int .i64 (wn : Int)) (y := .int .i64 (y : Int)) (z := .slice A n0 c0) HY.out.ou
        have d8 := ucell d7 0
        have d9 := ucell d7 1
        have d10 := ucell d7 2
        clear d7
        have HE := Lib.hid (made_end HY.out)
        have H3 := Lib.hid (st3_end (x := .int .i64 (wn : Int)) (y := .int .i64 (y : Int)) (z := .slice A n0 c0) HY.out.ou)
        go_wp2
        refine bodyPost_ret (results_cell_row rfl _ _ (w0.heap.size + 1) 55 _ (0, 0) _ rfl H3.out Try.underlying55 rfl (by kernel_rfl)) rfl ?_
        exact HE.out
end Go.Proofs.Ytdcpeeolfgohmaa
