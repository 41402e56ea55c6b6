/- slices.symMergeCmpFunc at []int: two sorted parts of a row are merged. -/
import Derived.Test.YtdcpeeolfgohmaaSortBD
import Derived.Deep.DeepCutAuto
import Derived.Deep.CutBlock
namespace Go.Proofs.Ytdcpeeolfgohmaa
open Go.RowKit
set_option linter.unusedSimpArgs false
set_option linter.unusedVariables false

/-- What the search's end says of the two parts. -/
def FoundAt (K : Int → Int) (d : Nat → Int) (p s0 r0 s : Nat) : Prop :=
  (s0 < s → Ahead K (d (s - 1)) (d (p - (s - 1)))) ∧ (s < r0 → Ahead K (d (p - s)) (d s))

/-- The parts behind the change of places: all that the two calls need, and that what they leave is sorted. -/
theorem merged {K : Int → Int} {n a m b mid s e : Nat} {d d1 d2 d3 : Nat → Int} (hN : InN n d) (hbn : b ≤ n) (ham : a < m) (hmb : m < b) (hs1 : SortedBy K a m d) (hs2 : SortedBy K m b d) (hc : Cross a m b d)
    (hmid1 : a < mid) (hmid2 : mid < b) (hse : s + e = mid + m) (hsa : a ≤ s) (hsm : s ≤ m) (hme : m ≤ e) (heb : e ≤ b)
    (hl : a < s → e < b → Ahead K (d (s - 1)) (d e)) (hr : s < m → m < e → Ahead K (d (e - 1)) (d s)) (hrot : Rot s m e d d1)
    (g1 : Seg a mid d1 d2) (q1 : SortedBy K a mid d2) (g2 : Seg mid b d2 d3) (q2 : SortedBy K mid b d3) : Seg a b d d3 ∧ SortedBy K a b d3 := by
  obtain ⟨x1, x2, x3, x4, x5, x6, x7⟩ := merge_step ham hmb hs1 hs2 hc hmid1 hmid2 hse hsa hsm hme heb hl hr hrot
  refine ⟨((hrot.seg hsm hme hsa heb).trans (g1.wider (Nat.le_refl _) (by omega))).trans (g2.wider (by omega) (Nat.le_refl _)), ?_⟩
  exact SortedBy.join (q1.same fun k _ hk => g2.1 k (by omega)) q2 (Seg.ahead g1 g2 x7)

def MergeSaid (w0 : World) (blk n cap : Nat) (K : Int → Int) (p1 p2 p3 : Addr) (N : Nat) : Prop :=
  ∀ (w : World) (a m b : Nat) (d : Nat → Int), b ≤ a + N → RowW w0 blk n d w → InN n d → a < m → m < b → b ≤ n → SortedBy K a m d → SortedBy K m b d → Cross a m b d →
    Calls Try.prog 158 #[.slice (some ⟨blk, 0, none⟩) n cap, .int .i64 a, .int .i64 m, .int .i64 b, .func (.func 124) #[] #[.pointer (some p1), .pointer (some p2), .pointer (some p3)]] w
      fun en w' => en = .returned (.tuple #[]) ∧ ∃ d', RowW w0 blk n d' w' ∧ Seg a b d d' ∧ SortedBy K a b d'

set_option maxHeartbeats 16000000 in
set_option maxRecDepth 100000 in
theorem symMerge_many (w0 : World) (blk n cap : Nat) (K : Int → Int) (p1 p2 p3 : Addr) (hC : CmpAt w0 blk n K p1 p2 p3) (hn : n ≤ 1000000000) (N : Nat) (ih : MergeSaid w0 blk n cap K p1 p2 p3 N)
    (w : World) (a m b : Nat) (d : Nat → Int) (hbN : b ≤ a + (N + 1)) (hW : RowW w0 blk n d w) (hI : InN n d) (ham : a + 1 < m) (hmb : m + 1 < b) (hbn : b ≤ n) (hs1 : SortedBy K a m d) (hs2 : SortedBy K m b d) (hx : Cross a m b d) :
    Calls Try.prog 158 #[.slice (some ⟨blk, 0, none⟩) n cap, .int .i64 a, .int .i64 m, .int .i64 b, .func (.func 124) #[] #[.pointer (some p1), .pointer (some p2), .pointer (some p3)]] w
      fun en w' => en = .returned (.tuple #[]) ∧ ∃ d', RowW w0 blk n d' w' ∧ Seg a b d d' ∧ SortedBy K a b d' := by
  have HW : Aside (RowW w0 blk n d w) := hW
  have HC : Aside (CmpAt w0 blk n K p1 p2 p3) := hC
  have IH := Lib.hid ih
  have HI := Lib.hid hI
  have HS1 := Lib.hid hs1
  have HS2 := Lib.hid hs2
  have HX := Lib.hid hx
  clear hW hC hI hs1 hs2 hx ih
  have t1 : ((m : Int) - (a : Int) == 1) = false := by rw [beq_eq_false_iff_ne]; omega
  have t2 : ((b : Int) - (m : Int) == 1) = false := by rw [beq_eq_false_iff_ne]; omega
  obtain ⟨mid, hm1, hm2⟩ : ∃ mid : Nat, 2 * mid ≤ a + b ∧ a + b ≤ 2 * mid + 1 := ⟨(a + b) / 2, by omega, by omega⟩
  have zmid : Hid (((a : Int) + (b : Int)) / 2 = (mid : Int)) := (show _ = _ by omega)
  have b56 : a < mid ∧ mid < b := by omega
  obtain ⟨b5, b6⟩ := b56
  go_enter Try.func158, Try.ntmps158
  go_upto_region 25 with (fail)
  rw [zmid.out]
  clear zmid
  go_upto_if 140 with (fail)
  go_cut [20, 21] (fun vs vr wc => ∃ s0 r0 : Nat, vs = .int .i64 s0 ∧ vr = .int .i64 r0 ∧ a ≤ s0 ∧ s0 ≤ r0 ∧ r0 ≤ m ∧ r0 ≤ mid ∧ mid + m ≤ b + s0 ∧ (s0 ≤ a ∨ s0 + b ≤ mid + m) ∧ (m ≤ r0 ∨ mid ≤ r0) ∧ Aside (RowW w0 blk n d wc))
  case first => as_aux_lemma =>
    rcases Nat.lt_or_ge mid m with hm | hm
    · have z : decide ((mid : Int) < (m : Int)) = true := decide_eq_true (by omega)
      go_wp2_with fail
      go_meet
      case rel => exact ⟨mid + m - b, mid, by go_num, rfl, by omega, by omega, by omega, by omega, by omega, by omega, by omega, HW⟩
    · have z : decide ((mid : Int) < (m : Int)) = false := decide_eq_false (by omega)
      go_wp2_with fail
      go_meet
      case rel => exact ⟨a, m, rfl, rfl, by omega, by omega, by omega, by omega, by omega, by omega, by omega, HW⟩
  case rest =>
    clear HW hm1 hm2
    obtain ⟨s0, r0, rfl, rfl, y1, y2, y3, y4, y5, y6, y7, HW⟩ := hcut
    have Y6 := Lib.hid y6
    have Y7 := Lib.hid y7
    clear y6 y7
    obtain ⟨pp, hp1⟩ : ∃ pp : Nat, mid + m = pp + 1 := ⟨mid + m - 1, by omega⟩
    have zpp : Hid ((mid : Int) + (m : Int) - 1 = (pp : Int)) := (show _ = _ by omega)
    have hp2 : mid + m ≤ pp + 1 := by omega
    have hp3 : pp + 1 ≤ mid + m := by omega
    clear hp1
    go_wp2_with fail
    rw [zpp.out]
    clear zpp
    go_loopg [20, 21, 23] (m + 1) (fun k vs vr vc wr => ∃ (s r : Nat), vs = .int .i64 s ∧ vr = .int .i64 r ∧ s0 ≤ s ∧ s ≤ r ∧ r ≤ r0 ∧ r ≤ s + k ∧ Aside (RowW w0 blk n d wr) ∧ Hid (s0 < s → Ahead K (d (s - 1)) (d (pp - (s - 1)))) ∧ Hid (r < r0 → Ahead K (d (pp - r)) (d r)))
    case atStart => exact ⟨s0, r0, rfl, rfl, by omega, by omega, by omega, by omega, HW, fun h => by omega, fun h => by omega⟩
    case round =>
      clear HW
      obtain ⟨s, r, rfl, rfl, hs0, hsr, hr0, hk, HR, HL, HG⟩ := hrel
      by_cases hlt : s < r
      · have hltz : (s : Int) < (r : Int) := by omega
        obtain ⟨h, hh1, hh2⟩ : ∃ h, s ≤ h ∧ h < r ∧ ((s : Int) + (r : Int)) / 2 = (h : Int) := ⟨(s + r) / 2, by omega, by omega, by omega⟩
        obtain ⟨hh2, hh⟩ := hh2
        have HH := Lib.hid hh
        clear hh
        obtain ⟨g, hg1, hg2⟩ : ∃ g : Nat, g + h ≤ pp ∧ pp ≤ g + h := ⟨pp - h, by omega, by omega⟩
        obtain ⟨x, ex⟩ : ∃ x, x = d g := ⟨_, rfl⟩
        obtain ⟨y, ey⟩ : ∃ y, y = d h := ⟨_, rfl⟩
        have bx := HI.out g (by omega)
        have by_ := HI.out h (by omega)
        rw [← ex] at bx
        rw [← ey] at by_
        have hyx : y < x := by rw [ex, ey]; exact HX.out h g (by omega) (by omega) (by omega) (by omega)
        have c1 := HR.out.c g (by omega)
        have c2 := HR.out.c h (by omega)
        rw [← ex] at c1
        rw [← ey] at c2
        have zg0 : (0 : Int) ≤ (pp : Int) - (h : Int) := by omega
        have zg1 : (pp : Int) - (h : Int) < (n : Int) := by omega
        have zg2 : ((pp : Int) - (h : Int)).toNat = g := by omega
        have zg3 : IntKind.i64.wrap ((pp : Int) - (h : Int)) = (pp : Int) - (h : Int) := by rw [IntKind.wrap_i64]; omega
        have hn3 : (h : Int) < (n : Int) := by omega
        obtain ⟨c, ec⟩ : ∃ c, c = cmpI (K y) (K x) := ⟨_, rfl⟩
        have hcl : ∀ q, Calls Try.prog 124 #[.int .i64 x, .int .i64 y, .pointer (some p1), .pointer (some p2), .pointer (some p3)] (wr.drewN q) fun e w' => e = .returned (.int .i64 c) ∧ ∃ q', w' = (wr.drewN q).drewN q' := fun q => by
          rw [ec]; exact HC.out _ _ (HR.out.drewN q) x y bx.1 bx.2 by_.1 by_.2
        have HCL := Lib.hid hcl
        by_cases hv : K y < K x
        · as_aux_lemma =>
          have hc0 : decide (c < 0) = true := decide_eq_true (by rw [ec]; exact (cmpI_neg _ _).2 hv)
          have HA : Hid (Ahead K (d g) (d h)) := by rw [← ex, ← ey]; exact (ahead_iff hyx).2 hv
          clear ec hcl bx by_ hyx ex ey hv
          go_upto_region 35 with (fail)
          rw [HH.out]
          go_quiet ((go_at_call 124; exact Calls.quiet_of (HCL.out _)))
          have S2 : Aside (RowW w0 blk n d (wr.drewN nq)) := HR.out.drewN nq
          clear c1 c2 HCL HR zg0 zg1 zg2 zg3
          go_wp2
          go_roundg (h - s)
          case measure => omega
          case rel => exact ⟨s, h, rfl, rfl, by omega, by omega, by omega, by omega, S2, HL, fun _ => by rw [show pp - h = g by omega]; exact HA.out⟩
        · as_aux_lemma =>
          have hc0 : decide (c < 0) = false := decide_eq_false (by rw [ec]; exact fun h' => hv ((cmpI_neg _ _).1 h'))
          have HA : Hid (Ahead K (d h) (d g)) := by rw [← ex, ← ey]; exact ahead_not hyx hv
          clear ec hcl bx by_ hyx ex ey hv
          go_upto_region 35 with (fail)
          rw [HH.out]
          go_quiet ((go_at_call 124; exact Calls.quiet_of (HCL.out _)))
          have S2 : Aside (RowW w0 blk n d (wr.drewN nq)) := HR.out.drewN nq
          clear c1 c2 HCL HR zg0 zg1 zg2 zg3
          go_wp2
          go_roundg (r - (h + 1))
          case measure => omega
          case rel => exact ⟨h + 1, r, by go_num, rfl, by omega, by omega, hr0, by omega, S2, fun _ => by rw [show h + 1 - 1 = h by omega, show pp - h = g by omega]; exact HA.out, HG⟩
      · have hltz : ¬ (s : Int) < (r : Int) := by omega
        have hrs : r = s := by omega
        obtain ⟨e, he1, he2⟩ : ∃ e : Nat, s + e ≤ mid + m ∧ mid + m ≤ s + e := ⟨mid + m - s, by omega, by omega⟩
        have HL' : Hid (a < s → e < b → Ahead K (d (s - 1)) (d e)) := fun h1 h2 => by
          have := HL.out (by have := Y6.out; omega)
          rwa [show pp - (s - 1) = e by omega] at this
        have HG' : Hid (s < m → m < e → Ahead K (d (e - 1)) (d s)) := fun h1 h2 => by
          have := HG.out (by have := Y7.out; omega)
          rwa [hrs, show pp - s = e - 1 by omega] at this
        have ze : Hid ((mid : Int) + (m : Int) - (s : Int) = (e : Int)) := (show _ = _ by omega)
        have b1 : a ≤ s ∧ s ≤ m ∧ m ≤ e ∧ e ≤ b := by omega
        obtain ⟨b1, b2, b3, b4⟩ := b1
        have FIN : Hid (∀ d1 d2 d3, Rot s m e d d1 → Seg a mid d1 d2 → SortedBy K a mid d2 → Seg mid b d2 d3 → SortedBy K mid b d3 → Seg a b d d3 ∧ SortedBy K a b d3) := fun d1 d2 d3 k1 k2 k3 k4 k5 =>
          merged HI.out hbn (by omega) (by omega) HS1.out HS2.out HX.out b5 b6 (by omega) b1 b2 b3 b4 HL'.out HG'.out k1 k2 k3 k4 k5
        have MID : Hid (∀ d1, Rot s m e d d1 → SortedBy K a s d1 ∧ SortedBy K s mid d1 ∧ Cross a s mid d1 ∧ SortedBy K mid e d1 ∧ SortedBy K e b d1 ∧ Cross mid e b d1 ∧ InN n d1) := fun d1 k1 => by
          obtain ⟨x1, x2, x3, x4, x5, x6, _⟩ := merge_step (by omega) (by omega) HS1.out HS2.out HX.out b5 b6 (by omega) b1 b2 b3 b4 HL'.out HG'.out k1
          exact ⟨x1, x2, x3, x4, x5, x6, HI.out.seg (k1.seg b2 b3 (Nat.le_refl _) (Nat.le_refl _)) (by omega)⟩
        have hes : s ≤ m ∧ e + s ≤ mid + m ∧ mid + m ≤ e + s := by omega
        clear HL HG HL' HG' he1 he2 hs0 hsr hr0 hk y1 y2 y3 y4 y5 Y6 Y7 hrs HS1 HS2 HX hp2 hp3
        go_upto_region 39 with (fail)
        rw [ze.out]
        clear ze
        go_cut [185] (fun vb wc => ∃ t : Bool, vb = .bool t ∧ Hid (t = true ↔ s < m ∧ m < e) ∧ Aside (RowW w0 blk n d wc))
        case first => as_aux_lemma =>
          rcases (show ¬ s < m ∨ (s < m ∧ ¬ m < e) ∨ (s < m ∧ m < e) by omega) with k | ⟨k, k'⟩ | ⟨k, k'⟩
          · have z : decide ((s : Int) < (m : Int)) = false := decide_eq_false (by omega)
            go_wp2_with fail
            go_meet
            case rel => exact ⟨false, rfl, (show _ ↔ _ from ⟨(fun h => by cases h), (fun h => absurd h.1 k)⟩), HR⟩
          · have z : decide ((s : Int) < (m : Int)) = true := decide_eq_true (by omega)
            have z' : decide ((m : Int) < (e : Int)) = false := decide_eq_false (by omega)
            go_wp2_with fail
            go_meet
            case rel => exact ⟨false, rfl, (show _ ↔ _ from ⟨(fun h => by cases h), (fun h => absurd h.2 k')⟩), HR⟩
          · have z : decide ((s : Int) < (m : Int)) = true := decide_eq_true (by omega)
            have z' : decide ((m : Int) < (e : Int)) = true := decide_eq_true (by omega)
            go_wp2_with fail
            go_meet
            case rel => exact ⟨true, rfl, (show _ ↔ _ from ⟨fun _ => ⟨k, k'⟩, fun _ => rfl⟩), HR⟩
        case rest =>
          clear HR
          obtain ⟨t, rfl, HT, HR⟩ := hcut
          go_upto_if 185 with (fail)
          go_cut [] (fun wc => ∃ d1, Aside (RowW w0 blk n d1 wc) ∧ Hid (Rot s m e d d1))
          case first => as_aux_lemma =>
            cases t
            · go_wp2_with fail
              go_meet
              case rel =>
                refine ⟨d, HR, ?_⟩
                have k1 : ¬ (s < m ∧ m < e) := fun h => by cases HT.out.2 h
                show Rot s m e d d
                by_cases q : s < m
                · rw [show e = m by omega]; exact Rot.none_right
                · rw [show s = m by omega]; exact Rot.none_left
            · have k1 := HT.out.1 rfl
              have hc1 := rotate_calls w0 wc blk n cap s m e d (.func (.func 124) #[] #[.pointer (some p1), .pointer (some p2), .pointer (some p3)]) HR.out k1.1 k1.2 (by omega) hn
              have HC1 := Lib.hid hc1
              clear hc1 k1
              go_wp2_with (go_at_call 163; refine HC1.out.mono ?_; rintro e1 w1 ⟨rfl, hq⟩; have HQ := Lib.hid hq; clear hq)
              go_meet
              case rel =>
                obtain ⟨d1, h1, h2⟩ := HQ.out
                exact ⟨d1, h1, h2⟩
          case rest =>
            clear HR HT
            obtain ⟨d1, HR1, H1⟩ := hcut
            go_upto_region 41 with (fail)
            go_cut [199] (fun vb wc => ∃ t : Bool, vb = .bool t ∧ Hid (t = true ↔ a < s ∧ s < mid) ∧ Aside (RowW w0 blk n d1 wc))
            case first => as_aux_lemma =>
              rcases (show ¬ a < s ∨ (a < s ∧ ¬ s < mid) ∨ (a < s ∧ s < mid) by omega) with k | ⟨k, k'⟩ | ⟨k, k'⟩
              · have z : decide ((a : Int) < (s : Int)) = false := decide_eq_false (by omega)
                go_wp2_with fail
                go_meet
                case rel => exact ⟨false, rfl, (show _ ↔ _ from ⟨(fun h => by cases h), (fun h => absurd h.1 k)⟩), HR1⟩
              · have z : decide ((a : Int) < (s : Int)) = true := decide_eq_true (by omega)
                have z' : decide ((s : Int) < (mid : Int)) = false := decide_eq_false (by omega)
                go_wp2_with fail
                go_meet
                case rel => exact ⟨false, rfl, (show _ ↔ _ from ⟨(fun h => by cases h), (fun h => absurd h.2 k')⟩), HR1⟩
              · have z : decide ((a : Int) < (s : Int)) = true := decide_eq_true (by omega)
                have z' : decide ((s : Int) < (mid : Int)) = true := decide_eq_true (by omega)
                go_wp2_with fail
                go_meet
                case rel => exact ⟨true, rfl, (show _ ↔ _ from ⟨fun _ => ⟨k, k'⟩, fun _ => rfl⟩), HR1⟩
            case rest =>
              clear HR1
              obtain ⟨t, rfl, HT, HR1⟩ := hcut
              go_upto_if 199 with (fail)
              go_cut [] (fun wc => ∃ d2, Aside (RowW w0 blk n d2 wc) ∧ Hid (Seg a mid d1 d2) ∧ Hid (SortedBy K a mid d2))
              case first => as_aux_lemma =>
                cases t
                · go_wp2_with fail
                  go_meet
                  case rel =>
                    refine ⟨d1, HR1, Seg.refl _ _ _, ?_⟩
                    have k1 : ¬ (a < s ∧ s < mid) := fun h => by cases HT.out.2 h
                    have x := MID.out d1 H1.out
                    show SortedBy K a mid d1
                    by_cases q : s ≤ a
                    · exact x.2.1.part (by omega) (by omega)
                    · exact x.1.part (by omega) (by omega)
                · have k1 := HT.out.1 rfl
                  have x := MID.out d1 H1.out
                  have hc1 := IH.out wc a s mid d1 (by omega) HR1.out x.2.2.2.2.2.2 k1.1 k1.2 (by omega) x.1 x.2.1 x.2.2.1
                  have HC1 := Lib.hid hc1
                  clear hc1 k1 x
                  go_wp2_with (go_at_call 158; refine HC1.out.mono ?_; rintro e1 w1 ⟨rfl, hq⟩; have HQ := Lib.hid hq; clear hq)
                  go_meet
                  case rel =>
                    obtain ⟨d2, h1, h2, h3⟩ := HQ.out
                    exact ⟨d2, h1, h2, h3⟩
              case rest =>
                clear HR1 HT
                obtain ⟨d2, HR2, H2, Q2⟩ := hcut
                go_upto_region 43 with (fail)
                go_cut [213] (fun vb wc => ∃ t : Bool, vb = .bool t ∧ Hid (t = true ↔ mid < e ∧ e < b) ∧ Aside (RowW w0 blk n d2 wc))
                case first => as_aux_lemma =>
                  rcases (show ¬ mid < e ∨ (mid < e ∧ ¬ e < b) ∨ (mid < e ∧ e < b) by omega) with k | ⟨k, k'⟩ | ⟨k, k'⟩
                  · have z : decide ((mid : Int) < (e : Int)) = false := decide_eq_false (by omega)
                    go_wp2_with fail
                    go_meet
                    case rel => exact ⟨false, rfl, (show _ ↔ _ from ⟨(fun h => by cases h), (fun h => absurd h.1 k)⟩), HR2⟩
                  · have z : decide ((mid : Int) < (e : Int)) = true := decide_eq_true (by omega)
                    have z' : decide ((e : Int) < (b : Int)) = false := decide_eq_false (by omega)
                    go_wp2_with fail
                    go_meet
                    case rel => exact ⟨false, rfl, (show _ ↔ _ from ⟨(fun h => by cases h), (fun h => absurd h.2 k')⟩), HR2⟩
                  · have z : decide ((mid : Int) < (e : Int)) = true := decide_eq_true (by omega)
                    have z' : decide ((e : Int) < (b : Int)) = true := decide_eq_true (by omega)
                    go_wp2_with fail
                    go_meet
                    case rel => exact ⟨true, rfl, (show _ ↔ _ from ⟨fun _ => ⟨k, k'⟩, fun _ => rfl⟩), HR2⟩
                case rest =>
                  clear HR2
                  obtain ⟨t, rfl, HT, HR2⟩ := hcut
                  cases t
                  · go_wp2_with fail
                    go_end0
                    have k1 : ¬ (mid < e ∧ e < b) := fun h => by cases HT.out.2 h
                    have x := MID.out d1 H1.out
                    have y : SortedBy K mid b d1 := by
                      by_cases q : e ≤ mid
                      · exact x.2.2.2.2.1.part (by omega) (by omega)
                      · exact x.2.2.2.1.part (by omega) (by omega)
                    exact ⟨rfl, d2, HR2.out, FIN.out d1 d2 d2 H1.out H2.out Q2.out (Seg.refl _ _ _) (y.same fun k h1 h2 => H2.out.1 k (by omega))⟩
                  · have k1 := HT.out.1 rfl
                    have x := MID.out d1 H1.out
                    have hc1 := IH.out wc mid e b d2 (by omega) HR2.out (x.2.2.2.2.2.2.seg H2.out (by omega)) k1.1 k1.2 (by omega) (x.2.2.2.1.same fun k h1 h2 => H2.out.1 k (by omega)) (x.2.2.2.2.1.same fun k h1 h2 => H2.out.1 k (by omega)) (fun i j h1 h2 h3 h4 => by rw [H2.out.1 i (by omega), H2.out.1 j (by omega)]; exact x.2.2.2.2.2.1 i j h1 h2 h3 h4)
                    have HC1 := Lib.hid hc1
                    clear hc1 k1 x
                    go_wp2_with (go_at_call 158; refine HC1.out.mono ?_; rintro e1 w1 ⟨rfl, hq⟩; have HQ := Lib.hid hq; clear hq)
                    go_end0
                    obtain ⟨d3, h1, h2, h3⟩ := HQ.out
                    exact ⟨rfl, d3, h1, FIN.out d1 d2 d3 H1.out H2.out Q2.out h2 h3⟩
end Go.Proofs.Ytdcpeeolfgohmaa
