/- plane.Check; leaving through marks. Spots: where they lie, what they weigh; when a way may be asked. -/
import Derived.Test.YtdcpeeolfgohmaaWmUW
namespace Go.Proofs.Ytdcpeeolfgohmaa
open Go.RowKit Go.Proofs.YtdcpeeolfgohmaaW.PrintWords
set_option linter.unusedSimpArgs false
set_option linter.unusedVariables false
attribute [local go_sem] Oper.semAt_some

/-- A plane as a value. -/
def plC (W H : Int) (A : Option Addr) (n c : Nat) : Array Value := #[.int .i64 W, .int .i64 H, .slice A n c]
def plE (W H : Int) (n : Nat) : Int := if sizeB W H = false then 50 else if (n : Int) ≠ W * H then 51 else 0
theorem sizeB_in {W H : Int} (h : sizeB W H = true) : 1 ≤ W ∧ W ≤ 1024 ∧ 1 ≤ H ∧ H ≤ 1024 ∧ 1 ≤ W * H ∧ W * H ≤ 65536 := by
  unfold sizeB at h
  obtain ⟨h1, h2, h3, h4, h5⟩ := of_decide_eq_true h
  have := Int.mul_le_mul h1 h3 (by omega) (by omega)
  omega
set_option maxHeartbeats 1600000 in
set_option maxRecDepth 100000 in
theorem pcheck_calls (w : World) (W H : Int) (A : Option Addr) (n c : Nat) (hn : n ≤ 1000000000) :
    Calls Try.prog 71 #[.agg (plC W H A n c)] w fun e w' => WGives w (.int .i64 (plE W H n)) e w' := by
  have HS := Lib.hid fun W' => psize_calls W' W H
  have HB : Hid (Below w.heap.size w (w.alloc (.cells #[.int .i64 W, .int .i64 H, .slice A n c] 55))) := (show Below _ _ _ from (Below.refl _ _).alloc (Nat.le_refl _) _)
  unfold plC WGives
  cases hs : sizeB W H with
  | false =>
    have HF : Hid (plE W H n = 50) := (show _ = _ from if_pos hs)
    rw [hs] at HS
    clear hs
    go_enter Try.func71, Try.ntmps71
    go_wp2_with (go_at_call 111; refine (HS.out _).mono ?_; rintro e1 w1 ⟨rfl, rfl⟩)
    go_ret
    exact ⟨wret HF.out.symm, HB.out⟩
  | true =>
    obtain ⟨a1, a2, a3, a4, a5, a6⟩ := sizeB_in hs
    have hs2 : ¬ (sizeB W H = false) := by rw [hs]; decide
    have HP : ∃ p, W * H = p ∧ IntKind.i64.wrap (W * H) = p := ⟨_, rfl, IntWalk.i64_in _ (by omega)⟩
    obtain ⟨p, ep, WP⟩ := HP
    rw [ep] at a5 a6
    by_cases hp : (n : Int) = p
    · have HF : Hid (plE W H n = 0) := (show _ = _ from by unfold plE; rw [if_neg hs2, if_neg (fun h => h (hp.trans ep.symm))])
      have hb : ((n : Int) != p) = false := by rw [hp]; exact bne_self_eq_false _
      rw [hs] at HS
      clear hs hs2 hp ep
      go_enter Try.func71, Try.ntmps71
      go_wp2_with (go_at_call 111; refine (HS.out _).mono ?_; rintro e1 w1 ⟨rfl, rfl⟩)
      go_ret
      exact ⟨wret HF.out.symm, HB.out⟩
    · have HF : Hid (plE W H n = 51) := (show _ = _ from by unfold plE; rw [if_neg hs2, if_pos (fun h => hp (h.trans ep))])
      have hb : ((n : Int) != p) = true := by rw [bne_iff_ne]; exact hp
      rw [hs] at HS
      clear hs hs2 hp ep
      go_enter Try.func71, Try.ntmps71
      go_wp2_with (go_at_call 111; refine (HS.out _).mono ?_; rintro e1 w1 ⟨rfl, rfl⟩)
      go_ret
      exact ⟨wret HF.out.symm, HB.out⟩

/-- The marks that a frame's ranges over functions have left: all empty, all apart. -/
def Marks (N : Nat) : List Nat → World → Prop
  | [], _ => True
  | D :: Ds, W => N ≤ D ∧ W.heap[D]? = some (.deferred (some [])) ∧ D ∉ Ds ∧ Marks N Ds W
def marksOf : List Nat → List Deferred
  | [] => []
  | D :: Ds => { target := .collected D, args := #[] } :: marksOf Ds
theorem Marks.same {N : Nat} {W W' : World} : ∀ {Ds : List Nat}, Marks N Ds W → (∀ k, k ∈ Ds → W'.heap[k]? = W.heap[k]?) → Marks N Ds W'
  | [], _, _ => trivial
  | D :: Ds, ⟨h1, h2, h3, h4⟩, hs => ⟨h1, (hs D (by simp)).trans h2, h3, h4.same fun k hk => hs k (by simp [hk])⟩
theorem Marks.mem {N : Nat} {W : World} : ∀ {Ds : List Nat}, Marks N Ds W → ∀ k, k ∈ Ds → N ≤ k ∧ W.heap[k]? = some (.deferred (some []))
  | D :: Ds, ⟨h1, h2, h3, h4⟩, k, hk => by
    rcases List.mem_cons.1 hk with rfl | hk
    · exact ⟨h1, h2⟩
    · exact h4.mem k hk
/-- What the marks leave alone: every block of cells. -/
structure Unmarked (N : Nat) (W W' : World) : Prop where
  be : Below N W W'
  ce : ∀ (k : Nat) (o : Obj), W.heap[k]? = some o → o.isCells = true → W'.heap[k]? = some o
theorem leaves_marks {F : Fence} {n : Nat} {P : Program} {fn : Func} {tmps : Array Value} {R : Ending → World → Prop} {N : Nat} :
    ∀ (Ds : List Nat) (W : World), N ≤ W.heap.size → Marks N Ds W → (∀ W', Unmarked N W W' → LeavesIn F n P fn tmps R [] .returning W') → LeavesInM F n P fn tmps R (marksOf Ds) .returning W
  | [], W, hN, _, h => h W ⟨Below.refl _ _, fun k o hk _ => hk⟩
  | D :: Ds, W, hN, ⟨h1, h2, h3, h4⟩, h => by
    refine ⟨by simp, .inl ⟨_, _, rfl, run_takeDeferred h2, ?_⟩⟩
    have hb1 : Below N W (W.putObj D (.deferred none)) := (Below.refl N W).grown (grownBy_putObj' W D (.deferred none)) hN (fun k e => by cases e; exact h1)
    refine leaves_marks Ds _ (by simpa using hN) (h4.same fun k hk => World.putObj_heap_other (fun e => h3 (by rw [← e]; exact hk))) fun W' hW' => h W' ?_
    refine ⟨hb1.trans hW'.be, fun k o hk ho => hW'.ce k o ?_ ho⟩
    have hne : k ≠ D := fun e => by
      rw [← e, hk] at h2
      injection h2 with h2
      rw [h2] at ho
      exact absurd ho (by decide)
    exact (World.putObj_heap_other hne).trans hk

theorem borderV_in {kind n : Int} (h : borderE kind n = 0) (i : Int) : 0 ≤ borderV kind n i ∧ borderV kind n i < n := by
  unfold borderE at h
  split at h
  · omega
  · split at h
    · omega
    · unfold borderV
      split
      · omega
      · split
        · exact ⟨Int.emod_nonneg _ (by omega), Int.emod_lt_of_pos _ (by omega)⟩
        · split
          · omega
          · have h1 := Int.emod_nonneg i (show 2 * (n - 1) ≠ 0 by omega)
            have h2 := Int.emod_lt_of_pos i (show 0 < 2 * (n - 1) by omega)
            omega
structure RightIn (kind border : Int) (t : Wp) (W H : Int) : Prop where
  ok : wpOk t = true
  wp : WpIn t 16777216
  q : 1 ≤ t.Q ∧ t.Q ≤ 4096
  kd : kind = 1 ∨ kind = 2
  bw : borderE border W = 0
  bh : borderE border H = 0
  sz : sizeB W H = true
theorem rightE_in {kind border : Int} {t : Wp} {W H : Int} (h : rightE kind border t W H = 0) : RightIn kind border t W H := by
  unfold rightE at h
  split at h
  · omega
  · rename_i h1
    split at h
    · omega
    · rename_i h2
      split at h
      · rename_i h3; exact absurd h h3
      · rename_i h3
        split at h
        · omega
        · rename_i h4
          have hok : wpOk t = true := by cases hh : wpOk t <;> simp_all
          have hsz : sizeB W H = true := by cases hh : sizeB W H <;> simp_all
          obtain ⟨a1, a2, a3, a4, a5, a6⟩ := sizeB_in hsz
          have hb : ¬ (border < 1 ∨ 3 < border) := fun hc => h3 (by
            intro h5
            unfold borderE at h5
            rw [if_pos hc] at h5
            omega)
          have hbn : ∀ n : Int, 1 ≤ n → n ≤ 1024 → borderE border n = 0 := fun n k1 k2 => by
            unfold borderE
            rw [if_neg hb, if_neg (by omega)]
          exact ⟨hok, (wpOk_in hok).1, (wpOk_in hok).2, by omega, hbn _ a1 a2, hbn _ a3 a4, hsz⟩
theorem sumTo_ge {x : Nat → Int} {n : Nat} (h : ∀ k, k < n → 0 ≤ x k) : ∀ k, k < n → x k ≤ sumTo x n := by
  induction n with
  | zero => intro k hk; omega
  | succ n ih =>
    intro k hk
    have h0 : ∀ m, m ≤ n → 0 ≤ sumTo x m := fun m hm => by
      induction m with
      | zero => simp [sumTo]
      | succ m ihm =>
        have := ihm (by omega)
        have := h m (by omega)
        simp only [sumTo]
        omega
    simp only [sumTo]
    rcases Nat.lt_or_ge k n with h1 | h1
    · have := ih (fun j hj => h j (by omega)) k h1
      have := h n (by omega)
      omega
    · have : k = n := by omega
      subst this
      have := h0 k (Nat.le_refl _)
      omega
theorem wt4_nn {q f g : Int} (hf : 0 ≤ f ∧ f < q) (hg : 0 ≤ g ∧ g < q) (k : Nat) : 0 ≤ wt4 q f g k := by
  have a1 := Int.mul_nonneg (show 0 ≤ q - f by omega) (show 0 ≤ q - g by omega)
  have a2 := Int.mul_nonneg hf.1 (show 0 ≤ q - g by omega)
  have a3 := Int.mul_nonneg (show 0 ≤ q - f by omega) hg.1
  have a4 := Int.mul_nonneg hf.1 hg.1
  match k with
  | 0 => exact a1
  | 1 => exact a2
  | 2 => exact a3
  | _ + 3 => exact a4
theorem shared4_in {q f g : Int} (hq : 1 ≤ q) (hf : 0 ≤ f ∧ f < q) (hg : 0 ≤ g ∧ g < q) {res : Nat → Int} (h : IsShared (wt4 q f g) 4 res) (k : Nat) (hk : k < 4) : 0 ≤ res k ∧ res k ≤ 65537 := by
  obtain ⟨S, _, hS⟩ := h
  rw [hS k hk]
  have hpos : 1 ≤ sumTo (wt4 q f g) 4 := by
    rw [wt4_sum]
    have := Int.mul_le_mul hq hq (by omega) (by omega)
    omega
  have hle := sumTo_ge (fun k _ => wt4_nn hf hg k) k hk
  have hnn := wt4_nn hf hg k
  generalize sumTo (wt4 q f g) 4 = s at hpos hle
  unfold shOf
  have h1 : 0 ≤ 65536 * wt4 q f g k / s := Int.ediv_nonneg (by omega) (by omega)
  have h2 : 65536 * wt4 q f g k / s ≤ 65536 := by
    have : 65536 * wt4 q f g k / s < 65537 := Int.ediv_lt_of_lt_mul (by omega) (by omega)
    omega
  have h3 : (S k).toNat ≤ 1 := by cases S k <;> simp
  omega
theorem spotsTo_mem {border W H i j : Int} {res : Nat → Int} {s : Spt} : ∀ k, s ∈ spotsTo border W H i j res k → ∃ a, a < k ∧ s = sptAt border W H (i + (a % 2 : Nat)) (j + (a / 2 : Nat)) (res a)
  | 0, h => by cases h
  | k + 1, h => by
    unfold spotsTo at h
    split at h
    · obtain ⟨a, h1, h2⟩ := spotsTo_mem k h
      exact ⟨a, by omega, h2⟩
    · rcases List.mem_append.1 h with h | h
      · obtain ⟨a, h1, h2⟩ := spotsTo_mem k h
        exact ⟨a, by omega, h2⟩
      · rw [List.mem_singleton.1 h]
        exact ⟨k, by omega, rfl⟩
/-- Where a spot lies. -/
theorem spots_in {kind border : Int} {t : Wp} {W H x y : Int} {L : List Spt} (hr : RightIn kind border t W H) (h : IsSpots kind border t W H x y L) : ∀ s, s ∈ L → (0 ≤ s.X ∧ s.X < W) ∧ (0 ≤ s.Y ∧ s.Y < H) ∧ (0 ≤ s.N ∧ s.N ≤ 65537) := fun s hs => by
  have hat : ∀ i j n : Int, 0 ≤ n ∧ n ≤ 65537 → s = sptAt border W H i j n → (0 ≤ s.X ∧ s.X < W) ∧ (0 ≤ s.Y ∧ s.Y < H) ∧ (0 ≤ s.N ∧ s.N ≤ 65537) := fun i j n hn e => by
    rw [e]
    exact ⟨borderV_in hr.bw i, borderV_in hr.bh j, hn⟩
  rcases h with ⟨_, rfl⟩ | ⟨_, res, h1, rfl⟩
  · exact hat _ _ _ (by omega) (List.mem_singleton.1 hs)
  · obtain ⟨a, ha, e⟩ := spotsTo_mem 4 hs
    have hq := hr.q
    exact hat _ _ _ (shared4_in hq.1 ⟨Int.emod_nonneg _ (by omega), Int.emod_lt_of_pos _ (by omega)⟩ ⟨Int.emod_nonneg _ (by omega), Int.emod_lt_of_pos _ (by omega)⟩ h1 a ha) e
theorem spots_ne {kind border : Int} {t : Wp} {W H x y : Int} {L : List Spt} (hk : kind = 1) (h : IsSpots kind border t W H x y L) : ∃ s, L = [s] := by
  rcases h with ⟨_, rfl⟩ | ⟨h1, _⟩
  · exact ⟨_, rfl⟩
  · exact absurd hk h1
/-- The spots as a sequence, whatever kind. -/
theorem spots_seq (kind border : Int) (t : Wp) (W H x y : Int) (w : World) (b : Nat) (hr : RightIn kind border t W H) (hb : Boxes b kind border t W H x y w) (hx : 0 ≤ x ∧ x ≤ 1024) (hy : 0 ≤ y ∧ y ≤ 1024) (n : Nat) (hn : 1 ≤ n) :
    SpotSeq n b kind border t W H x y w := by
  rcases hr.kd with e | e
  · subst e
    exact spots_near border t W H x y w b hb hr.wp hr.q hx hy hr.bw hr.bh n hn
  · subst e
    exact spots_linear border t W H x y w b hb hr.wp hr.q hx hy hr.bw hr.bh n hn
theorem idx_in {W H X Y : Int} {np : Nat} (hs : sizeB W H = true) (hn : (np : Int) = W * H) (hX : 0 ≤ X ∧ X < W) (hY : 0 ≤ Y ∧ Y < H) : IntKind.i64.wrap (Y * W) = Y * W ∧ IntKind.i64.wrap (Y * W + X) = Y * W + X ∧ 0 ≤ Y * W + X ∧ Y * W + X < (np : Int) ∧ (Y * W + X).toNat < np := by
  obtain ⟨a1, a2, a3, a4, a5, a6⟩ := sizeB_in hs
  have h1 : 0 ≤ Y * W := Int.mul_nonneg hY.1 (by omega)
  have h2 : Y * W + W ≤ H * W := by
    have : (Y + 1) * W ≤ H * W := Int.mul_le_mul_of_nonneg_right (by omega) (by omega)
    rw [Int.add_mul] at this
    omega
  rw [Int.mul_comm H W] at h2
  exact ⟨IntWalk.i64_in _ (by omega), IntWalk.i64_in _ (by omega), by omega, by omega, by omega⟩
end Go.Proofs.Ytdcpeeolfgohmaa
