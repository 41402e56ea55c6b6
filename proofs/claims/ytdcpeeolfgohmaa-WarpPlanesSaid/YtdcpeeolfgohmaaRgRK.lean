/- A region that draws its order, within a round of a range over a function: from the plain law. Orders of a drawn region whose last operations overwrite what the first ones read: reads are taken first under a word S that need not hold behind the late operations. -/
import Derived.Test.YtdcpeeolfgohmaaWrap
import Derived.RangeFuncBound
import Derived.RangeFuncCalls
import Derived.OrdersHeld
import Derived.OrdersIn
import Derived.TacticsInMore
namespace Go.Proofs.Ytdcpeeolfgohmaa
open Go.RowKit
set_option linter.unusedSimpArgs false
set_option linter.unusedVariables false

theorem rowsIn_wide {n : Nat} {P : Program} {row : String} {args : Array Value} {w : World} {R : Value → World → Prop} (h : Rows P row args w R) : RowsIn Fence.wide n P row args w R := fun c cs _ => by
  obtain ⟨v, w', r, s⟩ := h c cs
  exact ⟨v, w', r, stepsIn_wide.2 s⟩
theorem wp_round {l n : Nat} {P : Program} {o : Oper} {a : Act} {w : World} {K : Act → World → Prop} {Q : Exit → Act → World → Prop} (hd : ∀ c, o.op ≠ .defer c) (h : o.wp P a w K Q) : o.wpIn (Fence.wide.inRound l) n P a w K Q := by
  refine ⟨fun f _ => trivial, ?_⟩
  rw [Oper.semAt_eq _ _ _ hd]
  unfold Oper.wp at h
  generalize (execOp a.eval o).run P w = r at h ⊢
  cases r with
  | ok x w' =>
    cases x
    case enter f args => exact ⟨fun h => by simp [Fence.wide] at h, CallsIn.inRound l (callsIn_wide.2 h)⟩
    case row r args => exact ⟨fun h => by simp [Fence.wide] at h, rowsIn_wide h⟩
    all_goals first | exact h | exact False.elim h
  | halt x w' => cases x <;> exact h
theorem wpOps_round {l n : Nat} {P : Program} {ops : Array Oper} {Q : Exit → Act → World → Prop} (hd : ∀ (i : Nat) (o : Oper), ops[i]? = some o → ∀ c, o.op ≠ .defer c) (hQ : ¬ LetsOut Q) : ∀ (is : List Nat) (a : Act) (w : World), wpOps P ops Q is a w → wpOpsIn (Fence.wide.inRound l) n P ops Q is a w
  | [], _, _, h => h
  | i :: is, a, w, h => by
    rw [wpOps_cons] at h
    rw [wpOpsIn_cons]
    unfold wpOp at h
    unfold wpOpIn
    cases hi : ops[i]? with
    | none => rw [hi] at h; exact wpOps_round hd hQ is a w h
    | some o =>
      rw [hi] at h
      dsimp only at h ⊢
      split
      · rename_i hw
        rw [if_pos hw] at h
        rcases h with h | h
        · exact Oper.wpIn_mono (fun a w h => wpOps_round hd hQ is a w h) (wp_round (hd i o hi) h)
        · exact absurd h.2 hQ
      · rename_i hw
        rw [if_neg hw] at h
        exact ⟨fun f _ => trivial, wpOps_round hd hQ is _ w h⟩
/-- THE LAW: a drawing region within a round, by the plain law on its orders. -/
theorem wpIn_region_round {l n : Nat} {P : Program} {id : Nat} {ops : Array Oper} {Q : Exit → Act → World → Prop} {a : Act} {w : World} (hm : P.follows .mixedOrders = true) (hd : ∀ (i : Nat) (o : Oper), ops[i]? = some o → ∀ c, o.op ≠ .defer c) (hQ : ¬ LetsOut Q)
    (h : wpAny P .any ops Q ops.size (Array.replicate ops.size false) a { w with drawn := w.drawn + 1 }) : (Code.region id ops true).wpIn (Fence.wide.inRound l) n P Q a w :=
  wpIn_region_draw fun t => by
    simp only [Region.schedule, hm, Bool.true_or, if_true]
    exact wpOps_round hd hQ _ _ _ (wpAny_sound ops.size t _ a _ h)

/-! ### Going through the orders by a word on the state -/
/-- An order's state: what has come up, the frame, the world; kept by every operation that may come up: then every order ends well. -/
theorem wpAny_inv {P : Program} {md : Region.Mode} {ops : Array Oper} {Q : Exit → Act → World → Prop} (I : Nat → Array Bool → Act → World → Prop)
    (h0 : ∀ fuel listed a w, I fuel listed a w → Region.ready md ops listed = [] → Q .normal a w)
    (h1 : ∀ listed a w, I 0 listed a w → Region.ready md ops listed = [])
    (hs : ∀ fuel listed a w i, I (fuel + 1) listed a w → i ∈ Region.ready md ops listed → wpOp P ops Q i (I fuel (listed.setIfInBounds i true)) a w) :
    ∀ (fuel : Nat) (listed : Array Bool) (a : Act) (w : World), I fuel listed a w → wpAny P md ops Q fuel listed a w
  | 0, listed, a, w, h => ⟨h1 _ _ _ h, h0 _ _ _ _ h (h1 _ _ _ h)⟩
  | fuel + 1, listed, a, w, h => ⟨h0 _ _ _ _ h, fun i hi => wpOp_mono (fun a w h => wpAny_inv I h0 h1 hs fuel _ a w h) (hs _ _ _ _ i h hi)⟩
end Go.Proofs.Ytdcpeeolfgohmaa

namespace Go.Proofs.Ytdcpeeolfgohmaa
open Go.RowKit
set_option linter.unusedSimpArgs false
set_option linter.unusedVariables false

section
variable {P : Program} {md : Region.Mode} {ops : Array Oper} {Q : Exit → Act → World → Prop} {S : World → Prop} {T : List Nat}

/-- As 'wpAnyH', but S is not asked behind the late operations T. -/
def wpAnyK (P : Program) (md : Region.Mode) (ops : Array Oper) (Q : Exit → Act → World → Prop) (S : World → Prop) (T : List Nat) : Nat → Array Bool → Act → World → Prop
  | 0, listed, a, w => Region.ready md ops listed = [] ∧ Q .normal a w
  | fuel + 1, listed, a, w =>
    (Region.ready md ops listed = [] → Q .normal a w) ∧
    ∀ i ∈ Region.ready md ops listed, wpOp P ops Q i (fun a' w' => (T.contains i = false → S w') ∧ wpAnyK P md ops Q S T fuel (listed.setIfInBounds i true) a' w') a w
theorem wpAny_of_K : ∀ (fuel : Nat) (listed : Array Bool) (a : Act) (w : World), wpAnyK P md ops Q S T fuel listed a w → wpAny P md ops Q fuel listed a w
  | 0, _, _, _, h => h
  | fuel + 1, _, _, _, h => ⟨h.1, fun i hi => wpOp_mono (fun a' w' h' => wpAny_of_K fuel _ a' w' h'.2) (h.2 i hi)⟩
/-- Every operation of U waits for i, or for one of U. -/
def lateOk (md : Region.Mode) (ops : Array Oper) (U : List Nat) (i : Nat) : Bool := U.all fun t => match ops[t]? with
  | some o => o.after.any fun e => Region.binds md e && (e.on == i || U.contains e.on)
  | none => false
def noneOf (listed : Array Bool) (U : List Nat) : Bool := U.all fun t => !(listed.getD t true)
theorem late_not_ready {U : List Nat} {i j : Nat} {listed : Array Bool} (hU : lateOk md ops U i = true) (hl : noneOf listed U = true) (hi : listed.getD i true = false) (hj : j ∈ Region.ready md ops listed) : U.contains j = false := by
  rw [Bool.eq_false_iff]
  intro hc
  obtain ⟨_, oj, hoj, hall⟩ := mem_ready.1 hj
  have h1 := List.all_eq_true.1 hU j (by simpa using hc)
  rw [hoj] at h1
  obtain ⟨e, he, hb⟩ := Array.any_eq_true'.1 h1
  simp only [Bool.and_eq_true, Bool.or_eq_true, beq_iff_eq] at hb
  have h2 := hall e he hb.1
  have h3 : listed.getD e.on true = false := by
    rcases hb.2 with h | h
    · rw [h]; exact hi
    · have := List.all_eq_true.1 hl e.on (by simpa using h)
      simpa using this
  rcases Nat.lt_or_ge e.on listed.size with h' | h'
  · simp [h'] at h3 h2; rw [h3] at h2; cases h2
  · simp [Array.getElem?_eq_none h'] at h2
theorem noneOf_set {U : List Nat} {j : Nat} {listed : Array Bool} (hl : noneOf listed U = true) (hj : U.contains j = false) : noneOf (listed.setIfInBounds j true) U = true := by
  refine List.all_eq_true.2 fun t ht => ?_
  have hne : j ≠ t := fun e => by
    rw [e] at hj
    have : U.contains t = true := by simpa using ht
    rw [this] at hj
    cases hj
  rw [getD_set_ne true hne]
  exact List.all_eq_true.1 hl t ht
theorem wpAnyK_first {U : List Nat} {i : Nat} {oi : Oper} {v : Value} (hi : ops[i]? = some oi) (hsel : ∀ (j : Nat) (o : Oper) cs b, ops[j]? = some o → o.op ≠ .select cs b)
    (hQ : ∀ c a w, Q (.panic c) (a.put oi.dst v) w → Q (.panic c) a w) (hU : lateOk md ops U i = true) (hTU : ∀ j, U.contains j = false → T.contains j = false) :
    ∀ (fuel : Nat) (listed : Array Bool) (a : Act) (w : World),
      (∀ j oj, ops[j]? = some oj → j ≠ i → listed.getD j true = false → (∀ e ∈ oj.after, Region.binds md e = true → e.on ≠ i) → oi.apart ops oj = true) →
      noneOf listed U = true →
      i ∈ Region.ready md ops listed → YieldsIf P ops S oi v a → S w →
      wpAnyK P md ops Q S T fuel (listed.setIfInBounds i true) (a.put oi.dst v) w → wpAnyK P md ops Q S T (fuel + 1) listed a w := by
  intro fuel
  induction fuel with
  | zero =>
    intro listed a w _ _ hr hy hS H
    refine ⟨fun h => (by rw [h] at hr; cases hr), fun j hj => ?_⟩
    by_cases hji : j = i
    · subst hji; exact hy.wpOp hi hS ⟨fun _ => hS, H⟩
    · have := ready_mono hj hji
      rw [H.1] at this
      cases this
  | succ fuel ih =>
    intro listed a w hfree hnone hr hy hS H
    refine ⟨fun h => (by rw [h] at hr; cases hr), fun j hj => ?_⟩
    by_cases hji : j = i
    · subst hji; exact hy.wpOp hi hS ⟨fun _ => hS, H⟩
    · have h1 := H.2 j (ready_mono hj hji)
      have hjU : U.contains j = false := late_not_ready hU hnone (mem_ready.1 hr).1 hj
      obtain ⟨hjun, oj, hoj, hall⟩ := mem_ready.1 hj
      have hnot : ∀ e ∈ oj.after, Region.binds md e = true → e.on ≠ i := fun e he hb heq => by
        have h1 := hall e he hb
        have h0 := (mem_ready.1 hr).1
        rw [heq] at h1
        rcases Nat.lt_or_ge i listed.size with h' | h'
        · simp [h'] at h0 h1; rw [h0] at h1; cases h1
        · simp [Array.getElem?_eq_none h'] at h1
      have h2 := wpOp_putIf hoj (hfree j oj hoj hji hjun hnot) (fun cs b => hsel i oi cs b hi) (fun cs b => hsel j oj cs b hoj) hQ hy h1
      have hfree' : ∀ k ok, ops[k]? = some ok → k ≠ i → (listed.setIfInBounds j true).getD k true = false →
          (∀ e ∈ ok.after, Region.binds md e = true → e.on ≠ i) → oi.apart ops ok = true := fun k ok hk hki hun hno => by
        refine hfree k ok hk hki ?_ hno
        by_cases hjk : j = k
        · subst hjk; exact hjun
        · rw [getD_set_ne true hjk] at hun; exact hun
      refine wpOp_mono (fun a' w' h3 => ⟨h3.2.1, ih (listed.setIfInBounds j true) a' w' hfree' (noneOf_set hnone hjU) (ready_mono hr (Ne.symm hji)) h3.1 (h3.2.1 (hTU j hjU)) ?_⟩) h2
      rw [Array.setIfInBounds_comm _ _ hji]
      exact h3.2.2
/-- Take number i first: U, what waits for it, holds all late operations. -/
theorem wpAnyK_take (U : List Nat) {i : Nat} {oi : Oper} {rest : List Oper} {v : Value} {fuel : Nat} {listed : Array Bool} {a : Act} {w : World} (hi : ops.toList.drop i = oi :: rest)
    (hs : Region.noSelect ops = true) (hf : Region.free md ops listed i = true) (hr : (Region.ready md ops listed).contains i = true) (hT : (lateOk md ops U i && noneOf listed U && T.all (U.contains ·)) = true)
    (hQ : ∀ c a w, Q (.panic c) (a.put oi.dst v) w → Q (.panic c) a w) (hy : YieldsIf P ops S oi v a) (hS : S w)
    (h : wpAnyK P md ops Q S T fuel (listed.setIfInBounds i true) (a.put oi.dst v) w) : wpAnyK P md ops Q S T (fuel + 1) listed a w := by
  simp only [Bool.and_eq_true] at hT
  have hi' : ops[i]? = some oi := by
    have := congrArg (fun l => l[0]?) hi
    simpa using this
  refine wpAnyK_first hi' (Region.noSelect_spec hs) hQ hT.1.1 (fun j hj => ?_) fuel listed a w (Region.free_spec hi' hf) hT.1.2 (by simpa using hr) hy hS h
  rw [Bool.eq_false_iff]
  intro hc
  have := List.all_eq_true.1 hT.2 j (by simpa using hc)
  rw [hj] at this
  cases this
/-- Each of the operations 'rs' comes up next. -/
def ReadyK (P : Program) (md : Region.Mode) (ops : Array Oper) (Q : Exit → Act → World → Prop) (S : World → Prop) (T : List Nat) (fuel : Nat) (listed : Array Bool) (a : Act) (w : World) (rs : List Nat) : Prop :=
  ∀ i ∈ rs, wpOp P ops Q i (fun a' w' => (T.contains i = false → S w') ∧ wpAnyK P md ops Q S T fuel (listed.setIfInBounds i true) a' w') a w
theorem ReadyK.nil {fuel : Nat} {listed : Array Bool} {a : Act} {w : World} : ReadyK P md ops Q S T fuel listed a w [] := fun _ h => by cases h
def WayK (p : Prop) : Prop := p
theorem WayK.out {p : Prop} (h : WayK p) : p := h
theorem ReadyK.cons {fuel : Nat} {listed : Array Bool} {a : Act} {w : World} {i : Nat} {o : Oper} {rest : List Oper} {rs : List Nat} (ho : ops.toList.drop i = o :: rest)
    (h : ∀ K' : Act → World → Prop, WayK (∀ a w, (T.contains i = false → S w) → wpAnyK P md ops Q S T fuel (listed.setIfInBounds i true) a w → K' a w) → if Region.wanted o (yielded ops a.tmps) = true then Oper.wp P o a w K' Q else K' (a.put o.dst undef) w)
    (hs : ReadyK P md ops Q S T fuel listed a w rs) : ReadyK P md ops Q S T fuel listed a w (i :: rs) := fun j hj => by
  rcases List.mem_cons.1 hj with rfl | hj
  · have ho' : ops[j]? = some o := by
      have := congrArg (fun l => l[0]?) ho
      simpa using this
    exact wpOp_step ho' (fun K' hK => h K' (fun a w hS hW => hK a w ⟨hS, hW⟩))
  · exact hs j hj
theorem wpAnyK_ready {rs : List Nat} {fuel : Nat} {listed : Array Bool} {a : Act} {w : World} (hr : Region.ready md ops listed = rs) (hne : rs ≠ [])
    (h : ReadyK P md ops Q S T fuel listed a w rs) : wpAnyK P md ops Q S T (fuel + 1) listed a w := ⟨fun h0 => absurd (hr ▸ h0) hne, hr ▸ h⟩
theorem wpAnyK_done {listed : Array Bool} {a : Act} {w : World} (hr : Region.ready md ops listed = []) (h : Q .normal a w) :
    ∀ fuel, wpAnyK P md ops Q S T fuel listed a w
  | 0 => ⟨hr, h⟩
  | _ + 1 => ⟨fun _ => h, by rw [hr]; simp⟩
end
theorem wpIn_region_wide {n : Nat} {P : Program} {id : Nat} {ops : Array Oper} {Q : Exit → Act → World → Prop} {a : Act} {w : World} (S : World → Prop) (T : List Nat) (l : Nat) (hm : P.follows .mixedOrders = true) (hd : ops.all (fun o => match o.op with | .defer _ => false | _ => true) = true) (hQ : ¬ LetsOut Q)
    (h : wpAnyK P .any ops Q S T ops.size (Array.replicate ops.size false) a w.drew) : (Code.region id ops true).wpIn (Fence.wide.inRound l) n P Q a w :=
  wpIn_region_round hm (fun i o ho c hc => by
    have := (Array.all_eq_true_iff_forall_mem.1 hd) o (Array.mem_of_getElem? ho)
    rw [hc] at this
    cases this) hQ (wpAny_of_K _ _ _ _ h)
end Go.Proofs.Ytdcpeeolfgohmaa
