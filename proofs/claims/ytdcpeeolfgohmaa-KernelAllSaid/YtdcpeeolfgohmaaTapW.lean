/- kernel.taps: the shares that are not 0, with their places. -/
import Derived.Test.YtdcpeeolfgohmaaTapQ
import Derived.Test.YtdcpeeolfgohmaaWWords
namespace Go.Proofs.Ytdcpeeolfgohmaa
open Go.RowKit Go.Proofs.YtdcpeeolfgohmaaW.PrintWords
set_option linter.unusedSimpArgs false
set_option linter.unusedVariables false

theorem info_tap : (Try.prog.info? 98).map (fun i => (i.zero, i.size, i.bytes)) = some (some (.agg #[.int .i64 0, .int .i64 0]), 2, 16) := by kernel_rfl

def tapCells : List (Int × Int) → List Value
  | [] => []
  | (a, b) :: l => .int .i64 a :: .int .i64 b :: tapCells l
theorem tapCells_append : ∀ l r, tapCells (l ++ r) = tapCells l ++ tapCells r
  | [], r => rfl
  | (a, b) :: l, r => by simp only [List.cons_append, tapCells, tapCells_append l r]
theorem tapCells_length : ∀ l, (tapCells l).length = 2 * l.length
  | [] => rfl
  | (a, b) :: l => by simp only [tapCells, List.length_cons, tapCells_length l]; omega

/-- The shares that are not 0, with their places. -/
def tapsTo (p res : Nat → Int) : Nat → List (Int × Int)
  | 0 => []
  | k + 1 => tapsTo p res k ++ (if res k = 0 then [] else [(p k, res k)])
theorem tapsTo_len (p res : Nat → Int) : ∀ k, (tapsTo p res k).length ≤ k
  | 0 => by simp [tapsTo]
  | k + 1 => by
    have := tapsTo_len p res k
    rw [tapsTo]; split <;> simp <;> omega
theorem tapsTo_congr {p p' res res' : Nat → Int} : ∀ n, (∀ k, k < n → p k = p' k ∧ res k = res' k) → tapsTo p res n = tapsTo p' res' n
  | 0, _ => rfl
  | n + 1, h => by rw [tapsTo, tapsTo, tapsTo_congr n fun k hk => h k (by omega), (h n (by omega)).1, (h n (by omega)).2]

/-- What a call of taps leaves: a new row of taps. -/
def TapsOut (w : World) (l : List (Int × Int)) (v : Value) (w' : World) : Prop :=
  w'.ownsRow w.heap.size 98 2 v l.length (tapCells l) ∧ Below w.heap.size w w'

/-- What the shares of weights are. -/
def sharesOf (x : Nat → Int) (n : Nat) (S : Nat → Bool) (k : Nat) : Int := shOf x (sumTo x n) k + ((S k).toNat : Int)
def IsShares (x : Nat → Int) (n : Nat) (res : Nat → Int) : Prop :=
  ∃ S : Nat → Bool, TopSet (keyOf x (sumTo x n)) n (65536 - sumTo (shOf x (sumTo x n)) n).toNat S ∧ ∀ k, k < n → res k = sharesOf x n S k
theorem IsShares.same {x : Nat → Int} {n : Nat} {r r' : Nat → Int} (h : IsShares x n r) (h' : IsShares x n r') : ∀ k, k < n → r k = r' k := fun k hk => by
  obtain ⟨S, h1, h2⟩ := h
  obtain ⟨T, h3, h4⟩ := h'
  rw [h2 k hk, h4 k hk, sharesOf, sharesOf, h1.unique h3 k hk]

/-- What a call of taps comes to. -/
def KTapsEnd (w : World) (n : Nat) (p x : Nat → Int) (e : Ending) (w' : World) : Prop := ∃ v res, e = .returned v ∧ IsShares x n res ∧ TapsOut w (tapsTo p res n) v w'

set_option maxHeartbeats 1600000 in
set_option maxRecDepth 100000 in
theorem ktaps_calls (w : World) (n c0 c1 : Nat) (p x : Nat → Int) (a0 a1 : Addr) (hok : ShareOk x n)
    (hp : ∀ i, i < n → w.cell? (a0.add i) = some (.int .i64 (p i))) (hx : ∀ i, i < n → w.cell? (a1.add i) = some (.int .i64 (x i))) :
    Calls Try.prog 93 #[.slice (some a0) n c0, .slice (some a1) n c1] w fun e w' => KTapsEnd w n p x e w' := by
  have OK := Lib.hid hok
  have HP := Lib.hid hp
  have HX := Lib.hid hx
  have hn1 : 1 ≤ n := hok.1
  have hn : n ≤ 64 := hok.2.1
  clear hok hp hx
  go_enter Try.func93, Try.ntmps93
  go_wp2_with fail
  go_loop [6, 8, 13] (fun v6 v8 v13 => ∃ i : Nat, v13 = .int .i64 i ∧ i ≤ n ∧ v6 = .int .i64 (sumTo x i)) (fun _ _ v13 => n - (intOf v13).toNat)
  case atStart => exact ⟨0, rfl, by omega, rfl⟩
  case round =>
    obtain ⟨i, rfl, hi, rfl⟩ := hrel
    have hs := sumTo_bd' (i := i) (fun k hk => OK.out.2.2.1 k (by omega)) (by omega)
    obtain ⟨z, ez⟩ : ∃ z, z = sumTo x i := ⟨_, rfl⟩
    rw [← ez] at hs ⊢
    have EZ := Lib.hid ez
    obtain ⟨hs1, hs2⟩ := hs
    clear ez
    by_cases hlt : i < n
    · have hltz : (i : Int) < (n : Int) := by omega
      obtain ⟨y, ey⟩ : ∃ y, y = x i := ⟨_, rfl⟩
      have cx := HX.out i hlt
      have hy := OK.out.2.2.1 i hlt
      rw [← ey] at cx hy
      have EY := Lib.hid ey
      obtain ⟨hy1, hy2⟩ := hy
      clear ey
      go_wp2
      go_round
      case rel => exact ⟨i + 1, by go_num, by omega, by rw [sumTo, ← EZ.out, ← EY.out]⟩
      case measure => simp [intOf]; omega
    · have hltz : ¬ (i : Int) < (n : Int) := by omega
      have e : i = n := by omega
      subst e
      have hz1 : 1 ≤ z := by rw [EZ.out]; exact OK.out.2.2.2
      have hc := shares_calls w i c1 x z a1 hn1 hn hz1 (by omega) EZ.out HX.out OK.out.2.2.1
      have HC := Lib.hid hc
      clear hc
      go_wp2_with (go_at_call 94; refine HC.out.mono ?_; rintro e1 w1 ⟨bo, S, rfl, hq⟩; have HQ := Lib.hid hq; clear hq)
      obtain ⟨res, eres⟩ : ∃ res : Nat → Int, res = fun k => shOf x z k + ((S k).toNat : Int) := ⟨_, rfl⟩
      have HRES : Hid (IsShares x i res) := ⟨S, by rw [← EZ.out]; exact HQ.out.ts, fun k _ => by rw [eres, sharesOf, ← EZ.out]⟩
      have HBO : Hid (w1.heap[bo]? = some (.cells (arrI i res) 3 (0, 0))) := (show _ = _ by rw [eres]; exact HQ.out.io)
      have HBE : Hid (Below w.heap.size w w1) := HQ.out.be
      clear eres HQ HC hz1 EZ hs1 hs2 hltz hlt hi
      go_loopg [5, 9, 10, 25] i (fun k v5 v9 v10 v25 wr => ∃ (j : Nat) (A : Option Addr) (n5 c5 : Nat), v25 = .int .i64 j ∧ v5 = .slice A n5 c5 ∧ j ≤ i ∧ i ≤ j + k ∧ Aside (wr.ownsRow w1.heap.size 98 2 (.slice A n5 c5) (tapsTo p res j).length (tapCells (tapsTo p res j))) ∧ Aside (Below w1.heap.size w1 wr))
      case atStart => exact ⟨0, none, 0, 0, rfl, rfl, by omega, by omega, own_nil _ _ _ _, Below.refl _ _⟩
      case round =>
        obtain ⟨j, A5, n5, c5, rfl, rfl, hj, hk, HO, HB⟩ := hrel
        by_cases hlt : j < i
        · have hltz : (j : Int) < (i : Int) := by omega
          have hbo : wr.heap[bo]? = some (.cells (arrI i res) 3 (0, 0)) := by rw [HB.out.block bo (lt_of_block HBO.out)]; exact HBO.out
          obtain ⟨r, er⟩ : ∃ r, r = res j := ⟨_, rfl⟩
          obtain ⟨q, eq⟩ : ∃ q, q = p j := ⟨_, rfl⟩
          have c1 := (bcell hbo j).trans (arrI_get i res j hlt)
          have c2 : wr.cell? (a0.add j) = some (.int .i64 q) := by
            have h := HP.out j hlt
            have hb := World.block_lt_of_cell? _ _ h
            rw [HB.out.cell (Nat.lt_of_lt_of_le hb HBE.out.size), HBE.out.cell hb, h, eq]
          rw [← er] at c1
          have ER := Lib.hid er
          have EQ := Lib.hid eq
          have hlen := tapsTo_len p res j
          obtain ⟨l, el⟩ : ∃ l, l = tapsTo p res j := ⟨_, rfl⟩
          rw [← el] at hlen
          have HO' : Aside (wr.ownsRow w1.heap.size 98 2 (.slice A5 n5 c5) l.length (tapCells l)) := by rw [el]; exact HO
          have EL := Lib.hid el
          clear hbo er eq el HO
          by_cases hr0 : r = 0
          · have hd : (r != 0) = false := by rw [hr0]; rfl
            have R0 := Lib.hid hr0
            clear hr0
            go_wp2
            go_roundg (i - (j + 1))
            case measure => omega
            case rel =>
              refine ⟨j + 1, A5, n5, c5, by go_num, rfl, by omega, by omega, ?_, HB⟩
              have e : tapsTo p res (j + 1) = l := by rw [tapsTo, ← EL.out, ← ER.out, if_pos R0.out, List.append_nil]
              rw [e]; exact HO'
          · have hd : (r != 0) = true := by rw [bne_iff_ne]; exact hr0
            have R0 := Lib.hid hr0
            clear hr0
            go_wp2_with (at_builtin; go_loud (refine print_append_cells (P := Try.prog) (w0 := w1) w1.heap.size rfl (.tmp 32) (.tmp 39) 26 98 (.agg #[.int .i64 0, .int .i64 0]) 2 16 rfl Try.underlying26 info_tap rfl (by decide) (by decide) (.slice A5 n5 c5) l.length (tapCells l) [.int .i64 q, .int .i64 r] rfl rfl rfl ?ho HO'.out HB.out HB.out.size ?hl ?_); (case ho => simp [Value.oneCell']); (case hl => omega); intro v1 w2 hown hbel hg hat; obtain ⟨A1, q1, rfl⟩ := own_slice hown; have HO1 := Aside0.mk hown; have HB1 := Aside0.mk hbel; clear hown hbel hg hat)
            go_roundg (i - (j + 1))
            case measure => omega
            case rel =>
              refine ⟨j + 1, A1, _, q1, by go_num, rfl, by omega, by omega, ?_, HB1.out⟩
              have e : tapsTo p res (j + 1) = l ++ [(q, r)] := by rw [tapsTo, ← EL.out, ← ER.out, if_neg R0.out, ← EQ.out]
              rw [e, tapCells_append, List.length_append]; exact HO1.out
        · have hltz : ¬ (j : Int) < (i : Int) := by omega
          have e : j = i := by omega
          subst e
          go_wp2
          go_ret
          refine ⟨_, res, rfl, HRES.out, own_weaken HO.out HBE.out.size, ?_⟩
          exact HBE.out.trans ⟨HB.out.os, HB.out.tape, HB.out.output, HB.out.size, fun k hk => HB.out.block k (Nat.lt_of_lt_of_le hk HBE.out.size)⟩
end Go.Proofs.Ytdcpeeolfgohmaa
