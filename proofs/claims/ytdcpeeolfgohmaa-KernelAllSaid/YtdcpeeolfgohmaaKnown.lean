/- halidelaw9.known. -/
import Derived.Test.YtdcpeeolfgohmaaBin
namespace Go.Proofs.Ytdcpeeolfgohmaa
open Go.RowKit Go.Proofs.YtdcpeeolfgohmaaW.PrintWords
set_option linter.unusedSimpArgs false
set_option linter.unusedVariables false

/-! ### Rows read -/
theorem RowI.below {w w1 : World} {A : Option Addr} {n : Nat} {x : Nat → Int} (h : RowI w A n x) (hb : Below w.heap.size w w1) : RowI w1 A n x := fun hn => by
  obtain ⟨ad, e, hc⟩ := h hn
  exact ⟨ad, e, fun i hi => by rw [hb.cell (World.block_lt_of_cell? _ _ (hc i hi))]; exact hc i hi⟩
theorem own_rowI {W : World} {base c n : Nat} {e : TypeId} {A : Option Addr} {xs : List Int} (h : W.ownsRow base e 1 (.slice A n c) n (nums .i64 xs)) : RowI W A n (fun k => rd xs (k : Int)) := fun hn => by
  obtain ⟨g, rfl⟩ := own_some h hn
  exact ⟨_, rfl, fun i hi => by rw [add_plain]; exact (own_at h (i : Int) (by omega) (by omega)).1⟩
theorem lit_rowI (W : World) (e : TypeId) (xs : List Int) (hm : xs.length ≤ 9223372036854775807) : RowI (W.alloc (.cells (nums .i64 xs).toArray e)) (some ⟨W.heap.size, 0, none⟩) xs.length (fun k => rd xs (k : Int)) :=
  own_rowI (own_lit W W.heap.size e .i64 xs (Nat.le_refl _) hm)
theorem arrI_rowI {W : World} {bo n : Nat} {e : TypeId} {f : Nat → Int} (h : W.heap[bo]? = some (.cells (arrI n f) e (0, 0))) : RowI W (some ⟨bo, 0, none⟩) n f := fun hn =>
  ⟨_, rfl, fun i hi => by rw [add_plain, bcell h]; exact arrI_get n f i hi⟩

theorem tapCells_get : ∀ (l : List (Int × Int)) (i : Nat), i < l.length → (tapCells l)[i * 2]? = some (.int .i64 (tapP l i)) ∧ (tapCells l)[i * 2 + 1]? = some (.int .i64 (tapW l i))
  | [], i, h => by simp at h
  | (a, b) :: l, 0, _ => ⟨rfl, rfl⟩
  | (a, b) :: l, i + 1, h => by
    have ih := tapCells_get l i (by simpa using h)
    have e1 : (i + 1) * 2 = i * 2 + 1 + 1 := by omega
    have e2 : (i + 1) * 2 + 1 = i * 2 + 1 + 1 + 1 := by omega
    rw [e2, e1]
    simp only [tapCells, List.getElem?_cons_succ]
    exact ih
theorem own_rowT {W : World} {base c : Nat} {e : TypeId} {A : Option Addr} {l : List (Int × Int)} (h : W.ownsRow base e 2 (.slice A l.length c) l.length (tapCells l)) : RowT W A l.length (tapP l) (tapW l) := fun hn => by
  obtain ⟨g, cap, hv, _, _⟩ := h.form hn
  injection hv with hv1 _ _
  subst hv1
  refine ⟨_, rfl, fun i hi => ?_⟩
  have hc := tapCells_get l i hi
  have h1 := h.cells (g := g) rfl _ _ hc.1
  have h2 := h.cells (g := g) rfl _ _ hc.2
  rw [add_plain] at h1 h2
  rw [add_plain]
  exact ⟨h1, h2⟩
theorem RowT.below {w w1 : World} {A : Option Addr} {n : Nat} {p q : Nat → Int} (h : RowT w A n p q) (hb : Below w.heap.size w w1) : RowT w1 A n p q := fun hn => by
  obtain ⟨ad, e, hc⟩ := h hn
  refine ⟨ad, e, fun i hi => ?_⟩
  obtain ⟨h1, h2⟩ := hc i hi
  exact ⟨by rw [hb.cell (World.block_lt_of_cell? _ _ h1)]; exact h1, by rw [hb.cell (World.block_lt_of_cell? _ _ h2)]; exact h2⟩
theorem lit_rowT (W : World) (e : TypeId) (l : List (Int × Int)) (hm : l.length ≤ 4611686018427387903) : RowT (W.alloc (.cells (tapCells l).toArray e)) (some ⟨W.heap.size, 0, none⟩) l.length (tapP l) (tapW l) := by
  have h := World.ownsRow_lit (base := W.heap.size) (e := e) (size := 2) W (tapCells l).toArray l.length (Nat.le_refl _) (by simp [maxLen]; omega) (by simp [tapCells_length]; omega)
  exact own_rowT (l := l) (c := l.length) (by simpa using h)

/-! ### What is told, as lists -/
def IsTaps (kind from' tt i : Int) (l : List (Int × Int)) : Prop :=
  (tapsErr kind from' tt i ≠ 0 ∧ l = []) ∨
  (tapsErr kind from' tt i = 0 ∧ ∃ res, IsShares (tapW (tapsOf kind from' tt i)) (tapsOf kind from' tt i).length res ∧ l = tapsTo (tapP (tapsOf kind from' tt i)) res (tapsOf kind from' tt i).length)
theorem IsTaps.unique {kind from' tt i : Int} {l l' : List (Int × Int)} (h : IsTaps kind from' tt i l) (h' : IsTaps kind from' tt i l') : l = l' := by
  rcases h with ⟨h1, rfl⟩ | ⟨h1, res, h2, rfl⟩
  · rcases h' with ⟨_, rfl⟩ | ⟨h3, _⟩
    · rfl
    · exact absurd h3 h1
  · rcases h' with ⟨h3, _⟩ | ⟨_, res', h4, rfl⟩
    · exact absurd h1 h3
    · exact tapsTo_congr _ fun k hk => ⟨rfl, h2.same h4 k hk⟩
theorem IsTaps.len {kind from' tt i : Int} {l : List (Int × Int)} (h : IsTaps kind from' tt i l) : l.length ≤ 62 := by
  rcases h with ⟨h1, rfl⟩ | ⟨h1, res, h2, rfl⟩
  · simp
  · have := (tap_len (tapsErr_may h1)).2
    have := tapsTo_len (tapP (tapsOf kind from' tt i)) res (tapsOf kind from' tt i).length
    omega
/-- What a call of Taps comes to, as a list. -/
def TapsTold (w : World) (kind from' tt i : Int) (e : Ending) (w' : World) : Prop :=
  ∃ A l c, e = .returned (.tuple #[.slice A l.length c, .int .i64 (tapsErr kind from' tt i)]) ∧ IsTaps kind from' tt i l ∧ w'.ownsRow w.heap.size 98 2 (.slice A l.length c) l.length (tapCells l) ∧ Below w.heap.size w w'
theorem TapsEnd.told {w w' : World} {kind from' tt i : Int} {e : Ending} (h : TapsEnd w kind from' tt i e w') : TapsTold w kind from' tt i e w' := by
  rcases h with ⟨h1, rfl, hb⟩ | ⟨h1, v, res, rfl, hs, hto⟩
  · exact ⟨none, [], 0, rfl, .inl ⟨h1, rfl⟩, own_nil _ _ _ _, hb⟩
  · obtain ⟨A, c, rfl⟩ := own_slice hto.1
    exact ⟨A, _, c, by rw [h1], .inr ⟨h1, res, hs, rfl⟩, hto.1, hto.2⟩
theorem kTaps_told (kind from' tt i : Int) (w : World) :
    Calls Try.prog 47 #[.int .i64 kind, .int .i64 from', .int .i64 tt, .int .i64 i] w fun e w' => TapsTold w kind from' tt i e w' :=
  (kTaps_calls kind from' tt i w).mono fun _ _ h => h.told

/-- A share, as numbers. -/
def IsShareOf (n : Nat) (x : Nat → Int) (m : Nat) (y : Nat → Int) (er : Int) : Prop :=
  (ShareOk x n ∧ m = n ∧ er = 0 ∧ IsShares x n y) ∨ (¬ ShareOk x n ∧ m = 0 ∧ er = 91)
theorem IsShareOf.unique {n m m' : Nat} {x y y' : Nat → Int} {er er' : Int} (h : IsShareOf n x m y er) (h' : IsShareOf n x m' y' er') : er = er' ∧ SameI m m' y y' := by
  rcases h with ⟨h1, rfl, rfl, h2⟩ | ⟨h1, rfl, rfl⟩
  · rcases h' with ⟨_, rfl, rfl, h4⟩ | ⟨h3, _⟩
    · exact ⟨rfl, rfl, fun k hk => h2.same h4 k hk⟩
    · exact absurd h1 h3
  · rcases h' with ⟨h3, _⟩ | ⟨_, rfl, rfl⟩
    · exact absurd h3 h1
    · exact ⟨rfl, rfl, fun k hk => by omega⟩
def ShareTold (w : World) (n : Nat) (x : Nat → Int) (e : Ending) (w' : World) : Prop :=
  ∃ A m y er, e = .returned (.tuple #[.slice A m m, .int .i64 er]) ∧ IsShareOf n x m y er ∧ RowI w' A m y ∧ m ≤ n ∧ Below w.heap.size w w'
theorem ShareEnd.told {w w' : World} {n : Nat} {x : Nat → Int} {e : Ending} (h : ShareEnd w n x e w') : ShareTold w n x e w' := by
  rcases h with ⟨h1, bo, S, rfl, hs⟩ | ⟨h1, rfl, hb⟩
  · exact ⟨_, n, _, 0, rfl, .inl ⟨h1, rfl, rfl, S, hs.ts, fun k hk => rfl⟩, arrI_rowI hs.io, Nat.le_refl _, hs.be⟩
  · exact ⟨none, 0, fun _ => 0, 91, rfl, .inr ⟨h1, rfl, rfl⟩, fun h => by omega, Nat.zero_le _, hb⟩
theorem kShare_told (w : World) (n c : Nat) (x : Nat → Int) (A : Option Addr) (hr : RowI w A n x) (hn64 : n ≤ 9223372036854775807) :
    Calls Try.prog 48 #[.slice A n c] w fun e w' => ShareTold w n x e w' :=
  (kShare_calls w n c x A hr hn64).mono fun _ _ h => h.told

/-! ### Three known answers -/
theorem topSet_of {K : Int → Int} {n m : Nat} {S : Nat → Bool} (h : countTo S n = m ∧ ∀ a, a < n → ∀ b, b < n → S a = true → S b = false → K b < K a ∨ (K a = K b ∧ (a : Int) < (b : Int))) : TopSet K n m S :=
  ⟨h.1, fun a b ha hb hSa hSb => h.2 a ha b hb hSa hSb⟩
theorem IsShares.at {x : Nat → Int} {n : Nat} {res : Nat → Int} (h : IsShares x n res) (S : Nat → Bool)
    (hS : countTo S n = (65536 - sumTo (shOf x (sumTo x n)) n).toNat ∧ ∀ a, a < n → ∀ b, b < n → S a = true → S b = false → keyOf x (sumTo x n) b < keyOf x (sumTo x n) a ∨ (keyOf x (sumTo x n) a = keyOf x (sumTo x n) b ∧ (a : Int) < (b : Int))) :
    ∀ k, k < n → res k = sharesOf x n S k := h.same ⟨S, topSet_of hS, fun _ _ => rfl⟩
theorem tapsTo_of {p res res' : Nat → Int} {n : Nat} {l : List (Int × Int)} (h : ∀ k, k < n → res k = res' k) (hl : tapsTo p res' n = l) : tapsTo p res n = l := by
  rw [← hl]; exact tapsTo_congr n fun k hk => ⟨rfl, h k hk⟩

theorem known1 {l : List (Int × Int)} (h : IsTaps 2 2 4 1 l) : l = [(0, 49152), (1, 16384)] := by
  have e0 : tapsErr 2 2 4 1 = 0 := by decide +kernel
  rcases h with ⟨h, _⟩ | ⟨_, res, h, rfl⟩
  · exact absurd e0 h
  · have e : tapsOf 2 2 4 1 = [(0, 768), (1, 256)] := by decide +kernel
    rw [e] at h ⊢
    exact tapsTo_of (h.at (fun _ => false) (by decide +kernel)) (by decide +kernel)
theorem known2 {l : List (Int × Int)} (h : IsTaps 3 2 4 1 l) : l = [(0, 52224), (1, 13312)] := by
  have e0 : tapsErr 3 2 4 1 = 0 := by decide +kernel
  rcases h with ⟨h, _⟩ | ⟨_, res, h, rfl⟩
  · exact absurd e0 h
  · have e : tapsOf 3 2 4 1 = [(0, 816), (1, 208)] := by decide +kernel
    rw [e] at h ⊢
    exact tapsTo_of (h.at (fun _ => false) (by decide +kernel)) (by decide +kernel)
theorem known3 {m : Nat} {y : Nat → Int} {er : Int} (h : IsShareOf 3 (fun k => rd [1, 1, 1] (k : Int)) m y er) : er = 0 ∧ m = 3 ∧ ∀ k, k < 3 → y k = rd [21846, 21845, 21845] (k : Int) := by
  have ok : ShareOk (fun k => rd [1, 1, 1] (k : Int)) 3 := ⟨by decide, by decide, by decide +kernel, by decide +kernel⟩
  rcases h with ⟨_, rfl, rfl, h⟩ | ⟨h, _⟩
  · refine ⟨rfl, rfl, fun k hk => ?_⟩
    rw [h.at (fun k => k == 0) (by decide +kernel) k hk]
    have : ∀ k, k < 3 → sharesOf (fun k => rd [1, 1, 1] (k : Int)) 3 (fun k => k == 0) k = rd [21846, 21845, 21845] (k : Int) := by decide +kernel
    exact this k hk
  · exact absurd ok h
theorem known4 : binErr 2 = 0 ∧ binRow 2 = [1, 4, 6, 4, 1] := by decide +kernel
end Go.Proofs.Ytdcpeeolfgohmaa
