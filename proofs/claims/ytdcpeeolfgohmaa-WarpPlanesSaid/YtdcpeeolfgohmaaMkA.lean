/- plane.of, its closure; halidehelp.May, few, made, Plane. -/
import Derived.Test.YtdcpeeolfgohmaaWmXQ
import Derived.Test.YtdcpeeolfgohmaaWords
namespace Go.Proofs.Ytdcpeeolfgohmaa
open Go.RowKit Go.Proofs.YtdcpeeolfgohmaaW.PrintWords
set_option linter.unusedSimpArgs false
set_option linter.unusedVariables false
attribute [local go_sem] Oper.semAt_some

/-- What plane.of tells: a function over a box. -/
def ofF (b : Nat) : Value := .func (.func 146) #[] #[.pointer (some ⟨b, 0, none⟩)]
set_option maxRecDepth 100000 in
theorem pof_calls (w : World) (W H : Int) (A : Option Addr) (n c : Nat) :
    Calls Try.prog 115 #[.agg (plC W H A n c)] w fun e w' => e = .returned (ofF w.heap.size) ∧ w' = w.alloc (.cells (plC W H A n c) 55) := by
  unfold ofF plC
  go_enter Try.func115, Try.ntmps115
  go_wp2
  go_ret
  exact ⟨rfl, rfl⟩
theorem pl_cells {w : World} {b : Nat} {W H : Int} {A : Option Addr} {n c : Nat} (hb : w.heap[b]? = some (.cells (plC W H A n c) 55 (0, 0))) : w.cell? ⟨b, 0, none⟩ = some (.int .i64 W) ∧ w.cell? ⟨b, 1, none⟩ = some (.int .i64 H) ∧ w.cell? ⟨b, 2, none⟩ = some (.slice A n c) := ⟨ucell hb 0, ucell hb 1, ucell hb 2⟩
set_option maxRecDepth 100000 in
theorem pof1_calls (w : World) (b : Nat) (W H : Int) (ad : Addr) (n c : Nat) (i j m : Int) (k : Nat) (v : Nat) (hb : w.heap[b]? = some (.cells (plC W H (some ad) n c) 55 (0, 0))) (Wm : IntKind.i64.wrap (j * W) = m) (Wk : IntKind.i64.wrap (m + i) = (k : Int)) (hk : k < n) (hc : w.cell? (ad.add k) = some (.int .u32 (v : Int))) :
    Calls Try.prog 146 #[.int .i64 i, .int .i64 j, .pointer (some ⟨b, 0, none⟩)] w fun e w' => e = .returned (.int .u32 (v : Int)) ∧ w = w' := by
  obtain ⟨b0, b1, b2⟩ := pl_cells hb
  clear hb
  go_enter Try.func146, Try.ntmps146
  go_wp2
  go_ret
  exact ⟨rfl, rfl⟩
/-- A function of two captured boxes: the function of a plane, and the plane. -/
structure Caps (w : World) (pa pb b : Nat) (W H : Int) (A : Option Addr) (n c : Nat) : Prop where
  at_ : w.cell? ⟨pa, 0, none⟩ = some (ofF b)
  bx : w.heap[b]? = some (.cells (plC W H A n c) 55 (0, 0))
  pl : w.heap[pb]? = some (.cells (plC W H A n c) 55 (0, 0))
set_option maxRecDepth 100000 in
theorem turn11_calls (w : World) (pa pb b : Nat) (W H : Int) (ad : Addr) (n c : Nat) (x y m : Int) (k v : Nat) (hcp : Caps w pa pb b W H (some ad) n c) (W1 : IntKind.i64.wrap (H - 1) = H - 1) (W2 : IntKind.i64.wrap (H - 1 - x) = H - 1 - x) (Wm : IntKind.i64.wrap ((H - 1 - x) * W) = m) (Wk : IntKind.i64.wrap (m + y) = (k : Int)) (hk : k < n) (hc : w.cell? (ad.add k) = some (.int .u32 (v : Int))) :
    Calls Try.prog 77 #[.int .i64 x, .int .i64 y, .pointer (some ⟨pa, 0, none⟩), .pointer (some ⟨pb, 0, none⟩)] w fun e w' => e = .returned (.int .u32 (v : Int)) ∧ w = w' := by
  have HF := Lib.hid (pof1_calls w b W H ad n c y (H - 1 - x) m k v hcp.bx Wm Wk hk hc)
  obtain ⟨b0, b1, b2⟩ := pl_cells hcp.pl
  have a0 := hcp.at_
  unfold ofF at a0
  clear hcp Wm Wk hk hc
  go_enter Try.func77, Try.ntmps77
  go_wp2_with (go_at_call 146; refine HF.out.mono ?_; rintro e1 w1 ⟨rfl, rfl⟩)
  go_ret
  exact ⟨rfl, rfl⟩
set_option maxRecDepth 100000 in
theorem flip11_calls (w : World) (pa pb b : Nat) (W H : Int) (ad : Addr) (n c : Nat) (x y m : Int) (k v : Nat) (hcp : Caps w pa pb b W H (some ad) n c) (W1 : IntKind.i64.wrap (W - 1) = W - 1) (W2 : IntKind.i64.wrap (W - 1 - x) = W - 1 - x) (Wm : IntKind.i64.wrap (y * W) = m) (Wk : IntKind.i64.wrap (m + (W - 1 - x)) = (k : Int)) (hk : k < n) (hc : w.cell? (ad.add k) = some (.int .u32 (v : Int))) :
    Calls Try.prog 81 #[.int .i64 x, .int .i64 y, .pointer (some ⟨pa, 0, none⟩), .pointer (some ⟨pb, 0, none⟩)] w fun e w' => e = .returned (.int .u32 (v : Int)) ∧ w = w' := by
  have HF := Lib.hid (pof1_calls w b W H ad n c (W - 1 - x) y m k v hcp.bx Wm Wk hk hc)
  obtain ⟨b0, b1, b2⟩ := pl_cells hcp.pl
  have a0 := hcp.at_
  unfold ofF at a0
  clear hcp Wm Wk hk hc
  go_enter Try.func81, Try.ntmps81
  go_wp2_with (go_at_call 146; refine HF.out.mono ?_; rintro e1 w1 ⟨rfl, rfl⟩)
  go_ret
  exact ⟨rfl, rfl⟩
end Go.Proofs.Ytdcpeeolfgohmaa
