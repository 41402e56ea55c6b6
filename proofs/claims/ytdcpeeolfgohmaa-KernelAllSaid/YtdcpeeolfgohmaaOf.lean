/- The contract of kernel.of: how far a kernel reaches, and its weight. -/
import Derived.Test.YtdcpeeolfgohmaaLeaf
import Derived.Laws.EntriesVeiled
namespace Go.Proofs.Ytdcpeeolfgohmaa
open Go.RowKit
set_option linter.unusedSimpArgs false
set_option linter.unusedVariables false

/-- A kernel's reach, and the number of its weight. -/
def kReach (kind : Int) : Int := if kind = 1 then 1 else if kind = 2 then 2 else 4
def kFn (kind : Int) : Nat := if kind = 1 then 120 else if kind = 2 then 121 else 122

set_option maxHeartbeats 800000 in
theorem of_yes (kind : Int) (h1 : 1 ≤ kind) (h3 : kind ≤ 3) (w : World) :
    Calls Try.prog 89 #[.int .i64 kind] w fun e w' => e = .returned (.tuple #[.agg #[.int .i64 (kReach kind), .func (.func (kFn kind)) #[] #[]], .bool true]) ∧ Below w.heap.size w w' := by
  have hk : kind = 1 ∨ kind = 2 ∨ kind = 3 := by omega
  clear h1 h3
  rcases hk with rfl | rfl | rfl
  all_goals
    go_enter Try.func89, Try.ntmps89
    go_wp2
    first
    | exact bodyPost_ret (v := .tuple #[.agg #[.int .i64 1, .func (.func 120) #[] #[]], .bool true]) (by simp [results, Try.results89, go_sem]) rfl ⟨rfl, (Below.refl _ _).alloc (Nat.le_refl _) _⟩
    | exact bodyPost_ret (v := .tuple #[.agg #[.int .i64 2, .func (.func 121) #[] #[]], .bool true]) (by simp [results, Try.results89, go_sem]) rfl ⟨rfl, (Below.refl _ _).alloc (Nat.le_refl _) _⟩
    | exact bodyPost_ret (v := .tuple #[.agg #[.int .i64 4, .func (.func 122) #[] #[]], .bool true]) (by simp [results, Try.results89, go_sem]) rfl ⟨rfl, (Below.refl _ _).alloc (Nat.le_refl _) _⟩

set_option maxHeartbeats 800000 in
theorem of_no (kind : Int) (h : kind < 1 ∨ 3 < kind) (w : World) :
    Calls Try.prog 89 #[.int .i64 kind] w fun e w' => e = .returned (.tuple #[.agg #[.int .i64 0, .nilFunc], .bool false]) ∧ Below w.heap.size w w' := by
  have k1 : (kind == 1) = false := beq_eq_false_iff_ne.2 (by omega)
  have k2 : (kind == 2) = false := beq_eq_false_iff_ne.2 (by omega)
  have k3 : (kind == 3) = false := beq_eq_false_iff_ne.2 (by omega)
  clear h
  go_enter Try.func89, Try.ntmps89
  go_wp2
  exact bodyPost_ret (v := .tuple #[.agg #[.int .i64 0, .nilFunc], .bool false]) (by simp [results, Try.results89, go_sem]) rfl ⟨rfl, (Below.refl _ _).alloc (Nat.le_refl _) _⟩
end Go.Proofs.Ytdcpeeolfgohmaa
