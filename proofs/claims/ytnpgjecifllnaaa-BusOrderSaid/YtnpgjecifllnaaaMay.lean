/- What is proved here: may, whatever the transaction. Condition: its address is none below 0. -/
import Derived.Test.YtnpgjecifllnaaaClone
set_option linter.unusedSimpArgs false
set_option linter.unusedVariables false
namespace Go.Proofs.Ytnpgjecifllnaaa
open Go Go.RowKit

/-- A transaction's value. -/
abbrev askV (port id kind addr beats : Int) (dv sv : Value) (size : Int) : Value := .agg #[.int .i64 port, .int .i64 id, .int .i64 kind, .int .u64 addr, .int .i64 beats, dv, sv, .int .i64 size]
def MayP (port id kind addr beats : Int) (nd ns : Nat) (size : Int) : Prop := 0 ≤ port ∧ port < 3 ∧ 0 ≤ id ∧ id < 16 ∧ (beats = 1 ∨ beats = 8) ∧ 0 ≤ size ∧ size ≤ 8 ∧ (size = 0 → addr % 8 = 0) ∧ ((kind = 1 ∧ nd = 0 ∧ ns = 0) ∨ (kind = 2 ∧ (nd : Int) = 8 * beats ∧ (ns : Int) = 8 * beats))
instance (port id kind addr beats : Int) (nd ns : Nat) (size : Int) : Decidable (MayP port id kind addr beats nd ns size) := by unfold MayP; infer_instance
def RetB (b : Prop) [Decidable b] (w : World) (e : Ending) (w' : World) : Prop := e = .returned (.bool (decide b)) ∧ Old w w' No

set_option maxHeartbeats 4000000 in
set_option maxRecDepth 100000 in
theorem may_calls {port id kind addr beats size : Int} {db sb : Option Addr} {nd dc ns sc : Nat} {w : World} (ha : 0 ≤ addr) :
    Calls Try.prog 30 #[askV port id kind addr beats (.slice db nd dc) (.slice sb ns sc) size] w (RetB (MayP port id kind addr beats nd ns size) w) := by
  have hwr : Hid ((beats = 1 ∨ beats = 8) → wrap64 (8 * beats) = 8 * beats) := by rintro (rfl | rfl) <;> (unfold wrap64; omega)
  go_enter Try.func30, Try.ntmps30
  go_wp2
  all_goals go_ret
  all_goals refine ⟨congrArg (fun b => Ending.returned (.bool b)) ?_, (Old.refl _ _).alloc _⟩
  all_goals rw [Bool.eq_iff_iff, decide_eq_true_iff]
  all_goals unfold MayP
  all_goals simp only [beq_iff_eq, bne_iff_ne, ne_eq, Bool.false_eq_true, false_iff, beq_eq_false_iff_ne, bne_eq_false_iff_eq] at *
  all_goals first | omega | (have hwr2 := hwr.out (by omega); omega)
end Go.Proofs.Ytnpgjecifllnaaa
