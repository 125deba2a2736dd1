/- What is proved here: a record is alike to itself. Condition: its cells are of the fields' kinds. -/
import Derived.Test.YtofoplpnpfaofaaOwnAll
set_option linter.unusedSimpArgs false
set_option linter.unusedVariables false
namespace Go.Proofs.Ytofoplpnpfaofaa
open Go Go.Conc Go.RowKit

/-- A record, its cells of the fields' kinds. -/
def RecT (v : Value) : Prop := ∃ (a0 a1 a2 : Int) (b : Bool) (a4 a5 a6 a7 a8 a9 a10 a11 : Int), v = .agg #[.int .u64 a0, .int .u64 a1, .int .u32 a2, .bool b, .int .u64 a4, .int .u64 a5, .int .i64 a6, .int .u64 a7, .int .i64 a8, .int .u64 a9, .int .i64 a10, .int .u64 a11]

theorem RecT.rec {v : Value} (h : RecT v) : Rec12 v := by
  obtain ⟨a0, a1, a2, b, a4, a5, a6, a7, a8, a9, a10, a11, rfl⟩ := h
  refine ⟨_, rfl, rfl, fun u hu => ?_⟩
  simp at hu
  rcases hu with rfl | rfl | rfl | rfl | rfl | rfl | rfl | rfl | rfl | rfl | rfl | rfl <;> rfl

theorem eqInt (k : IntKind) (t : TypeId) (d : Nat) (hu : Try.prog.underlying t = some (.int k)) (a : Int) (w : World) : (Op.equalIn (d + 1) t (.int k a) (.int k a)).run Try.prog w = .ok true w := by
  simp [Op.equalIn, run_underlying hu]
theorem eqBool (d : Nat) (a : Bool) (w : World) : (Op.equalIn (d + 1) 4 (.bool a) (.bool a)).run Try.prog w = .ok true w := by
  simp [Op.equalIn, run_underlying Try.underlying4]
theorem eqf_step {P : Program} {n : Nat} {f : Field} {fs : List Field} {xs : Array Value} {v : Value} {d : TypeDesc} {w : World} (hn : f.name ≠ "_") (hu : P.underlying f.type = some d) (hd : d.isRow = false) (hx : xs[f.offset]? = some v) (he : ∀ w, (Op.equalIn n f.type v v).run P w = .ok true w)
    (hr : (Op.eqFields n xs xs fs).run P w = .ok true w) : (Op.eqFields n xs xs (f :: fs)).run P w = .ok true w := by
  have hagg : (isAgg f.type).run P w = .ok false w := by
    unfold isAgg
    rw [Sem.run_bind, run_underlying hu w]
    cases d <;> simp_all
  have hp : (part f.type xs f.offset).run P w = .ok v w := by
    unfold part
    simp [hagg, hx]
  unfold Op.eqFields
  rw [if_pos hn]
  simp [hp, he, hr]
theorem eq27 {v : Value} (h : RecT v) (w : World) : (Op.equal 27 v v).run Try.prog w = .ok true w := by
  obtain ⟨a0, a1, a2, b, a4, a5, a6, a7, a8, a9, a10, a11, rfl⟩ := h
  show (Op.equalIn (9999 + 1) _ _ _).run Try.prog w = _
  rw [run_equalIn_struct w 9999 27 _ _ (by unfold Program.fieldsOf; rw [Try.underlying27]) (by kernel_rfl)]
  unfold Program.fieldsOf
  rw [Try.underlying27]
  refine eqf_step (by decide) Try.underlying24 rfl rfl (fun w => eqInt .u64 24 9998 Try.underlying24 _ w) ?_
  refine eqf_step (by decide) Try.underlying24 rfl rfl (fun w => eqInt .u64 24 9998 Try.underlying24 _ w) ?_
  refine eqf_step (by decide) Try.underlying25 rfl rfl (fun w => eqInt .u32 25 9998 Try.underlying25 _ w) ?_
  refine eqf_step (by decide) Try.underlying4 rfl rfl (fun w => eqBool 9998 _ w) ?_
  refine eqf_step (by decide) Try.underlying24 rfl rfl (fun w => eqInt .u64 24 9998 Try.underlying24 _ w) ?_
  refine eqf_step (by decide) Try.underlying24 rfl rfl (fun w => eqInt .u64 24 9998 Try.underlying24 _ w) ?_
  refine eqf_step (by decide) Try.underlying3 rfl rfl (fun w => eqInt .i64 3 9998 Try.underlying3 _ w) ?_
  refine eqf_step (by decide) Try.underlying24 rfl rfl (fun w => eqInt .u64 24 9998 Try.underlying24 _ w) ?_
  refine eqf_step (by decide) Try.underlying3 rfl rfl (fun w => eqInt .i64 3 9998 Try.underlying3 _ w) ?_
  refine eqf_step (by decide) Try.underlying24 rfl rfl (fun w => eqInt .u64 24 9998 Try.underlying24 _ w) ?_
  refine eqf_step (by decide) Try.underlying3 rfl rfl (fun w => eqInt .i64 3 9998 Try.underlying3 _ w) ?_
  refine eqf_step (by decide) Try.underlying24 rfl rfl (fun w => eqInt .u64 24 9998 Try.underlying24 _ w) ?_
  rfl

theorem guard27 : Try.prog.eqGuardType Try.prog.depth 27 = false := by kernel_rfl
/-- Two alike records, held against each other. -/
theorem run_eql27 {o : Oper} {a : Act} {w : World} {x y : Operand} {v : Value} (hv : RecT v) (hop : o.op = .binOp .eql 27 x y 27) (hx : a.eval x = v) (hy : a.eval y = v) : (execOp a.eval o).run Try.prog w = .ok (.value (.bool true)) w := by
  obtain ⟨cells, rfl, _⟩ := hv.rec
  have hg := run_eqGuard_agg (P := Try.prog) w .eql 27 x y cells cells guard27
  unfold execOp
  simp [hop, hx, hy, hg, Go.binOp, eq27 hv]
theorem run_neq27 {o : Oper} {a : Act} {w : World} {x y : Operand} {v : Value} (hv : RecT v) (hop : o.op = .binOp .neq 27 x y 27) (hx : a.eval x = v) (hy : a.eval y = v) : (execOp a.eval o).run Try.prog w = .ok (.value (.bool false)) w := by
  obtain ⟨cells, rfl, _⟩ := hv.rec
  have hg := run_eqGuard_agg (P := Try.prog) w .neq 27 x y cells cells guard27
  unfold execOp
  simp [hop, hx, hy, hg, Go.binOp, eq27 hv]
end Go.Proofs.Ytofoplpnpfaofaa
