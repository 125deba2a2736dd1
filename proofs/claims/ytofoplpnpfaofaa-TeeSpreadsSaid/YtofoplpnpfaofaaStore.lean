/- What is proved here: plain operations that write, goroutine 0's own. No condition. -/
import Derived.Test.YtofoplpnpfaofaaErr
set_option linter.unusedSimpArgs false
set_option linter.unusedVariables false
namespace Go.Proofs.Ytofoplpnpfaofaa
open Go Go.Conc Go.RowKit

section
variable {P : Program} {Stop : Goroutine → World → Prop} {b : Frame} {a : Act} {k : List Item} {cs : List Frame} {w : World} {ops : Array Oper} {i : Nat} {rest : List Nat} {o : Oper}

/-- A plain operation that yields nothing. -/
theorem GoesI.st {Q : Part} (hP : Safe P Q) (hok : opOk Q [] o = true) (ho : ops[i]? = some o) (hw : Region.wanted o (yielded ops a.tmps) = true) (hk : b.kind ≠ .early)
    (h : ∀ d, ∃ w', (execOp a.eval o).run P (w.at d) = .ok .skip w' ∧ GoesI P Stop (G (b.at (a.put o.dst undef) (.inRegion ops rest :: k)) cs) w') : GoesI P Stop (G (b.at a (.inRegion ops (i :: rest) :: k)) cs) w := by
  refine .step rfl (fun d => G (b.at (a.put o.dst undef) (.inRegion ops rest :: k)) cs) (fun d => (h d).choose) (fun d => listed P b.fn a o (w.at d)) (fun d => stepG_none ho hw hk (h d).choose_spec.1) (fun d => ?_) (fun d => (h d).choose_spec.2)
  have hf := fine_op hP (fr := b.at a []) (S := []) (by simp) hok
  rw [Frame.eval_at'] at hf
  obtain ⟨c, h1, h2, h3, h4, _⟩ := local_of_fine hf (w.at d) #[]
  have hrun : ((execOp a.eval o).runT P (w.at d) #[]).1 = .ok .skip (h d).choose := by
    rw [← (h d).choose_spec.1]
    exact (Sem.runT_fst P _ _ _)
  rw [hrun] at h3 h4
  exact ⟨h3, fun e he => (h4 e (mem_listed he)).elim (fun hx => by simp at hx) id⟩

/-- A row of an own block is read. -/
theorem run_load_row {g off : Nat} {ty : TypeId} {x : Operand} {d : TypeDesc} {cells : Array Value} (hop : o.op = .load ty x) (hx : a.eval x = .pointer (some ⟨g, off, none⟩)) (hu : P.underlying ty = some d) (hd : d.isRow = true) (hi : (P.info? ty).map (·.size) = some cells.size) (hc : w.rangeAt g off cells.toList) :
    (execOp a.eval o).run P w = .ok (.value (.agg cells)) w := by
  unfold execOp
  simp only [hop, hx, Instr.loadAt, Instr.sureAddr, Sem.run_bind, Sem.run_pure, Result.andThen_ok, run_loadVar_mid w g off ty cells.toList d hc hu hd (by simpa using hi)]

/-- A row is written into the cells from off on. -/
theorem run_store_row {g off : Nat} {ty : TypeId} {x y : Operand} {cells : Array Value} (hop : o.op = .store ty x y) (hx : a.eval x = .pointer (some ⟨g, off, none⟩)) (hy : a.eval y = .agg cells) (ht : w.there g off cells.size) (hi : (P.info? ty).map (·.size) = some cells.size) (h1 : cells.all (·.oneCell') = true) :
    (execOp a.eval o).run P w = .ok .skip (w.setCells g off cells.toList) := by
  unfold execOp
  simp only [hop, hx, hy, Sem.run_bind, run_storeAt_mid w g off ty cells ht hi h1, Result.andThen_ok, Sem.run_pure]
end
end Go.Proofs.Ytofoplpnpfaofaa
