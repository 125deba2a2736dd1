/- What is proved here: the law's own first call, beside goroutines that only leave. No condition. -/
import Derived.Test.YtofoplpnpfaofaaClone
set_option linter.unusedSimpArgs false
set_option linter.unusedVariables false
namespace Go.Proofs.Ytofoplpnpfaofaa
open Go Go.Conc Go.RowKit

section
variable {P : Program} {Stop : Goroutine → World → Prop} {b : Frame} {a : Act} {k : List Item} {cs : List Frame} {w : World} {ops : Array Oper} {i : Nat} {rest : List Nat} {o : Oper}
theorem GoesI.ld {Q : Part} (hP : Safe P Q) (v : Value) (hok : opOk Q [] o = true) (ho : ops[i]? = some o) (hw : Region.wanted o (yielded ops a.tmps) = true) (hk : b.kind ≠ .early) (hr : ∀ d, (execOp a.eval o).run P (w.at d) = .ok (.value v) (w.at d))
    (hg : GoesI P Stop (G (b.at (a.put o.dst v) (.inRegion ops rest :: k)) cs) w) : GoesI P Stop (G (b.at a (.inRegion ops (i :: rest) :: k)) cs) w :=
  GoesI.op hP hok ho hw hk fun d => ⟨v, w.at d, hr d, hg.at d⟩

theorem run_load_one {g off : Nat} {ty : TypeId} {x : Operand} {d : TypeDesc} {v : Value} (hop : o.op = .load ty x) (hx : a.eval x = .pointer (some ⟨g, off, none⟩)) (hu : P.underlying ty = some d) (hd : d.isRow = false) (hc : w.cell? ⟨g, off, none⟩ = some v) :
    (execOp a.eval o).run P w = .ok (.value v) w := by
  have hagg : (isAgg ty).run P w = .ok false w := by
    unfold isAgg
    rw [Sem.run_bind, run_underlying hu w]
    cases d <;> simp_all
  unfold execOp
  simp [hop, hx, Instr.loadAt, Instr.sureAddr, loadVar, hagg, hc]
end

def rec4 : Array Value := #[.int .u64 0, .int .u64 4, .int .u32 0, .bool false, .int .u64 0, .int .u64 0, .int .i64 0, .int .u64 0, .int .i64 0, .int .u64 0, .int .i64 0, .int .u64 0]
theorem rec4one : rec4.all (·.oneCell') = true := by simp [rec4, Value.oneCell']
theorem rec4s : rec4.size = 12 := rfl
theorem hbuild4 (w : World) : (Instr.build 27 #[(1, .int .u64 4)]).run Try.prog w = .ok (.agg rec4) w := run_build w 27 _ _ (by kernel_rfl)
noncomputable def body8 : Code := Try.f8.body.getD .skip
noncomputable def ops81 : Array Oper := match body8 with | .seq _ (.seq (.region _ ops _) _) => ops | _ => #[]
noncomputable def from82 : Code := match body8 with | .seq _ (.seq _ c) => c | _ => .skip
/-- Awake's frame at its call. -/
noncomputable def fr8 (N : Nat) : Frame := (base 8).at ⟨#[.bool false, undef, undef, undef, .agg rec4, .slice (some ⟨N, 0, none⟩) 1 1, undef, undef, undef, undef, undef, undef, undef, undef, undef, undef, undef, undef, undef, undef, undef, undef, undef, undef, undef, undef, undef, undef, undef, undef, undef, undef], []⟩ [.inRegion ops81 [2, 3, 4, 5, 6, 7], .code from82]

set_option maxRecDepth 100000 in
theorem awake_to (w : World) (c : Frame) (cs : List Frame) : GoesI Try.prog (fun g w' => ∃ N, g = G (Frame.enter Try.prog 7 #[.slice (some ⟨N, 0, none⟩) 1 1, .int .i64 2, .int .i64 0] .normal) (fr8 N :: c :: cs) ∧ Rows w' (.slice (some ⟨N, 0, none⟩) 1 1) [.agg rec4] ∧ Old w w' (fun _ => False)) (G (Frame.enter Try.prog 8 #[] .normal) (c :: cs)) w := by
  obtain ⟨i27, hi, hz, hs27, hb27⟩ := info_parts info27
  have hent : Frame.enter Try.prog 8 #[] .normal = (base 8).at ⟨#[undef, undef, undef, undef, undef, undef, undef, undef, undef, undef, undef, undef, undef, undef, undef, undef, undef, undef, undef, undef, undef, undef, undef, undef, undef, undef, undef, undef, undef, undef, undef, undef], []⟩ [.code body8] := by
    simp [Frame.enter, Frame.at, Try.func8, base, Try.f8, body8]
    rfl
  rw [hent]
  simp only [body8, Try.f8, Option.getD_some]
  refine GoesI.ctl rfl (fun w => stepG_seq) ?_
  refine GoesI.ctl rfl (fun w => stepG_region) ?_
  simp only [List.size_toArray, List.length_cons, List.length_nil, Nat.reduceAdd, Nat.zero_add, List.range, List.range.loop]
  refine GoesI.val (.bool false) rfl rfl (by decide) (fun w => by go_simp) (fun w => by simp [go_sem]) ?_
  walk_nrm
  refine GoesI.ctl rfl (fun w => stepG_region_end) ?_
  refine GoesI.ctl rfl (fun w => stepG_seq) ?_
  refine GoesI.ctl rfl (fun w => stepG_region) ?_
  simp only [List.size_toArray, List.length_cons, List.length_nil, Nat.reduceAdd, Nat.zero_add, List.range, List.range.loop]
  refine GoesI.ld safeQ (.agg rec4) (by kernel_rfl) rfl rfl (by decide) (fun d => by unfold execOp; walk_nrm; simp only [Act.eval, Sem.run_bind, hbuild4, Result.andThen_ok, Sem.run_pure]) ?_
  walk_nrm
  refine GoesI.op safeQ (by kernel_rfl) rfl rfl (by decide) (fun d => ⟨.slice (some ⟨w.heap.size, 0, none⟩) 1 1, (w.at d).alloc (.cells rec4 27), ?_, ?_⟩)
  · have hr := run_buildSlice (P := Try.prog) (w.at d) 22 27 1 #[(0, .agg rec4)] rec4 i27 (.agg zRec) Try.underlying22 hi hz (by rw [hs27]; decide) (by rw [hs27]; decide) (by rw [hs27]; exact built27 rfl)
    unfold execOp
    walk_nrm
    simp only [Act.eval, Sem.run_bind]
    exact congrArg (fun r => Result.andThen r _) hr
  walk_nrm
  refine GoesI.ctl rfl (fun w => stepG_callG rfl rfl (by decide) rfl Try.func7 (by kernel_rfl) rfl w) ?_
  simp only [List.map_toArray, List.map_cons, List.map_nil]
  walk_nrm
  refine .stop fun d' => ⟨w.heap.size, ?_, ?_, ?_⟩
  · simp only [fr8, ops81, from82, body8, Try.f8, Option.getD_some]
  · refine ⟨fun v hv => ⟨rec4, List.mem_singleton.1 hv, rec4s, fun u hu => ?_⟩, some ⟨w.heap.size, 0, none⟩, 1, rfl, fun _ => ⟨w.heap.size, 0, rfl, by show _ < (w.heap.push _).size; simp, ⟨rec4, 27, (0, 0), alloc_new (w := w.at d)⟩, fun i cells hi j u hj => ?_⟩⟩
    · exact (Array.all_eq_true_iff_forall_mem.1 rec4one) u (Array.mem_toList_iff.1 hu)
    · have h0 : i = 0 := by
        have := (List.getElem?_eq_some_iff.1 hi).1
        simp at this
        exact this
      subst h0
      simp at hi
      subst hi
      have hb : (((w.at d).alloc (.cells rec4 27)).at d').heap[w.heap.size]? = some (.cells rec4 27 (0, 0)) := alloc_new (w := w.at d)
      simp only [World.cell?, hb, Nat.zero_mul, Nat.zero_add]
      simpa using hj
  · exact ⟨by show _ ≤ (w.heap.push _).size; simp, rfl, rfl, fun b hb _ => alloc_old (w := w.at d) hb⟩

set_option maxRecDepth 100000 in
theorem awake_from {N ob g1 cap : Nat} {f : Nat → Option Value} {cur : Array Value} {w : World} {c : Frame} {cs : List Frame} (hob : w.heap[ob]? = some (.cells (outA f 2) 22 (0, 0))) (hf : f 1 = some (.slice (some ⟨g1, 0, none⟩) 1 cap)) (hg : w.heap[g1]? = some (.cells cur 27 (0, 0))) (hcur : cur[1]? = some (.int .u64 4)) :
    GoesI Try.prog (fun g w' => g = G (c.finish (.bool true)) cs ∧ ∃ d, w' = w.at d) (G ((fr8 N).finish (.tuple #[.slice (some ⟨ob, 0, none⟩) 2 2, .int .i64 0])) (c :: cs)) w := by
  obtain ⟨i27, hi, hz, hs27, hb27⟩ := info_parts info27
  obtain ⟨i22, hi2, hz2, hs22, _⟩ := info_parts info22
  unfold fr8
  rw [Frame.finish_at]
  simp only [ops81, from82, body8, Try.f8, Option.getD_some]
  walk_nrm
  refine GoesI.val (.tuple #[.slice (some ⟨ob, 0, none⟩) 2 2, .int .i64 0]) rfl rfl (by decide) (fun w => by go_simp) (fun w => by simp [go_sem]) ?_
  walk_nrm
  refine GoesI.val (.slice (some ⟨ob, 0, none⟩) 2 2) rfl rfl (by decide) (fun w => by go_simp) (fun w => by simp [go_sem]) ?_
  walk_nrm
  refine GoesI.val (.int .i64 0) rfl rfl (by decide) (fun w => by go_simp) (fun w => by simp [go_sem]) ?_
  walk_nrm
  refine GoesI.val (.slice (some ⟨ob, 0, none⟩) 2 2) rfl rfl (by decide) (fun w => by go_simp) (fun w => by simp [go_sem]) ?_
  walk_nrm
  refine GoesI.val (.int .i64 0) rfl rfl (by decide) (fun w => by go_simp) (fun w => by simp [go_sem]) ?_
  walk_nrm
  refine GoesI.ctl rfl (fun w => stepG_region_end) ?_
  refine GoesI.ctl rfl (fun w => stepG_seq) ?_
  refine GoesI.ctl rfl (fun w => stepG_region) ?_
  simp only [List.size_toArray, List.length_cons, List.length_nil, Nat.reduceAdd, Nat.zero_add, List.range, List.range.loop]
  refine GoesI.val (.int .i64 0) rfl rfl (by decide) (fun w => by go_simp) (fun w => by simp [go_sem]) ?_
  walk_nrm
  refine GoesI.val (.bool true) rfl rfl (by decide) (fun w => by go_simp) (fun w => by simp [go_sem]) ?_
  walk_nrm
  refine GoesI.val (.bool true) rfl rfl (by decide) (fun w => by go_simp) (fun w => by simp [go_sem]) ?_
  walk_nrm
  refine GoesI.val (.slice (some ⟨ob, 0, none⟩) 2 2) rfl rfl (by decide) (fun w => by go_simp) (fun w => by simp [go_sem]) ?_
  walk_nrm
  refine GoesI.val (.int .i64 2) rfl rfl (by decide) (fun w => by go_simp) (fun w => by simp [go_sem]) ?_
  walk_nrm
  refine GoesI.val (.bool true) rfl rfl (by decide) (fun w => by go_simp) (fun w => by simp [go_sem]) ?_
  walk_nrm
  refine GoesI.val (.bool true) rfl rfl (by decide) (fun w => by go_simp) (fun w => by simp [go_sem]) ?_
  walk_nrm
  refine GoesI.val (.bool true) rfl rfl (by decide) (fun w => by go_simp) (fun w => by simp [go_sem]) ?_
  walk_nrm
  refine GoesI.val (.slice (some ⟨ob, 0, none⟩) 2 2) rfl rfl (by decide) (fun w => by go_simp) (fun w => by simp [go_sem]) ?_
  walk_nrm
  refine GoesI.val (.pointer (some ⟨ob, 1, none⟩)) rfl rfl (by decide) (fun w => ?_) (fun w => ?_) ?_
  · unfold execOp
    walk_nrm
    simp [Instr.indexAt, asIntOf, run_underlying Try.underlying28, sizeOf, typeInfo, hi2, hs22, Addr.add]
  · unfold execOp
    walk_nrm
    simp [Instr.indexAt, asIntOf, run_underlying Try.underlying28, sizeOf, typeInfo, hi2, hs22]
  walk_nrm
  have hl1 : w.cell? ⟨ob, 1, none⟩ = some (.slice (some ⟨g1, 0, none⟩) 1 cap) := by simp [World.cell?, hob, outA, hf]
  refine GoesI.ld safeQ (.slice (some ⟨g1, 0, none⟩) 1 cap) (by kernel_rfl) rfl rfl (by decide) (fun d => run_load_one rfl rfl Try.underlying22 rfl hl1) ?_
  walk_nrm
  refine GoesI.val (.int .i64 1) rfl rfl (by decide) (fun w => by go_simp) (fun w => by simp [go_sem]) ?_
  walk_nrm
  refine GoesI.val (.bool true) rfl rfl (by decide) (fun w => by go_simp) (fun w => by simp [go_sem]) ?_
  walk_nrm
  refine GoesI.val (.bool true) rfl rfl (by decide) (fun w => by go_simp) (fun w => by simp [go_sem]) ?_
  walk_nrm
  refine GoesI.val (.bool true) rfl rfl (by decide) (fun w => by go_simp) (fun w => by simp [go_sem]) ?_
  walk_nrm
  refine GoesI.val (.slice (some ⟨ob, 0, none⟩) 2 2) rfl rfl (by decide) (fun w => by go_simp) (fun w => by simp [go_sem]) ?_
  walk_nrm
  refine GoesI.val (.pointer (some ⟨ob, 1, none⟩)) rfl rfl (by decide) (fun w => ?_) (fun w => ?_) ?_
  · unfold execOp
    walk_nrm
    simp [Instr.indexAt, asIntOf, run_underlying Try.underlying28, sizeOf, typeInfo, hi2, hs22, Addr.add]
  · unfold execOp
    walk_nrm
    simp [Instr.indexAt, asIntOf, run_underlying Try.underlying28, sizeOf, typeInfo, hi2, hs22]
  walk_nrm
  refine GoesI.ld safeQ (.slice (some ⟨g1, 0, none⟩) 1 cap) (by kernel_rfl) rfl rfl (by decide) (fun d => run_load_one rfl rfl Try.underlying22 rfl hl1) ?_
  walk_nrm
  refine GoesI.val (.pointer (some ⟨g1, 0, none⟩)) rfl rfl (by decide) (fun w => ?_) (fun w => ?_) ?_
  · unfold execOp
    walk_nrm
    simp [Instr.indexAt, asIntOf, run_underlying Try.underlying22, sizeOf, typeInfo, hi, hs27, Addr.add]
  · unfold execOp
    walk_nrm
    simp [Instr.indexAt, asIntOf, run_underlying Try.underlying22, sizeOf, typeInfo, hi, hs27]
  walk_nrm
  refine GoesI.val (.pointer (some ⟨g1, 1, none⟩)) rfl rfl (by decide) (fun w => by go_simp) (fun w => by simp [go_sem]) ?_
  walk_nrm
  have hl2 : w.cell? ⟨g1, 1, none⟩ = some (.int .u64 4) := by simp [World.cell?, hg, hcur]
  refine GoesI.ld safeQ (.int .u64 4) (by kernel_rfl) rfl rfl (by decide) (fun d => run_load_one rfl rfl Try.underlying24 rfl hl2) ?_
  walk_nrm
  refine GoesI.val (.bool true) rfl rfl (by decide) (fun w => by go_simp) (fun w => by simp [go_sem]) ?_
  walk_nrm
  refine GoesI.val (.bool true) rfl rfl (by decide) (fun w => by go_simp) (fun w => by simp [go_sem]) ?_
  walk_nrm
  refine GoesI.val (.bool true) rfl rfl (by decide) (fun w => by go_simp) (fun w => by simp [go_sem]) ?_
  walk_nrm
  refine GoesI.ctl rfl (fun w => stepG_region_end) ?_
  refine GoesI.ctl rfl (fun w => stepG_ret') ?_
  exact GoesI.ctl rfl (fun w => leave1 Try.func8 rfl rfl w) (.stop fun d'' => ⟨rfl, d'', rfl⟩)

/-- ████ The law's own first call. ████ -/
theorem awake_runs (w : World) (c : Frame) (cs : List Frame) : Reach Try.prog (G (Frame.enter Try.prog 8 #[] .normal) (c :: cs)) w fun g' w' => g' = G (c.finish (.bool true)) cs ∧ Old w w' (fun _ => False) := by
  refine (Reach.of_goes (awake_to w c cs)).trans ?_
  rintro g1 w1 ⟨N, rfl, hrow, hold⟩
  refine (spread_runs (n := 2) (room := 0) (lv := .slice (some ⟨N, 0, none⟩) 1 1) (vs := [.agg rec4]) (by omega) (by omega) (fun c' cs' => GoesI.mono ?_ (clone_goes hrow (by simp) c' cs'))).trans ?_
  · rintro g w' ⟨v, rfl, h1, h2⟩
    exact ⟨v, rfl, h1.recs' (by simp), h2⟩
  rintro g2 w2 ⟨ob, f, rfl, hold2, hob, hcell, hk⟩
  obtain ⟨v, Hv, e1, e2, e3⟩ := hk 1 (by omega)
  obtain ⟨h1, ⟨_, h2, _⟩ | ⟨g, cap, cur, rfl, h3, rfl, h4, h5, h6, h7⟩⟩ := e2
  · simp at h2
  have hcur : cur[1]? = some (.int .u64 4) := by
    have h8 := congrArg (fun l => l[1]?) h7
    simp only [List.getElem?_take] at h8
    have h9 : cur.toList[1]? = (cellsOf [.agg rec4])[1]? := by simpa using h8
    rw [Array.getElem?_toList] at h9
    rw [h9]
    rfl
  refine Reach.of_goes (GoesI.mono ?_ (awake_from hcell e1 (e3 (g, .cells cur 27 (0, 0)) (by simp)) hcur))
  rintro g3 w3 ⟨rfl, d, rfl⟩
  exact ⟨rfl, ⟨Nat.le_trans hold.size hold2.size, hold2.os.trans hold.os, hold2.output.trans hold.output, fun b hb _ => (hold2.block b (Nat.lt_of_lt_of_le hb hold.size) (fun h => h)).trans (hold.block b hb (fun h => h))⟩⟩
end Go.Proofs.Ytofoplpnpfaofaa
