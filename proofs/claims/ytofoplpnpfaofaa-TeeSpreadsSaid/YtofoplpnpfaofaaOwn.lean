/- What is proved here: a copy with spare room behind it. No condition beside what the list reads as. -/
import Derived.Test.YtofoplpnpfaofaaStore
set_option linter.unusedSimpArgs false
set_option linter.unusedVariables false
namespace Go.Proofs.Ytofoplpnpfaofaa
open Go Go.Conc Go.RowKit

noncomputable def body6 : Code := Try.f6.body.getD .skip
noncomputable def from64 : Code := match body6 with | .seq _ (.seq _ (.seq _ (.seq _ c))) => c | _ => .skip
noncomputable def loop6 : Code := match from64 with | .seq (.seq _ (.block _ (.loop c))) _ => c | _ => .skip
noncomputable def end6 : Code := match from64 with | .seq _ c => c | _ => .skip
/-- At the loop's head. -/
noncomputable def at6 (fb g n j : Nat) (T : Nat → Value) (cs : List Frame) : Goroutine :=
  G ((base 6).at ⟨#[T 0, T 1, T 2, .pointer (some ⟨fb, 0, none⟩), T 4, .slice (some ⟨g, 0, none⟩) n (n + 3), .slice (some ⟨g, 0, none⟩) (n + 3) (n + 3), .int .i64 j, T 8, T 9, T 10, T 11, T 12, T 13, T 14, T 15, T 16, T 17, T 18, T 19, T 20, T 21, T 22, T 23, T 24, T 25, T 26, T 27, T 28, T 29, T 30, T 31, T 32], []⟩ [.code loop6, .inLoop loop6, .inBlock 0, .code end6]) cs

set_option maxRecDepth 100000 in
theorem own_end {fb g n : Nat} {T : Nat → Value} (hn : n ≤ 1000) (c : Frame) (cs : List Frame) (w : World) : GoesI Try.prog (fun g' w' => g' = G (c.finish (.slice (some ⟨g, 0, none⟩) n (n + 3))) cs ∧ ∃ d, w' = w.at d) (at6 fb g n (n + 3) T (c :: cs)) w := by
  simp only [at6, loop6, end6, from64, body6, Try.f6, Option.getD_some]
  refine GoesI.ctl rfl (fun w => stepG_seq) ?_
  refine GoesI.ctl rfl (fun w => stepG_seq) ?_
  refine GoesI.ctl rfl (fun w => stepG_region) ?_
  simp only [List.size_toArray, List.length_cons, List.length_nil, Nat.reduceAdd, Nat.zero_add, List.range, List.range.loop]
  refine GoesI.val (.int .i64 ((n + 3 : Nat) : Int)) rfl rfl (by decide) (fun w => by go_simp) (fun w => by simp [go_sem]) ?_
  walk_nrm
  refine GoesI.val (.slice (some ⟨g, 0, none⟩) (n + 3) (n + 3)) rfl rfl (by decide) (fun w => by go_simp) (fun w => by simp [go_sem]) ?_
  walk_nrm
  refine GoesI.val (.int .i64 ((n + 3 : Nat) : Int)) rfl rfl (by decide) (fun w => by go_simp) (fun w => by simp [go_sem]) ?_
  walk_nrm
  refine GoesI.val (.bool false) rfl rfl (by decide) (fun w => by go_simp; first | done | omega | (simp; omega)) (fun w => by simp [go_sem]) ?_
  walk_nrm
  refine GoesI.ctl rfl (fun w => stepG_region_end) ?_
  refine GoesI.ctl rfl (fun w => stepG_cond (t := false) rfl) ?_
  simp only [Bool.false_eq_true, if_false]
  refine GoesI.ctl rfl (fun w => stepG_exit rfl) ?_
  refine GoesI.ctl rfl (fun w => stepG_seq) ?_
  refine GoesI.ctl rfl (fun w => stepG_region) ?_
  simp only [List.size_toArray, List.length_cons, List.length_nil, Nat.reduceAdd, Nat.zero_add, List.range, List.range.loop]
  refine GoesI.val (.slice (some ⟨g, 0, none⟩) n (n + 3)) rfl rfl (by decide) (fun w => by go_simp) (fun w => by simp [go_sem]) ?_
  walk_nrm
  refine GoesI.val (.slice (some ⟨g, 0, none⟩) n (n + 3)) rfl rfl (by decide) (fun w => by go_simp) (fun w => by simp [go_sem]) ?_
  walk_nrm
  refine GoesI.ctl rfl (fun w => stepG_region_end) ?_
  refine GoesI.ctl rfl (fun w => stepG_ret') ?_
  exact GoesI.ctl rfl (fun w => leave1 Try.func6 rfl rfl w) (.stop fun d'' => ⟨rfl, d'', rfl⟩)

theorem run_store_mid {P : Program} {o : Oper} {a : Act} {w : World} {g off : Nat} {ty t : TypeId} {x y : Operand} {cur cells : Array Value} (hop : o.op = .store ty x y) (hx : a.eval x = .pointer (some ⟨g, off, none⟩)) (hy : a.eval y = .agg cells) (hg : w.heap[g]? = some (.cells cur t (0, 0))) (hfit : off + cells.size ≤ cur.size) (hi : (P.info? ty).map (·.size) = some cells.size) (h1 : ∀ u ∈ cells.toList, u.oneCell' = true) :
    (execOp a.eval o).run P w = .ok .skip (w.setRow g (cur.toList.take off ++ cells.toList ++ cur.toList.drop (off + cells.size)).toArray) := by
  have := run_storeCells_at P g off t cells.toList 0 cur w hg (by simpa using hfit) h1
  cases hq : P.info? ty with
  | none => simp [hq] at hi
  | some inf =>
    have hs : cells.size = inf.size := by simp [hq] at hi; omega
    simp only [Nat.add_zero, Array.length_toList] at this
    unfold execOp
    simp [hop, hx, hy, Instr.storeAt, Instr.sureAddr, storeVar, sizeOf, typeInfo, hq, Value.cells, hs]
    rw [hs] at this
    simp [this]

set_option maxRecDepth 100000 in
theorem own_round {fb g n j : Nat} {T : Nat → Value} {fill arr : Array Value} {cs : List Frame} {w : World} {Stop : Goroutine → World → Prop} (hn : n ≤ 1000) (hj : j < n + 3) (hfb : w.heap[fb]? = some (.cells fill 27 (0, 0))) (hfs : fill.size = 12) (hf1 : ∀ u ∈ fill.toList, u.oneCell' = true) (hg : w.heap[g]? = some (.cells arr 27 (0, 0))) (ha : arr.size = (n + 3) * 12) (hne : fb ≠ g)
    (h : ∀ T' d, GoesI Try.prog Stop (at6 fb g n (j + 1) T' cs) (((w.at d).setRow g (arr.toList.take (j * 12) ++ fill.toList ++ arr.toList.drop (j * 12 + 12)).toArray))) : GoesI Try.prog Stop (at6 fb g n j T cs) w := by
  obtain ⟨i27, hi, hz, hs27, hb27⟩ := info_parts info27
  simp only [at6, loop6, end6, from64, body6, Try.f6, Option.getD_some]
  refine GoesI.ctl rfl (fun w => stepG_seq) ?_
  refine GoesI.ctl rfl (fun w => stepG_seq) ?_
  refine GoesI.ctl rfl (fun w => stepG_region) ?_
  simp only [List.size_toArray, List.length_cons, List.length_nil, Nat.reduceAdd, Nat.zero_add, List.range, List.range.loop]
  refine GoesI.val (.int .i64 j) rfl rfl (by decide) (fun w => by go_simp) (fun w => by simp [go_sem]) ?_
  walk_nrm
  refine GoesI.val (.slice (some ⟨g, 0, none⟩) (n + 3) (n + 3)) rfl rfl (by decide) (fun w => by go_simp) (fun w => by simp [go_sem]) ?_
  walk_nrm
  refine GoesI.val (.int .i64 ((n + 3 : Nat) : Int)) rfl rfl (by decide) (fun w => by go_simp) (fun w => by simp [go_sem]) ?_
  walk_nrm
  refine GoesI.val (.bool true) rfl rfl (by decide) (fun w => by go_simp; first | done | omega | (simp; omega)) (fun w => by simp [go_sem]) ?_
  walk_nrm
  refine GoesI.ctl rfl (fun w => stepG_region_end) ?_
  refine GoesI.ctl rfl (fun w => stepG_cond (t := true) rfl) ?_
  simp only [if_true]
  refine GoesI.ctl rfl (fun w => stepG_skip) ?_
  refine GoesI.ctl rfl (fun w => stepG_seq) ?_
  refine GoesI.ctl rfl (fun w => stepG_block) ?_
  refine GoesI.ctl rfl (fun w => stepG_region) ?_
  simp only [List.size_toArray, List.length_cons, List.length_nil, Nat.reduceAdd, Nat.zero_add, List.range, List.range.loop]
  refine GoesI.val (.slice (some ⟨g, 0, none⟩) (n + 3) (n + 3)) rfl rfl (by decide) (fun w => by go_simp) (fun w => by simp [go_sem]) ?_
  walk_nrm
  refine GoesI.val (.int .i64 j) rfl rfl (by decide) (fun w => by go_simp) (fun w => by simp [go_sem]) ?_
  walk_nrm
  have hrow : w.rangeAt fb 0 fill.toList := fun q v hq => by simp only [World.cell?, hfb, Nat.zero_add]; simpa using hq
  refine GoesI.ld safeQ (.agg fill) (by kernel_rfl) rfl rfl (by decide) (fun d => run_load_row rfl rfl Try.underlying27 rfl (by simp [hi, hs27, hfs]) hrow) ?_
  walk_nrm
  refine GoesI.val (.pointer (some ⟨g, j * 12, none⟩)) rfl rfl (by decide) (fun w => ?_) (fun w => ?_) ?_
  · unfold execOp
    walk_nrm
    simp [Instr.indexAt, asIntOf, run_underlying Try.underlying22, sizeOf, typeInfo, hi, hs27, hj, Addr.add, Nat.mul_comm]
    try omega
  · unfold execOp
    walk_nrm
    simp [Instr.indexAt, asIntOf, run_underlying Try.underlying22, sizeOf, typeInfo, hi, hs27, hj]
  walk_nrm
  refine GoesI.st safeQ (by kernel_rfl) rfl rfl (by decide) (fun d => ⟨_, run_store_mid rfl rfl rfl hg (by rw [hfs, ha]; omega) (by simp [hi, hs27, hfs]) hf1, ?_⟩)
  walk_nrm
  rw [hfs]
  refine GoesI.ctl rfl (fun w => stepG_region_end) ?_
  refine GoesI.ctl rfl (fun w => stepG_inBlock) ?_
  refine GoesI.ctl rfl (fun w => stepG_region) ?_
  simp only [List.size_toArray, List.length_cons, List.length_nil, Nat.reduceAdd, Nat.zero_add, List.range, List.range.loop]
  refine GoesI.val (.int .i64 j) rfl rfl (by decide) (fun w => by go_simp) (fun w => by simp [go_sem]) ?_
  walk_nrm
  refine GoesI.val (.int .i64 ((j + 1 : Nat) : Int)) rfl rfl (by decide) (fun w => by go_simp; try (rw [IntKind.wrap_i64]; omega)) (fun w => by simp [go_sem]) ?_
  walk_nrm
  refine GoesI.val (.int .i64 ((j + 1 : Nat) : Int)) rfl rfl (by decide) (fun w => by go_simp) (fun w => by simp [go_sem]) ?_
  walk_nrm
  refine GoesI.ctl rfl (fun w => stepG_region_end) ?_
  refine GoesI.ctl rfl (fun w => stepG_inLoop) ?_
  have hh := h (fun q => match q with | 22 => .int .i64 j | 23 => .slice (some ⟨g, 0, none⟩) (n + 3) (n + 3) | 24 => .int .i64 ((n + 3 : Nat) : Int) | 25 => .bool true | 26 => .int .i64 j | 27 => .int .i64 ((j + 1 : Nat) : Int) | 28 => .slice (some ⟨g, 0, none⟩) (n + 3) (n + 3) | 29 => .int .i64 j | 30 => .agg fill | 31 => .pointer (some ⟨g, j * 12, none⟩) | q => T q) d
  exact hh
end Go.Proofs.Ytofoplpnpfaofaa
