/- What is proved here: the start of a copy with spare room behind it. No condition beside what the list reads as. -/
import Derived.Test.YtofoplpnpfaofaaOwnLoop
set_option linter.unusedSimpArgs false
set_option linter.unusedVariables false
namespace Go.Proofs.Ytofoplpnpfaofaa
open Go Go.Conc Go.RowKit

set_option maxRecDepth 100000 in
theorem own_start {base0 : Option Addr} {cap n : Nat} {fill : Array Value} {cs : List Frame} {w : World} {Stop : Goroutine → World → Prop} (hn : n ≤ 1000)
    (h : ∀ (d d1 : Nat) (T : Nat → Value), True → GoesI Try.prog Stop (G ((base 6).at ⟨#[.slice base0 n cap, T 1, T 2, .pointer (some ⟨w.heap.size, 0, none⟩), T 4, .slice (some ⟨w.heap.size + 1, 0, none⟩) 0 (n + 3), T 6, T 7, T 8, T 9, T 10, T 11, T 12, T 13, T 14, T 15, T 16, T 17, T 18, T 19, T 20, T 21, T 22, T 23, T 24, T 25, T 26, T 27, T 28, T 29, T 30, T 31, T 32], []⟩ [.code (match body6 with | .seq _ (.seq _ c) => c | _ => .skip)]) cs) ((((w.at d).alloc (.cells fill 27)).at d1).alloc (.cells (madeCells zRec ((n + 3) * 12)) 27))) :
    GoesI Try.prog Stop (G (Frame.enter Try.prog 6 #[.slice base0 n cap, .agg fill] .normal) cs) w := by
  obtain ⟨i27, hi, hz, hs27, hb27⟩ := info_parts info27
  have hent : Frame.enter Try.prog 6 #[.slice base0 n cap, .agg fill] .normal = (base 6).at ⟨#[.slice base0 n cap, .agg fill, undef, undef, undef, undef, undef, undef, undef, undef, undef, undef, undef, undef, undef, undef, undef, undef, undef, undef, undef, undef, undef, undef, undef, undef, undef, undef, undef, undef, undef, undef, undef], []⟩ [.code body6] := by
    simp [Frame.enter, Frame.at, Try.func6, base, Try.f6, body6]
    try rfl
  rw [hent]
  simp only [body6, Try.f6, Option.getD_some] at h ⊢
  refine GoesI.ctl rfl (fun w => stepG_seq) ?_
  refine GoesI.ctl rfl (fun w => stepG_region) ?_
  simp only [List.size_toArray, List.length_cons, List.length_nil, Nat.reduceAdd, Nat.zero_add, List.range, List.range.loop]
  refine GoesI.op safeQ (by kernel_rfl) rfl rfl (by decide) (fun d => ⟨.pointer (some ⟨w.heap.size, 0, none⟩), (w.at d).alloc (.cells fill 27), ?_, ?_⟩)
  · rfl
  walk_nrm
  refine GoesI.val (.slice none 0 0) rfl rfl (by decide) (fun w => by go_simp) (fun w => by simp [go_sem]) ?_
  walk_nrm
  refine GoesI.ctl rfl (fun w => stepG_region_end) ?_
  refine GoesI.ctl rfl (fun w => stepG_seq) ?_
  refine GoesI.ctl rfl (fun w => stepG_region) ?_
  simp only [List.size_toArray, List.length_cons, List.length_nil, Nat.reduceAdd, Nat.zero_add, List.range, List.range.loop]
  refine GoesI.val (.slice base0 n cap) rfl rfl (by decide) (fun w => by go_simp) (fun w => by simp [go_sem]) ?_
  walk_nrm
  refine GoesI.val (.int .i64 n) rfl rfl (by decide) (fun w => by go_simp) (fun w => by simp [go_sem]) ?_
  walk_nrm
  refine GoesI.val (.int .i64 ((n + 3 : Nat) : Int)) rfl rfl (by decide) (fun w => by go_simp; try (rw [IntKind.wrap_i64]; omega)) (fun w => by simp [go_sem]) ?_
  walk_nrm
  refine GoesI.op safeQ (by kernel_rfl) rfl rfl (by decide) (fun d1 => ⟨.slice (some ⟨w.heap.size + 1, 0, none⟩) 0 (n + 3), (((w.at d).alloc (.cells fill 27)).at d1).alloc (.cells (madeCells zRec ((n + 3) * 12)) 27), ?_, ?_⟩)
  · have hm := run_make (P := Try.prog) (((w.at d).alloc (.cells fill 27)).at d1) 22 27 i27 (.agg zRec) Try.underlying22 hi hz .i64 .i64 0 ((n + 3 : Nat) : Int) (by omega) (by omega) (by rw [hb27]; omega) (by omega)
    rw [hs27, Int.toNat_natCast] at hm
    have e : (((w.at d).alloc (Obj.cells fill 27)).at d1).heap.size = w.heap.size + 1 := alloc_size (w := w.at d)
    rw [e] at hm
    unfold execOp
    walk_nrm
    simp only [Act.eval, Sem.run_bind]
    exact congrArg (fun r => Result.andThen r _) hm
  walk_nrm
  refine GoesI.val (.slice (some ⟨w.heap.size + 1, 0, none⟩) 0 (n + 3)) rfl rfl (by decide) (fun w => by go_simp) (fun w => by simp [go_sem]) ?_
  walk_nrm
  refine GoesI.ctl rfl (fun w => stepG_region_end) ?_
  exact h d d1 (fun q => match q with | 1 => .agg fill | 4 => .slice none 0 0 | 8 => .slice base0 n cap | 9 => .int .i64 n | 10 => .int .i64 ((n + 3 : Nat) : Int) | 11 => .slice (some ⟨w.heap.size + 1, 0, none⟩) 0 (n + 3) | _ => undef) trivial
end Go.Proofs.Ytofoplpnpfaofaa
