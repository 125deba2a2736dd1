/- What is proved here: the middle of a copy with spare room behind it: behind the append, to the loop. No condition. -/
import Derived.Test.YtofoplpnpfaofaaQuiet
set_option linter.unusedSimpArgs false
set_option linter.unusedVariables false
namespace Go.Proofs.Ytofoplpnpfaofaa
open Go Go.Conc Go.RowKit

set_option maxRecDepth 100000 in
/-- From the append on. -/
theorem own_mid {base0 : Option Addr} {cap n fb g : Nat} {cs : List Frame} {w : World} {T : Nat → Value} {Stop : Goroutine → World → Prop} (hn : n ≤ 1000) (hap : ∀ d, ∃ w', (Builtin.append_ #[22, 22] 22 #[.slice (some ⟨g, 0, none⟩) 0 (n + 3), .slice base0 n cap]).run Try.prog (w.at d) = .ok (.slice (some ⟨g, 0, none⟩) n (n + 3)) w' ∧ ∀ T', GoesI Try.prog Stop (at6 fb g n n T' cs) w') :
    GoesI Try.prog Stop (G ((base 6).at ⟨#[.slice base0 n cap, T 1, T 2, .pointer (some ⟨fb, 0, none⟩), T 4, .slice (some ⟨g, 0, none⟩) 0 (n + 3), T 6, T 7, T 8, T 9, T 10, T 11, T 12, T 13, T 14, T 15, T 16, T 17, T 18, T 19, T 20, T 21, T 22, T 23, T 24, T 25, T 26, T 27, T 28, T 29, T 30, T 31, T 32], []⟩ [.code (match body6 with | .seq _ (.seq _ c) => c | _ => .skip)]) cs) w := by
  simp only [at6, loop6, end6, from64, body6, Try.f6, Option.getD_some] at hap ⊢
  refine GoesI.ctl rfl (fun w => stepG_seq) ?_
  refine GoesI.ctl rfl (fun w => stepG_region) ?_
  simp only [List.size_toArray, List.length_cons, List.length_nil, Nat.reduceAdd, Nat.zero_add, List.range, List.range.loop]
  refine GoesI.val (.slice (some ⟨g, 0, none⟩) 0 (n + 3)) rfl rfl (by decide) (fun w => by go_simp) (fun w => by simp [go_sem]) ?_
  walk_nrm
  refine GoesI.val (.slice base0 n cap) rfl rfl (by decide) (fun w => by go_simp) (fun w => by simp [go_sem]) ?_
  walk_nrm
  refine GoesI.op safeQ (by kernel_rfl) rfl rfl (by decide) (fun d => ⟨.slice (some ⟨g, 0, none⟩) n (n + 3), (hap d).choose, run_append_op (.tmp 12) (.tmp 13) 22 rfl rfl rfl (hap d).choose_spec.1, ?_⟩)
  have hgo := (hap d).choose_spec.2
  generalize (hap d).choose = w' at hgo ⊢
  walk_nrm
  refine GoesI.val (.slice (some ⟨g, 0, none⟩) n (n + 3)) rfl rfl (by decide) (fun w => by go_simp) (fun w => by simp [go_sem]) ?_
  walk_nrm
  refine GoesI.ctl rfl (fun w => stepG_region_end) ?_
  refine GoesI.ctl rfl (fun w => stepG_seq) ?_
  refine GoesI.ctl rfl (fun w => stepG_region) ?_
  simp only [List.size_toArray, List.length_cons, List.length_nil, Nat.reduceAdd, Nat.zero_add, List.range, List.range.loop]
  refine GoesI.val (.slice (some ⟨g, 0, none⟩) n (n + 3)) rfl rfl (by decide) (fun w => by go_simp) (fun w => by simp [go_sem]) ?_
  walk_nrm
  refine GoesI.val (.slice base0 n cap) rfl rfl (by decide) (fun w => by go_simp) (fun w => by simp [go_sem]) ?_
  walk_nrm
  refine GoesI.val (.int .i64 n) rfl rfl (by decide) (fun w => by go_simp) (fun w => by simp [go_sem]) ?_
  walk_nrm
  refine GoesI.val (.int .i64 ((n + 3 : Nat) : Int)) rfl rfl (by decide) (fun w => by go_simp; try (rw [IntKind.wrap_i64]; omega)) (fun w => by simp [go_sem]) ?_
  walk_nrm
  refine GoesI.ld safeQ (.slice (some ⟨g, 0, none⟩) (n + 3) (n + 3)) (by kernel_rfl) rfl rfl (by decide) (fun d => ?_) ?_
  · exact run_slice_to rfl rfl rfl (Nat.le_refl _) (.inr ⟨g, 0, rfl⟩)
  walk_nrm
  refine GoesI.val (.slice (some ⟨g, 0, none⟩) (n + 3) (n + 3)) rfl rfl (by decide) (fun w => by go_simp) (fun w => by simp [go_sem]) ?_
  walk_nrm
  refine GoesI.ctl rfl (fun w => stepG_region_end) ?_
  refine GoesI.ctl rfl (fun w => stepG_seq) ?_
  refine GoesI.ctl rfl (fun w => stepG_seq) ?_
  refine GoesI.ctl rfl (fun w => stepG_region) ?_
  simp only [List.size_toArray, List.length_cons, List.length_nil, Nat.reduceAdd, Nat.zero_add, List.range, List.range.loop]
  refine GoesI.val (.slice base0 n cap) rfl rfl (by decide) (fun w => by go_simp) (fun w => by simp [go_sem]) ?_
  walk_nrm
  refine GoesI.val (.int .i64 n) rfl rfl (by decide) (fun w => by go_simp) (fun w => by simp [go_sem]) ?_
  walk_nrm
  refine GoesI.val (.int .i64 n) rfl rfl (by decide) (fun w => by go_simp) (fun w => by simp [go_sem]) ?_
  walk_nrm
  refine GoesI.ctl rfl (fun w => stepG_region_end) ?_
  refine GoesI.ctl rfl (fun w => stepG_block) ?_
  refine GoesI.ctl rfl (fun w => stepG_loop) ?_
  exact hgo (fun q => match q with | 0 => .slice base0 n cap | 12 => .slice (some ⟨g, 0, none⟩) 0 (n + 3) | 13 => .slice base0 n cap | 14 => .slice (some ⟨g, 0, none⟩) n (n + 3) | 15 => .slice (some ⟨g, 0, none⟩) n (n + 3) | 16 => .slice base0 n cap | 17 => .int .i64 n | 18 => .int .i64 ((n + 3 : Nat) : Int) | 19 => .slice (some ⟨g, 0, none⟩) (n + 3) (n + 3) | 20 => .slice base0 n cap | 21 => .int .i64 n | q => T q)
end Go.Proofs.Ytofoplpnpfaofaa
