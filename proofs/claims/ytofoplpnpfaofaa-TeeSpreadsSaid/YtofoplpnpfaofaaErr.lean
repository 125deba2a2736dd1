/- What is proved here: Spread with a bad argument. No condition. -/
import Derived.Test.YtofoplpnpfaofaaAwake
set_option linter.unusedSimpArgs false
set_option linter.unusedVariables false
namespace Go.Proofs.Ytofoplpnpfaofaa
open Go Go.Conc Go.RowKit

set_option maxRecDepth 100000 in
theorem err1 {n room : Int} {lv : Value} (h : n < 1) (c : Frame) (cs : List Frame) (w : World) :
    GoesI Try.prog (fun g w' => g = G (c.finish (.tuple #[.slice none 0 0, .int .i64 1])) cs ∧ ∃ d, w' = w.at d) (G (Frame.enter Try.prog 7 #[lv, .int .i64 n, .int .i64 room] .normal) (c :: cs)) w := by
  have hent : Frame.enter Try.prog 7 #[lv, .int .i64 n, .int .i64 room] .normal = (base 7).at ⟨#[lv, .int .i64 n, .int .i64 room, undef, undef, undef, undef, undef, undef, undef, undef, undef, undef, undef, undef, undef, undef, undef, undef, undef, undef, undef, undef, undef, undef, undef, undef, undef, undef, undef, undef, undef, undef, undef, undef, undef, undef, undef, undef, undef, undef, undef, undef, undef, undef, undef, undef, undef, undef, undef, undef, undef, undef, undef, undef, undef, undef, undef, undef, undef, undef, undef], []⟩ [.code body7] := by
    simp [Frame.enter, Frame.at, Try.func7, base, Try.f7, body7]
  rw [hent]
  simp only [body7, Try.f7, Option.getD_some]
  refine GoesI.ctl rfl (fun w => stepG_seq) ?_
  refine GoesI.ctl rfl (fun w => stepG_region) ?_
  simp only [List.size_toArray, List.length_cons, List.length_nil, Nat.reduceAdd, Nat.zero_add, List.range, List.range.loop]
  refine GoesI.val (.slice none 0 0) rfl rfl (by decide) (fun w => by go_simp) (fun w => by simp [go_sem]) ?_
  walk_nrm
  refine GoesI.val (.int .i64 0) rfl rfl (by decide) (fun w => by go_simp) (fun w => by simp [go_sem]) ?_
  walk_nrm
  refine GoesI.ctl rfl (fun w => stepG_region_end) ?_
  refine GoesI.ctl rfl (fun w => stepG_seq) ?_
  refine GoesI.ctl rfl (fun w => stepG_seq) ?_
  refine GoesI.ctl rfl (fun w => stepG_region) ?_
  simp only [List.size_toArray, List.length_cons, List.length_nil, Nat.reduceAdd, Nat.zero_add, List.range, List.range.loop]
  refine GoesI.val (.int .i64 n) rfl rfl (by decide) (fun w => by go_simp) (fun w => by simp [go_sem]) ?_
  walk_nrm
  refine GoesI.val (.bool true) rfl rfl (by decide) (fun w => by go_simp; first | done | omega | (simp; omega)) (fun w => by simp [go_sem]) ?_
  walk_nrm
  refine GoesI.val (.bool true) rfl rfl (by decide) (fun w => by go_simp) (fun w => by simp [go_sem]) ?_
  walk_nrm
  refine GoesI.ctl rfl (fun w => stepG_unwanted rfl rfl) ?_
  walk_nrm
  refine GoesI.ctl rfl (fun w => stepG_unwanted rfl rfl) ?_
  walk_nrm
  refine GoesI.val (.bool true) rfl rfl (by decide) (fun w => by go_simp) (fun w => by simp [go_sem]) ?_
  walk_nrm
  refine GoesI.val (.bool true) rfl rfl (by decide) (fun w => by go_simp) (fun w => by simp [go_sem]) ?_
  walk_nrm
  refine GoesI.ctl rfl (fun w => stepG_unwanted rfl rfl) ?_
  walk_nrm
  refine GoesI.ctl rfl (fun w => stepG_unwanted rfl rfl) ?_
  walk_nrm
  refine GoesI.val (.bool true) rfl rfl (by decide) (fun w => by go_simp) (fun w => by simp [go_sem]) ?_
  walk_nrm
  refine GoesI.val (.bool true) rfl rfl (by decide) (fun w => by go_simp) (fun w => by simp [go_sem]) ?_
  walk_nrm
  refine GoesI.ctl rfl (fun w => stepG_unwanted rfl rfl) ?_
  walk_nrm
  refine GoesI.ctl rfl (fun w => stepG_unwanted rfl rfl) ?_
  walk_nrm
  refine GoesI.val (.bool true) rfl rfl (by decide) (fun w => by go_simp) (fun w => by simp [go_sem]) ?_
  walk_nrm
  refine GoesI.ctl rfl (fun w => stepG_region_end) ?_
  refine GoesI.ctl rfl (fun w => stepG_cond (t := true) rfl) ?_
  simp only [if_true]
  refine GoesI.ctl rfl (fun w => stepG_seq) ?_
  refine GoesI.ctl rfl (fun w => stepG_region) ?_
  simp only [List.size_toArray, List.length_cons, List.length_nil, Nat.reduceAdd, Nat.zero_add, List.range, List.range.loop]
  refine GoesI.val (.slice none 0 0) rfl rfl (by decide) (fun w => by go_simp) (fun w => by simp [go_sem]) ?_
  walk_nrm
  refine GoesI.val (.int .i64 1) rfl rfl (by decide) (fun w => by go_simp) (fun w => by simp [go_sem]) ?_
  walk_nrm
  refine GoesI.ctl rfl (fun w => stepG_region_end) ?_
  refine GoesI.ctl rfl (fun w => stepG_ret') ?_
  exact GoesI.ctl rfl (fun w => stepG_leave rfl rfl Try.func7 (results_tmp2 rfl _ _ _) (events_results_tmp2 rfl _ _)) (.stop fun d'' => ⟨rfl, d'', rfl⟩)

set_option maxRecDepth 100000 in
theorem err2 {n room : Int} {lv : Value} (h : ¬ n < 1) (h2 : 16 < n) (c : Frame) (cs : List Frame) (w : World) :
    GoesI Try.prog (fun g w' => g = G (c.finish (.tuple #[.slice none 0 0, .int .i64 1])) cs ∧ ∃ d, w' = w.at d) (G (Frame.enter Try.prog 7 #[lv, .int .i64 n, .int .i64 room] .normal) (c :: cs)) w := by
  have hent : Frame.enter Try.prog 7 #[lv, .int .i64 n, .int .i64 room] .normal = (base 7).at ⟨#[lv, .int .i64 n, .int .i64 room, undef, undef, undef, undef, undef, undef, undef, undef, undef, undef, undef, undef, undef, undef, undef, undef, undef, undef, undef, undef, undef, undef, undef, undef, undef, undef, undef, undef, undef, undef, undef, undef, undef, undef, undef, undef, undef, undef, undef, undef, undef, undef, undef, undef, undef, undef, undef, undef, undef, undef, undef, undef, undef, undef, undef, undef, undef, undef, undef], []⟩ [.code body7] := by
    simp [Frame.enter, Frame.at, Try.func7, base, Try.f7, body7]
  rw [hent]
  simp only [body7, Try.f7, Option.getD_some]
  refine GoesI.ctl rfl (fun w => stepG_seq) ?_
  refine GoesI.ctl rfl (fun w => stepG_region) ?_
  simp only [List.size_toArray, List.length_cons, List.length_nil, Nat.reduceAdd, Nat.zero_add, List.range, List.range.loop]
  refine GoesI.val (.slice none 0 0) rfl rfl (by decide) (fun w => by go_simp) (fun w => by simp [go_sem]) ?_
  walk_nrm
  refine GoesI.val (.int .i64 0) rfl rfl (by decide) (fun w => by go_simp) (fun w => by simp [go_sem]) ?_
  walk_nrm
  refine GoesI.ctl rfl (fun w => stepG_region_end) ?_
  refine GoesI.ctl rfl (fun w => stepG_seq) ?_
  refine GoesI.ctl rfl (fun w => stepG_seq) ?_
  refine GoesI.ctl rfl (fun w => stepG_region) ?_
  simp only [List.size_toArray, List.length_cons, List.length_nil, Nat.reduceAdd, Nat.zero_add, List.range, List.range.loop]
  refine GoesI.val (.int .i64 n) rfl rfl (by decide) (fun w => by go_simp) (fun w => by simp [go_sem]) ?_
  walk_nrm
  refine GoesI.val (.bool false) rfl rfl (by decide) (fun w => by go_simp; first | done | omega | (simp; omega)) (fun w => by simp [go_sem]) ?_
  walk_nrm
  refine GoesI.val (.bool false) rfl rfl (by decide) (fun w => by go_simp) (fun w => by simp [go_sem]) ?_
  walk_nrm
  refine GoesI.val (.int .i64 n) rfl rfl (by decide) (fun w => by go_simp) (fun w => by simp [go_sem]) ?_
  walk_nrm
  refine GoesI.val (.bool true) rfl rfl (by decide) (fun w => by go_simp; first | done | omega | (simp; omega)) (fun w => by simp [go_sem]) ?_
  walk_nrm
  refine GoesI.val (.bool true) rfl rfl (by decide) (fun w => by go_simp) (fun w => by simp [go_sem]) ?_
  walk_nrm
  refine GoesI.val (.bool true) rfl rfl (by decide) (fun w => by go_simp) (fun w => by simp [go_sem]) ?_
  walk_nrm
  refine GoesI.ctl rfl (fun w => stepG_unwanted rfl rfl) ?_
  walk_nrm
  refine GoesI.ctl rfl (fun w => stepG_unwanted rfl rfl) ?_
  walk_nrm
  refine GoesI.val (.bool true) rfl rfl (by decide) (fun w => by go_simp) (fun w => by simp [go_sem]) ?_
  walk_nrm
  refine GoesI.val (.bool true) rfl rfl (by decide) (fun w => by go_simp) (fun w => by simp [go_sem]) ?_
  walk_nrm
  refine GoesI.ctl rfl (fun w => stepG_unwanted rfl rfl) ?_
  walk_nrm
  refine GoesI.ctl rfl (fun w => stepG_unwanted rfl rfl) ?_
  walk_nrm
  refine GoesI.val (.bool true) rfl rfl (by decide) (fun w => by go_simp) (fun w => by simp [go_sem]) ?_
  walk_nrm
  refine GoesI.ctl rfl (fun w => stepG_region_end) ?_
  refine GoesI.ctl rfl (fun w => stepG_cond (t := true) rfl) ?_
  simp only [if_true]
  refine GoesI.ctl rfl (fun w => stepG_seq) ?_
  refine GoesI.ctl rfl (fun w => stepG_region) ?_
  simp only [List.size_toArray, List.length_cons, List.length_nil, Nat.reduceAdd, Nat.zero_add, List.range, List.range.loop]
  refine GoesI.val (.slice none 0 0) rfl rfl (by decide) (fun w => by go_simp) (fun w => by simp [go_sem]) ?_
  walk_nrm
  refine GoesI.val (.int .i64 1) rfl rfl (by decide) (fun w => by go_simp) (fun w => by simp [go_sem]) ?_
  walk_nrm
  refine GoesI.ctl rfl (fun w => stepG_region_end) ?_
  refine GoesI.ctl rfl (fun w => stepG_ret') ?_
  exact GoesI.ctl rfl (fun w => stepG_leave rfl rfl Try.func7 (results_tmp2 rfl _ _ _) (events_results_tmp2 rfl _ _)) (.stop fun d'' => ⟨rfl, d'', rfl⟩)

set_option maxRecDepth 100000 in
theorem err3 {n room : Int} {lv : Value} (h : ¬ n < 1) (h2 : ¬ 16 < n) (h3 : room < 0) (c : Frame) (cs : List Frame) (w : World) :
    GoesI Try.prog (fun g w' => g = G (c.finish (.tuple #[.slice none 0 0, .int .i64 1])) cs ∧ ∃ d, w' = w.at d) (G (Frame.enter Try.prog 7 #[lv, .int .i64 n, .int .i64 room] .normal) (c :: cs)) w := by
  have hent : Frame.enter Try.prog 7 #[lv, .int .i64 n, .int .i64 room] .normal = (base 7).at ⟨#[lv, .int .i64 n, .int .i64 room, undef, undef, undef, undef, undef, undef, undef, undef, undef, undef, undef, undef, undef, undef, undef, undef, undef, undef, undef, undef, undef, undef, undef, undef, undef, undef, undef, undef, undef, undef, undef, undef, undef, undef, undef, undef, undef, undef, undef, undef, undef, undef, undef, undef, undef, undef, undef, undef, undef, undef, undef, undef, undef, undef, undef, undef, undef, undef, undef], []⟩ [.code body7] := by
    simp [Frame.enter, Frame.at, Try.func7, base, Try.f7, body7]
  rw [hent]
  simp only [body7, Try.f7, Option.getD_some]
  refine GoesI.ctl rfl (fun w => stepG_seq) ?_
  refine GoesI.ctl rfl (fun w => stepG_region) ?_
  simp only [List.size_toArray, List.length_cons, List.length_nil, Nat.reduceAdd, Nat.zero_add, List.range, List.range.loop]
  refine GoesI.val (.slice none 0 0) rfl rfl (by decide) (fun w => by go_simp) (fun w => by simp [go_sem]) ?_
  walk_nrm
  refine GoesI.val (.int .i64 0) rfl rfl (by decide) (fun w => by go_simp) (fun w => by simp [go_sem]) ?_
  walk_nrm
  refine GoesI.ctl rfl (fun w => stepG_region_end) ?_
  refine GoesI.ctl rfl (fun w => stepG_seq) ?_
  refine GoesI.ctl rfl (fun w => stepG_seq) ?_
  refine GoesI.ctl rfl (fun w => stepG_region) ?_
  simp only [List.size_toArray, List.length_cons, List.length_nil, Nat.reduceAdd, Nat.zero_add, List.range, List.range.loop]
  refine GoesI.val (.int .i64 n) rfl rfl (by decide) (fun w => by go_simp) (fun w => by simp [go_sem]) ?_
  walk_nrm
  refine GoesI.val (.bool false) rfl rfl (by decide) (fun w => by go_simp; first | done | omega | (simp; omega)) (fun w => by simp [go_sem]) ?_
  walk_nrm
  refine GoesI.val (.bool false) rfl rfl (by decide) (fun w => by go_simp) (fun w => by simp [go_sem]) ?_
  walk_nrm
  refine GoesI.val (.int .i64 n) rfl rfl (by decide) (fun w => by go_simp) (fun w => by simp [go_sem]) ?_
  walk_nrm
  refine GoesI.val (.bool false) rfl rfl (by decide) (fun w => by go_simp; first | done | omega | (simp; omega)) (fun w => by simp [go_sem]) ?_
  walk_nrm
  refine GoesI.val (.bool false) rfl rfl (by decide) (fun w => by go_simp) (fun w => by simp [go_sem]) ?_
  walk_nrm
  refine GoesI.val (.bool false) rfl rfl (by decide) (fun w => by go_simp) (fun w => by simp [go_sem]) ?_
  walk_nrm
  refine GoesI.val (.int .i64 room) rfl rfl (by decide) (fun w => by go_simp) (fun w => by simp [go_sem]) ?_
  walk_nrm
  refine GoesI.val (.bool true) rfl rfl (by decide) (fun w => by go_simp; first | done | omega | (simp; omega)) (fun w => by simp [go_sem]) ?_
  walk_nrm
  refine GoesI.val (.bool true) rfl rfl (by decide) (fun w => by go_simp) (fun w => by simp [go_sem]) ?_
  walk_nrm
  refine GoesI.val (.bool true) rfl rfl (by decide) (fun w => by go_simp) (fun w => by simp [go_sem]) ?_
  walk_nrm
  refine GoesI.ctl rfl (fun w => stepG_unwanted rfl rfl) ?_
  walk_nrm
  refine GoesI.ctl rfl (fun w => stepG_unwanted rfl rfl) ?_
  walk_nrm
  refine GoesI.val (.bool true) rfl rfl (by decide) (fun w => by go_simp) (fun w => by simp [go_sem]) ?_
  walk_nrm
  refine GoesI.ctl rfl (fun w => stepG_region_end) ?_
  refine GoesI.ctl rfl (fun w => stepG_cond (t := true) rfl) ?_
  simp only [if_true]
  refine GoesI.ctl rfl (fun w => stepG_seq) ?_
  refine GoesI.ctl rfl (fun w => stepG_region) ?_
  simp only [List.size_toArray, List.length_cons, List.length_nil, Nat.reduceAdd, Nat.zero_add, List.range, List.range.loop]
  refine GoesI.val (.slice none 0 0) rfl rfl (by decide) (fun w => by go_simp) (fun w => by simp [go_sem]) ?_
  walk_nrm
  refine GoesI.val (.int .i64 1) rfl rfl (by decide) (fun w => by go_simp) (fun w => by simp [go_sem]) ?_
  walk_nrm
  refine GoesI.ctl rfl (fun w => stepG_region_end) ?_
  refine GoesI.ctl rfl (fun w => stepG_ret') ?_
  exact GoesI.ctl rfl (fun w => stepG_leave rfl rfl Try.func7 (results_tmp2 rfl _ _ _) (events_results_tmp2 rfl _ _)) (.stop fun d'' => ⟨rfl, d'', rfl⟩)

set_option maxRecDepth 100000 in
theorem err4 {n room : Int} {lv : Value} (h : ¬ n < 1) (h2 : ¬ 16 < n) (h3 : ¬ room < 0) (h4 : 64 < room) (c : Frame) (cs : List Frame) (w : World) :
    GoesI Try.prog (fun g w' => g = G (c.finish (.tuple #[.slice none 0 0, .int .i64 1])) cs ∧ ∃ d, w' = w.at d) (G (Frame.enter Try.prog 7 #[lv, .int .i64 n, .int .i64 room] .normal) (c :: cs)) w := by
  have hent : Frame.enter Try.prog 7 #[lv, .int .i64 n, .int .i64 room] .normal = (base 7).at ⟨#[lv, .int .i64 n, .int .i64 room, undef, undef, undef, undef, undef, undef, undef, undef, undef, undef, undef, undef, undef, undef, undef, undef, undef, undef, undef, undef, undef, undef, undef, undef, undef, undef, undef, undef, undef, undef, undef, undef, undef, undef, undef, undef, undef, undef, undef, undef, undef, undef, undef, undef, undef, undef, undef, undef, undef, undef, undef, undef, undef, undef, undef, undef, undef, undef, undef], []⟩ [.code body7] := by
    simp [Frame.enter, Frame.at, Try.func7, base, Try.f7, body7]
  rw [hent]
  simp only [body7, Try.f7, Option.getD_some]
  refine GoesI.ctl rfl (fun w => stepG_seq) ?_
  refine GoesI.ctl rfl (fun w => stepG_region) ?_
  simp only [List.size_toArray, List.length_cons, List.length_nil, Nat.reduceAdd, Nat.zero_add, List.range, List.range.loop]
  refine GoesI.val (.slice none 0 0) rfl rfl (by decide) (fun w => by go_simp) (fun w => by simp [go_sem]) ?_
  walk_nrm
  refine GoesI.val (.int .i64 0) rfl rfl (by decide) (fun w => by go_simp) (fun w => by simp [go_sem]) ?_
  walk_nrm
  refine GoesI.ctl rfl (fun w => stepG_region_end) ?_
  refine GoesI.ctl rfl (fun w => stepG_seq) ?_
  refine GoesI.ctl rfl (fun w => stepG_seq) ?_
  refine GoesI.ctl rfl (fun w => stepG_region) ?_
  simp only [List.size_toArray, List.length_cons, List.length_nil, Nat.reduceAdd, Nat.zero_add, List.range, List.range.loop]
  refine GoesI.val (.int .i64 n) rfl rfl (by decide) (fun w => by go_simp) (fun w => by simp [go_sem]) ?_
  walk_nrm
  refine GoesI.val (.bool false) rfl rfl (by decide) (fun w => by go_simp; first | done | omega | (simp; omega)) (fun w => by simp [go_sem]) ?_
  walk_nrm
  refine GoesI.val (.bool false) rfl rfl (by decide) (fun w => by go_simp) (fun w => by simp [go_sem]) ?_
  walk_nrm
  refine GoesI.val (.int .i64 n) rfl rfl (by decide) (fun w => by go_simp) (fun w => by simp [go_sem]) ?_
  walk_nrm
  refine GoesI.val (.bool false) rfl rfl (by decide) (fun w => by go_simp; first | done | omega | (simp; omega)) (fun w => by simp [go_sem]) ?_
  walk_nrm
  refine GoesI.val (.bool false) rfl rfl (by decide) (fun w => by go_simp) (fun w => by simp [go_sem]) ?_
  walk_nrm
  refine GoesI.val (.bool false) rfl rfl (by decide) (fun w => by go_simp) (fun w => by simp [go_sem]) ?_
  walk_nrm
  refine GoesI.val (.int .i64 room) rfl rfl (by decide) (fun w => by go_simp) (fun w => by simp [go_sem]) ?_
  walk_nrm
  refine GoesI.val (.bool false) rfl rfl (by decide) (fun w => by go_simp; first | done | omega | (simp; omega)) (fun w => by simp [go_sem]) ?_
  walk_nrm
  refine GoesI.val (.bool false) rfl rfl (by decide) (fun w => by go_simp) (fun w => by simp [go_sem]) ?_
  walk_nrm
  refine GoesI.val (.bool false) rfl rfl (by decide) (fun w => by go_simp) (fun w => by simp [go_sem]) ?_
  walk_nrm
  refine GoesI.val (.int .i64 room) rfl rfl (by decide) (fun w => by go_simp) (fun w => by simp [go_sem]) ?_
  walk_nrm
  refine GoesI.val (.bool true) rfl rfl (by decide) (fun w => by go_simp; first | done | omega | (simp; omega)) (fun w => by simp [go_sem]) ?_
  walk_nrm
  refine GoesI.val (.bool true) rfl rfl (by decide) (fun w => by go_simp) (fun w => by simp [go_sem]) ?_
  walk_nrm
  refine GoesI.ctl rfl (fun w => stepG_region_end) ?_
  refine GoesI.ctl rfl (fun w => stepG_cond (t := true) rfl) ?_
  simp only [if_true]
  refine GoesI.ctl rfl (fun w => stepG_seq) ?_
  refine GoesI.ctl rfl (fun w => stepG_region) ?_
  simp only [List.size_toArray, List.length_cons, List.length_nil, Nat.reduceAdd, Nat.zero_add, List.range, List.range.loop]
  refine GoesI.val (.slice none 0 0) rfl rfl (by decide) (fun w => by go_simp) (fun w => by simp [go_sem]) ?_
  walk_nrm
  refine GoesI.val (.int .i64 1) rfl rfl (by decide) (fun w => by go_simp) (fun w => by simp [go_sem]) ?_
  walk_nrm
  refine GoesI.ctl rfl (fun w => stepG_region_end) ?_
  refine GoesI.ctl rfl (fun w => stepG_ret') ?_
  exact GoesI.ctl rfl (fun w => stepG_leave rfl rfl Try.func7 (results_tmp2 rfl _ _ _) (events_results_tmp2 rfl _ _)) (.stop fun d'' => ⟨rfl, d'', rfl⟩)

/-- Spread with a bad argument. -/
theorem spread_err {n room : Int} {lv : Value} (h : n < 1 ∨ 16 < n ∨ room < 0 ∨ 64 < room) (c : Frame) (cs : List Frame) (w : World) :
    GoesI Try.prog (fun g w' => g = G (c.finish (.tuple #[.slice none 0 0, .int .i64 1])) cs ∧ ∃ d, w' = w.at d) (G (Frame.enter Try.prog 7 #[lv, .int .i64 n, .int .i64 room] .normal) (c :: cs)) w := by
  by_cases h1 : n < 1
  · exact err1 h1 c cs w
  by_cases h2 : 16 < n
  · exact err2 h1 h2 c cs w
  by_cases h3 : room < 0
  · exact err3 h1 h2 h3 c cs w
  · exact err4 h1 h2 h3 (by omega) c cs w
end Go.Proofs.Ytofoplpnpfaofaa
