/- What is proved here: TeeSpreads' law, ahead of its own loop. Conditions: its list reads as records. -/
import Derived.Test.YtofoplpnpfaofaaM1
set_option linter.unusedSimpArgs false
set_option linter.unusedVariables false
namespace Go.Proofs.Ytofoplpnpfaofaa
open Go Go.Conc Go.RowKit

noncomputable def body3 : Code := Try.f3.body.getD .skip
noncomputable def s31 : Code := match body3 with | .seq _ c => c | _ => .skip
noncomputable def s32 : Code := match s31 with | .seq _ c => c | _ => .skip
noncomputable def s33 : Code := match s32 with | .seq _ c => c | _ => .skip
noncomputable def s34 : Code := match s33 with | .seq _ c => c | _ => .skip
noncomputable def s35 : Code := match s34 with | .seq _ c => c | _ => .skip
noncomputable def s36 : Code := match s35 with | .seq _ c => c | _ => .skip
noncomputable def s37 : Code := match s36 with | .seq _ c => c | _ => .skip
noncomputable def s38 : Code := match s37 with | .seq _ c => c | _ => .skip
noncomputable def c37 : Code := match s37 with | .seq c _ => c | _ => .skip

theorem Owned.rows {w : World} {N0 : Nat} {v : Value} {vs : List Value} {fill : Array Value} (h : Owned w N0 v vs fill) (hr : ∀ v ∈ vs, Rec12 v) (hf : Rec12 (.agg fill)) : ∃ N, v = .slice (some ⟨N, 0, none⟩) vs.length (vs.length + 3) ∧ RowAt w (some ⟨N, 0, none⟩) (vs ++ List.replicate 3 (.agg fill)) ∧ Rows w v vs := by
  obtain ⟨N, arr, e, _, hg, ha⟩ := h.own
  have hrow : RowAt w (some ⟨N, 0, none⟩) (vs ++ List.replicate 3 (.agg fill)) := by
    refine rowAt_block hg ?_ fun v hv => ?_
    · rw [ha, cellsOf_append]
      simp [cellsOf, List.replicate, Value.cells]
    · rcases List.mem_append.1 hv with hv | hv
      · exact hr v hv
      · rw [(List.mem_replicate.1 hv).2]; exact hf
  refine ⟨N, e, hrow, hr, _, _, e, fun hp => ⟨N, 0, rfl, lt_of_heap hg, ⟨_, _, _, hg⟩, fun i cells hi => ?_⟩⟩
  obtain ⟨o, q, e1, _, hr1⟩ := hrow.left i _ hi
  cases e1
  exact hr1

theorem In4.cut {W : World} {b1 : Option Addr} {n c1 m : Nat} {vs : List Value} (h : In4 W b1 n c1 vs) (hm : m ≤ n) : In4 W b1 m c1 (vs.take m) :=
  ⟨by rw [List.length_take, h.len]; omega, fun v hv => h.recs v (List.mem_of_mem_take hv), h.row.take m, by have := h.room; omega, by have := h.cap; omega, h.base⟩

/-- Ahead of Spread's call. -/
structure K33 (W : World) (b1 : Option Addr) (m c1 : Nat) (ln rm : Int) (vs : List Value) (a : Act) (w : World) : Prop where
  size : a.tmps.size = 77
  old : Old W w (fun _ => False)
  slots : ∃ N1, RowAt w (some ⟨N1, 0, none⟩) (vs ++ List.replicate 3 (.agg rec71)) ∧ Rows w (.slice (some ⟨N1, 0, none⟩) m (m + 3)) vs ∧
    SlotsL [(0, .slice b1 m c1), (1, .int .i64 ln), (2, .int .i64 rm), (7, .slice (some ⟨N1, 0, none⟩) m (m + 3))] a.tmps

set_option maxRecDepth 100000 in
theorem p3a {W : World} {b1 : Option Addr} {n c1 : Nat} {ln rm : Int} {vs : List Value} {a : Act} (hs : a.tmps.size = 77) (hl : SlotsL [(0, .slice b1 n c1), (1, .int .i64 ln), (2, .int .i64 rm)] a.tmps) (hd : a.defers = []) (h1 : In4 W b1 n c1 vs) (hn : n ≤ 100) :
    GoesI Try.prog (fun g w => ∃ a', g = G ((base 3).at a' [.code s33]) [] ∧ a'.defers = [] ∧ K33 W b1 n c1 ln rm vs a' w) (G ((base 3).at a [.code body3]) []) W := by
  have h2 : In4 W b1 n c1 vs := h1
  obtain ⟨tm, df⟩ := a
  obtain rfl : df = [] := hd
  have hs0 : tm.size = 77 := hs
  have ht := arr_full hs0
  obtain ⟨e0, e1, e2, _⟩ := hl
  simp only [List.range, List.range.loop, List.map] at ht
  rw [ht]
  rw [show tm.getD 0 undef = .slice b1 n c1 from e0]
  rw [show tm.getD 1 undef = .int .i64 ln from e1]
  rw [show tm.getD 2 undef = .int .i64 rm from e2]
  clear ht hs hs0 e0 e1 e2
  generalize tm.getD 3 undef = x3
  generalize tm.getD 4 undef = x4
  generalize tm.getD 5 undef = x5
  generalize tm.getD 6 undef = x6
  generalize tm.getD 7 undef = x7
  generalize tm.getD 8 undef = x8
  generalize tm.getD 9 undef = x9
  generalize tm.getD 10 undef = x10
  generalize tm.getD 11 undef = x11
  generalize tm.getD 12 undef = x12
  generalize tm.getD 13 undef = x13
  generalize tm.getD 14 undef = x14
  generalize tm.getD 15 undef = x15
  generalize tm.getD 16 undef = x16
  generalize tm.getD 17 undef = x17
  generalize tm.getD 18 undef = x18
  generalize tm.getD 19 undef = x19
  generalize tm.getD 20 undef = x20
  generalize tm.getD 21 undef = x21
  generalize tm.getD 22 undef = x22
  generalize tm.getD 23 undef = x23
  generalize tm.getD 24 undef = x24
  generalize tm.getD 25 undef = x25
  generalize tm.getD 26 undef = x26
  generalize tm.getD 27 undef = x27
  generalize tm.getD 28 undef = x28
  generalize tm.getD 29 undef = x29
  generalize tm.getD 30 undef = x30
  generalize tm.getD 31 undef = x31
  generalize tm.getD 32 undef = x32
  generalize tm.getD 33 undef = x33
  generalize tm.getD 34 undef = x34
  generalize tm.getD 35 undef = x35
  generalize tm.getD 36 undef = x36
  generalize tm.getD 37 undef = x37
  generalize tm.getD 38 undef = x38
  generalize tm.getD 39 undef = x39
  generalize tm.getD 40 undef = x40
  generalize tm.getD 41 undef = x41
  generalize tm.getD 42 undef = x42
  generalize tm.getD 43 undef = x43
  generalize tm.getD 44 undef = x44
  generalize tm.getD 45 undef = x45
  generalize tm.getD 46 undef = x46
  generalize tm.getD 47 undef = x47
  generalize tm.getD 48 undef = x48
  generalize tm.getD 49 undef = x49
  generalize tm.getD 50 undef = x50
  generalize tm.getD 51 undef = x51
  generalize tm.getD 52 undef = x52
  generalize tm.getD 53 undef = x53
  generalize tm.getD 54 undef = x54
  generalize tm.getD 55 undef = x55
  generalize tm.getD 56 undef = x56
  generalize tm.getD 57 undef = x57
  generalize tm.getD 58 undef = x58
  generalize tm.getD 59 undef = x59
  generalize tm.getD 60 undef = x60
  generalize tm.getD 61 undef = x61
  generalize tm.getD 62 undef = x62
  generalize tm.getD 63 undef = x63
  generalize tm.getD 64 undef = x64
  generalize tm.getD 65 undef = x65
  generalize tm.getD 66 undef = x66
  generalize tm.getD 67 undef = x67
  generalize tm.getD 68 undef = x68
  generalize tm.getD 69 undef = x69
  generalize tm.getD 70 undef = x70
  generalize tm.getD 71 undef = x71
  generalize tm.getD 72 undef = x72
  generalize tm.getD 73 undef = x73
  generalize tm.getD 74 undef = x74
  generalize tm.getD 75 undef = x75
  generalize tm.getD 76 undef = x76

  simp only [s38, s37, s36, s35, s34, s33, s32, s31, body3, Try.f3, Option.getD_some]
  refine GoesI.ctl rfl (fun w => stepG_seq) ?_
  refine GoesI.ctl rfl (fun w => stepG_region) ?_
  simp only [List.size_toArray, List.length_cons, List.length_nil, Nat.reduceAdd, Nat.zero_add, List.range, List.range.loop]
  refine GoesI.val (.bool false) rfl rfl (by decide) (fun w => by go_simp) (fun w => by simp [go_sem]) ?_
  walk_nrm
  refine GoesI.ctl rfl (fun w => stepG_region_end) ?_
  refine GoesI.ctl rfl (fun w => stepG_seq) ?_
  refine GoesI.ctl rfl (fun w => stepG_seq) ?_
  refine GoesI.ctl rfl (fun w => stepG_region) ?_
  simp only [List.size_toArray, List.length_cons, List.length_nil, Nat.reduceAdd, Nat.zero_add, List.range, List.range.loop]
  refine GoesI.val (.slice b1 n c1) rfl rfl (by decide) (fun w => by go_simp) (fun w => by simp [go_sem]) ?_
  walk_nrm
  refine GoesI.val (.int .i64 ((n : Nat) : Int)) rfl rfl (by decide) (fun w => by go_simp) (fun w => by simp [go_sem]) ?_
  walk_nrm
  refine GoesI.val (.bool false) rfl rfl (by decide) (fun w => by go_simp; first | done | omega | (simp; omega)) (fun w => by simp [go_sem]) ?_
  walk_nrm
  refine GoesI.ctl rfl (fun w => stepG_region_end) ?_
  refine GoesI.ctl rfl (fun w => stepG_cond (t := false) rfl) ?_
  simp only [Bool.false_eq_true, if_false]
  refine GoesI.ctl rfl (fun w => stepG_skip) ?_
  refine GoesI.ctl rfl (fun w => stepG_seq) ?_
  refine GoesI.ctl rfl (fun w => stepG_region) ?_
  simp only [List.size_toArray, List.length_cons, List.length_nil, Nat.reduceAdd, Nat.zero_add, List.range, List.range.loop]
  refine GoesI.val (.slice b1 n c1) rfl rfl (by decide) (fun w => by go_simp) (fun w => by simp [go_sem]) ?_
  walk_nrm
  refine GoesI.ld safeQ (.agg rec71) (by kernel_rfl) rfl rfl (by decide) (fun d => by unfold execOp; walk_nrm; simp only [Act.eval, Sem.run_bind, hbuild71, Result.andThen_ok, Sem.run_pure]) ?_
  walk_nrm
  refine GoesI.ctl rfl (fun w => stepG_callG rfl rfl (by decide) rfl Try.func6 (by kernel_rfl) rfl w) ?_
  try simp only [List.map_toArray, List.map_cons, List.map_nil]
  walk_nrm
  refine GoesI.bind (GoesI.mono ?_ (own_goes h2.rows (by have := h2.len; omega) rfl rec71one _ _))
  rintro g1 w1 ⟨y1, rfl, hown1, ho1⟩
  obtain ⟨N1, e1, hrow1, hrows1⟩ := hown1.rows (fun v hv => (h2.recs v hv).rec) rec71T.rec
  rw [h2.len] at e1
  subst e1
  rw [Frame.finish_at]
  walk_nrm
  refine GoesI.val (.slice (some ⟨N1, 0, none⟩) n (n + 3)) rfl rfl (by decide) (fun w => by go_simp) (fun w => by simp [go_sem]) ?_
  walk_nrm
  refine GoesI.ctl rfl (fun w => stepG_region_end) ?_
  exact .stop fun d => ⟨_, rfl, rfl, rfl, ho1.at_ d, N1, hrow1.mono ((Old.refl _ _).at_ d), hrows1.on ((Old.refl _ _).at_ d), ⟨rfl, rfl, rfl, rfl, trivial⟩⟩

set_option maxRecDepth 100000 in
theorem p3al {W : World} {b1 : Option Addr} {n c1 : Nat} {ln rm : Int} {vs : List Value} {a : Act} (hs : a.tmps.size = 77) (hl : SlotsL [(0, .slice b1 n c1), (1, .int .i64 ln), (2, .int .i64 rm)] a.tmps) (hd : a.defers = []) (h1 : In4 W b1 n c1 vs) (hn : 100 < n) :
    GoesI Try.prog (fun g w => ∃ a', g = G ((base 3).at a' [.code s33]) [] ∧ a'.defers = [] ∧ K33 W b1 100 c1 ln rm (vs.take 100) a' w) (G ((base 3).at a [.code body3]) []) W := by
  have h2 : In4 W b1 100 c1 (vs.take 100) := h1.cut (by omega)
  obtain ⟨tm, df⟩ := a
  obtain rfl : df = [] := hd
  have hs0 : tm.size = 77 := hs
  have ht := arr_full hs0
  obtain ⟨e0, e1, e2, _⟩ := hl
  simp only [List.range, List.range.loop, List.map] at ht
  rw [ht]
  rw [show tm.getD 0 undef = .slice b1 n c1 from e0]
  rw [show tm.getD 1 undef = .int .i64 ln from e1]
  rw [show tm.getD 2 undef = .int .i64 rm from e2]
  clear ht hs hs0 e0 e1 e2
  generalize tm.getD 3 undef = x3
  generalize tm.getD 4 undef = x4
  generalize tm.getD 5 undef = x5
  generalize tm.getD 6 undef = x6
  generalize tm.getD 7 undef = x7
  generalize tm.getD 8 undef = x8
  generalize tm.getD 9 undef = x9
  generalize tm.getD 10 undef = x10
  generalize tm.getD 11 undef = x11
  generalize tm.getD 12 undef = x12
  generalize tm.getD 13 undef = x13
  generalize tm.getD 14 undef = x14
  generalize tm.getD 15 undef = x15
  generalize tm.getD 16 undef = x16
  generalize tm.getD 17 undef = x17
  generalize tm.getD 18 undef = x18
  generalize tm.getD 19 undef = x19
  generalize tm.getD 20 undef = x20
  generalize tm.getD 21 undef = x21
  generalize tm.getD 22 undef = x22
  generalize tm.getD 23 undef = x23
  generalize tm.getD 24 undef = x24
  generalize tm.getD 25 undef = x25
  generalize tm.getD 26 undef = x26
  generalize tm.getD 27 undef = x27
  generalize tm.getD 28 undef = x28
  generalize tm.getD 29 undef = x29
  generalize tm.getD 30 undef = x30
  generalize tm.getD 31 undef = x31
  generalize tm.getD 32 undef = x32
  generalize tm.getD 33 undef = x33
  generalize tm.getD 34 undef = x34
  generalize tm.getD 35 undef = x35
  generalize tm.getD 36 undef = x36
  generalize tm.getD 37 undef = x37
  generalize tm.getD 38 undef = x38
  generalize tm.getD 39 undef = x39
  generalize tm.getD 40 undef = x40
  generalize tm.getD 41 undef = x41
  generalize tm.getD 42 undef = x42
  generalize tm.getD 43 undef = x43
  generalize tm.getD 44 undef = x44
  generalize tm.getD 45 undef = x45
  generalize tm.getD 46 undef = x46
  generalize tm.getD 47 undef = x47
  generalize tm.getD 48 undef = x48
  generalize tm.getD 49 undef = x49
  generalize tm.getD 50 undef = x50
  generalize tm.getD 51 undef = x51
  generalize tm.getD 52 undef = x52
  generalize tm.getD 53 undef = x53
  generalize tm.getD 54 undef = x54
  generalize tm.getD 55 undef = x55
  generalize tm.getD 56 undef = x56
  generalize tm.getD 57 undef = x57
  generalize tm.getD 58 undef = x58
  generalize tm.getD 59 undef = x59
  generalize tm.getD 60 undef = x60
  generalize tm.getD 61 undef = x61
  generalize tm.getD 62 undef = x62
  generalize tm.getD 63 undef = x63
  generalize tm.getD 64 undef = x64
  generalize tm.getD 65 undef = x65
  generalize tm.getD 66 undef = x66
  generalize tm.getD 67 undef = x67
  generalize tm.getD 68 undef = x68
  generalize tm.getD 69 undef = x69
  generalize tm.getD 70 undef = x70
  generalize tm.getD 71 undef = x71
  generalize tm.getD 72 undef = x72
  generalize tm.getD 73 undef = x73
  generalize tm.getD 74 undef = x74
  generalize tm.getD 75 undef = x75
  generalize tm.getD 76 undef = x76

  simp only [s38, s37, s36, s35, s34, s33, s32, s31, body3, Try.f3, Option.getD_some]
  refine GoesI.ctl rfl (fun w => stepG_seq) ?_
  refine GoesI.ctl rfl (fun w => stepG_region) ?_
  simp only [List.size_toArray, List.length_cons, List.length_nil, Nat.reduceAdd, Nat.zero_add, List.range, List.range.loop]
  refine GoesI.val (.bool false) rfl rfl (by decide) (fun w => by go_simp) (fun w => by simp [go_sem]) ?_
  walk_nrm
  refine GoesI.ctl rfl (fun w => stepG_region_end) ?_
  refine GoesI.ctl rfl (fun w => stepG_seq) ?_
  refine GoesI.ctl rfl (fun w => stepG_seq) ?_
  refine GoesI.ctl rfl (fun w => stepG_region) ?_
  simp only [List.size_toArray, List.length_cons, List.length_nil, Nat.reduceAdd, Nat.zero_add, List.range, List.range.loop]
  refine GoesI.val (.slice b1 n c1) rfl rfl (by decide) (fun w => by go_simp) (fun w => by simp [go_sem]) ?_
  walk_nrm
  refine GoesI.val (.int .i64 ((n : Nat) : Int)) rfl rfl (by decide) (fun w => by go_simp) (fun w => by simp [go_sem]) ?_
  walk_nrm
  refine GoesI.val (.bool true) rfl rfl (by decide) (fun w => by go_simp; first | done | omega | (simp; omega)) (fun w => by simp [go_sem]) ?_
  walk_nrm
  refine GoesI.ctl rfl (fun w => stepG_region_end) ?_
  refine GoesI.ctl rfl (fun w => stepG_cond (t := true) rfl) ?_
  simp only [if_true]
  refine GoesI.ctl rfl (fun w => stepG_region) ?_
  simp only [List.size_toArray, List.length_cons, List.length_nil, Nat.reduceAdd, Nat.zero_add, List.range, List.range.loop]
  refine GoesI.val (.slice b1 n c1) rfl rfl (by decide) (fun w => by go_simp) (fun w => by simp [go_sem]) ?_
  walk_nrm
  refine GoesI.ld safeQ (.slice b1 100 c1) (by kernel_rfl) rfl rfl (by decide) (fun d => run_slice_to (n := n) (h := 100) rfl rfl rfl (by have := h1.cap; omega) h1.base) ?_
  walk_nrm
  refine GoesI.val (.slice b1 100 c1) rfl rfl (by decide) (fun w => by go_simp) (fun w => by simp [go_sem]) ?_
  walk_nrm
  refine GoesI.ctl rfl (fun w => stepG_region_end) ?_
  refine GoesI.ctl rfl (fun w => stepG_seq) ?_
  refine GoesI.ctl rfl (fun w => stepG_region) ?_
  simp only [List.size_toArray, List.length_cons, List.length_nil, Nat.reduceAdd, Nat.zero_add, List.range, List.range.loop]
  refine GoesI.val (.slice b1 100 c1) rfl rfl (by decide) (fun w => by go_simp) (fun w => by simp [go_sem]) ?_
  walk_nrm
  refine GoesI.ld safeQ (.agg rec71) (by kernel_rfl) rfl rfl (by decide) (fun d => by unfold execOp; walk_nrm; simp only [Act.eval, Sem.run_bind, hbuild71, Result.andThen_ok, Sem.run_pure]) ?_
  walk_nrm
  refine GoesI.ctl rfl (fun w => stepG_callG rfl rfl (by decide) rfl Try.func6 (by kernel_rfl) rfl w) ?_
  try simp only [List.map_toArray, List.map_cons, List.map_nil]
  walk_nrm
  refine GoesI.bind (GoesI.mono ?_ (own_goes h2.rows (by have := h2.len; omega) rfl rec71one _ _))
  rintro g1 w1 ⟨y1, rfl, hown1, ho1⟩
  obtain ⟨N1, e1, hrow1, hrows1⟩ := hown1.rows (fun v hv => (h2.recs v hv).rec) rec71T.rec
  rw [h2.len] at e1
  subst e1
  rw [Frame.finish_at]
  walk_nrm
  refine GoesI.val (.slice (some ⟨N1, 0, none⟩) 100 (100 + 3)) rfl rfl (by decide) (fun w => by go_simp) (fun w => by simp [go_sem]) ?_
  walk_nrm
  refine GoesI.ctl rfl (fun w => stepG_region_end) ?_
  exact .stop fun d => ⟨_, rfl, rfl, rfl, ho1.at_ d, N1, hrow1.mono ((Old.refl _ _).at_ d), hrows1.on ((Old.refl _ _).at_ d), ⟨rfl, rfl, rfl, rfl, trivial⟩⟩
end Go.Proofs.Ytofoplpnpfaofaa
