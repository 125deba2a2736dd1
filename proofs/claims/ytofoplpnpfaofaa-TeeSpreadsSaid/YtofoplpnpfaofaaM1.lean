/- What is proved here: TeeMerges' law, ahead of its own loop. Conditions: its lists read as records. -/
import Derived.Test.YtofoplpnpfaofaaClaim
set_option linter.unusedSimpArgs false
set_option linter.unusedVariables false
namespace Go.Proofs.Ytofoplpnpfaofaa
open Go Go.Conc Go.RowKit

theorem Reach.bind {P : Program} {g : Goroutine} {w : World} {Post : Goroutine → World → Prop} (h : GoesI P (fun g w => Reach P g w Post) g w) : Reach P g w Post := (Reach.of_goes h).trans fun _ _ h => h

noncomputable def body5 : Code := Try.f5.body.getD .skip
noncomputable def s51 : Code := match body5 with | .seq _ c => c | _ => .skip
noncomputable def s52 : Code := match s51 with | .seq _ c => c | _ => .skip
noncomputable def s53 : Code := match s52 with | .seq _ c => c | _ => .skip
noncomputable def s54 : Code := match s53 with | .seq _ c => c | _ => .skip
noncomputable def s55 : Code := match s54 with | .seq _ c => c | _ => .skip
noncomputable def s56 : Code := match s55 with | .seq _ c => c | _ => .skip
noncomputable def c56 : Code := match s56 with | .seq c _ => c | _ => .skip
noncomputable def s57 : Code := match s56 with | .seq _ c => c | _ => .skip

def rec71 : Array Value := #[.int .u64 0, .int .u64 71, .int .u32 0, .bool false, .int .u64 0, .int .u64 0, .int .i64 0, .int .u64 0, .int .i64 0, .int .u64 0, .int .i64 0, .int .u64 0]
theorem rec71T : RecT (.agg rec71) := ⟨0, 71, 0, false, 0, 0, 0, 0, 0, 0, 0, 0, rfl⟩
theorem rec71one : ∀ u ∈ rec71.toList, u.oneCell' = true := by
  obtain ⟨c, e, _, h⟩ := rec71T.rec
  cases e
  exact h
theorem hbuild71 (w : World) : (Instr.build 27 #[(1, .int .u64 71)]).run Try.prog w = .ok (.agg rec71) w := run_build w 27 _ _ (by kernel_rfl)

theorem In4.rows {W : World} {b1 : Option Addr} {n c1 : Nat} {vs : List Value} (h : In4 W b1 n c1 vs) : Rows W (.slice b1 n c1) vs := by
  refine ⟨fun v hv => (h.recs v hv).rec, b1, c1, by rw [h.len], fun hp => ?_⟩
  obtain ⟨o, q, e, hb, hr⟩ := h.row 0 vs[0] (List.getElem?_eq_getElem hp)
  refine ⟨o, q, e, hb, ?_, fun i cells hi => ?_⟩
  · obtain ⟨c, e1, hs, _⟩ := (h.recs vs[0] (List.getElem_mem hp)).rec
    rw [e1] at hr
    have h0 := hr 0 (c[0]'(by omega)) (by simp [Value.cells])
    unfold World.cell? at h0
    split at h0
    · rename_i e; exact ⟨_, _, _, e⟩
    · cases h0
  · obtain ⟨o', q', e', _, hr'⟩ := h.row i _ hi
    rw [e] at e'
    cases e'
    exact hr'

/-- A block whose cells are these records' reads as them. -/
theorem rowAt_block {w : World} {g : Nat} {arr : Array Value} {t : TypeId} {fr : Nat × Nat} {l : List Value} (hg : w.heap[g]? = some (.cells arr t fr)) (ha : arr.toList = cellsOf l) (hr : ∀ v ∈ l, Rec12 v) : RowAt w (some ⟨g, 0, none⟩) l := by
  intro i v hi
  obtain ⟨cells, rfl, hs, _⟩ := hr v (List.mem_of_getElem? hi)
  refine ⟨g, 0, rfl, lt_of_heap hg, fun j u hj => ?_⟩
  have hj' : cells.toList[j]? = some u := hj
  have hj12 : j < 12 := by have := (List.getElem?_eq_some_iff.1 hj').1; rw [Array.length_toList, hs] at this; exact this
  have h1 := cellsOf_get hr hi hj12
  rw [hj', ← ha] at h1
  simp only [World.cell?, hg, Nat.zero_add]
  simpa using h1

theorem Owned.row {w : World} {N0 : Nat} {v : Value} {vs : List Value} {fill : Array Value} (h : Owned w N0 v vs fill) (hr : ∀ v ∈ vs, Rec12 v) (hf : Rec12 (.agg fill)) : ∃ N, v = .slice (some ⟨N, 0, none⟩) vs.length (vs.length + 3) ∧ RowAt w (some ⟨N, 0, none⟩) (vs ++ List.replicate 3 (.agg fill)) := by
  obtain ⟨N, arr, e, _, hg, ha⟩ := h.own
  refine ⟨N, e, rowAt_block hg ?_ fun v hv => ?_⟩
  · rw [ha, cellsOf_append]
    simp [cellsOf, List.replicate, Value.cells]
  · rcases List.mem_append.1 hv with hv | hv
    · exact hr v hv
    · rw [(List.mem_replicate.1 hv).2]; exact hf

/-- Ahead of the law's own question. -/
structure K55 (W : World) (b1 b2 : Option Addr) (n1 c1 n2 c2 : Nat) (us ts : List Value) (a : Act) (w : World) : Prop where
  size : a.tmps.size = 106
  old : Old W w (fun _ => False)
  slots : ∃ N1 N2 bm cm, RowAt w (some ⟨N1, 0, none⟩) (us ++ List.replicate 3 (.agg rec71)) ∧ RowAt w (some ⟨N2, 0, none⟩) (ts ++ List.replicate 3 (.agg rec71)) ∧ RowAt w bm (mrg us ts) ∧
    SlotsL [(0, .slice b1 n1 c1), (1, .slice b2 n2 c2), (5, .slice (some ⟨N1, 0, none⟩) n1 (n1 + 3)), (6, .slice (some ⟨N2, 0, none⟩) n2 (n2 + 3)), (7, .slice bm (n1 + n2) cm)] a.tmps

set_option maxRecDepth 100000 in
theorem p5a {W : World} {b1 b2 : Option Addr} {n1 n2 c1 c2 : Nat} {us ts : List Value} {a : Act} (hs : a.tmps.size = 106) (hl : SlotsL [(0, .slice b1 n1 c1), (1, .slice b2 n2 c2)] a.tmps) (hd : a.defers = []) (h1 : In4 W b1 n1 c1 us) (h2 : In4 W b2 n2 c2 ts) (hn1 : n1 ≤ 100) (hn2 : n2 ≤ 100) :
    GoesI Try.prog (fun g w => ∃ a', g = G ((base 5).at a' [.code s54]) [] ∧ a'.defers = [] ∧ K55 W b1 b2 n1 c1 n2 c2 us ts a' w) (G ((base 5).at a [.code body5]) []) W := by
  obtain ⟨tm, df⟩ := a
  obtain rfl : df = [] := hd
  have hs0 : tm.size = 106 := hs
  have ht := arr_full hs0
  obtain ⟨e0, e1, _⟩ := hl
  simp only [List.range, List.range.loop, List.map] at ht
  rw [ht]
  rw [show tm.getD 0 undef = .slice b1 n1 c1 from e0]
  rw [show tm.getD 1 undef = .slice b2 n2 c2 from e1]
  clear ht hs hs0 e0 e1
  generalize tm.getD 2 undef = x2
  generalize tm.getD 3 undef = x3
  generalize tm.getD 4 undef = x4
  generalize tm.getD 5 undef = x5
  generalize tm.getD 6 undef = x6
  generalize tm.getD 7 undef = x7
  generalize tm.getD 8 undef = x8
  generalize tm.getD 9 undef = x9
  generalize tm.getD 10 undef = x10
  generalize tm.getD 11 undef = x11
  generalize tm.getD 12 undef = x12
  generalize tm.getD 13 undef = x13
  generalize tm.getD 14 undef = x14
  generalize tm.getD 15 undef = x15
  generalize tm.getD 16 undef = x16
  generalize tm.getD 17 undef = x17
  generalize tm.getD 18 undef = x18
  generalize tm.getD 19 undef = x19
  generalize tm.getD 20 undef = x20
  generalize tm.getD 21 undef = x21
  generalize tm.getD 22 undef = x22
  generalize tm.getD 23 undef = x23
  generalize tm.getD 24 undef = x24
  generalize tm.getD 25 undef = x25
  generalize tm.getD 26 undef = x26
  generalize tm.getD 27 undef = x27
  generalize tm.getD 28 undef = x28
  generalize tm.getD 29 undef = x29
  generalize tm.getD 30 undef = x30
  generalize tm.getD 31 undef = x31
  generalize tm.getD 32 undef = x32
  generalize tm.getD 33 undef = x33
  generalize tm.getD 34 undef = x34
  generalize tm.getD 35 undef = x35
  generalize tm.getD 36 undef = x36
  generalize tm.getD 37 undef = x37
  generalize tm.getD 38 undef = x38
  generalize tm.getD 39 undef = x39
  generalize tm.getD 40 undef = x40
  generalize tm.getD 41 undef = x41
  generalize tm.getD 42 undef = x42
  generalize tm.getD 43 undef = x43
  generalize tm.getD 44 undef = x44
  generalize tm.getD 45 undef = x45
  generalize tm.getD 46 undef = x46
  generalize tm.getD 47 undef = x47
  generalize tm.getD 48 undef = x48
  generalize tm.getD 49 undef = x49
  generalize tm.getD 50 undef = x50
  generalize tm.getD 51 undef = x51
  generalize tm.getD 52 undef = x52
  generalize tm.getD 53 undef = x53
  generalize tm.getD 54 undef = x54
  generalize tm.getD 55 undef = x55
  generalize tm.getD 56 undef = x56
  generalize tm.getD 57 undef = x57
  generalize tm.getD 58 undef = x58
  generalize tm.getD 59 undef = x59
  generalize tm.getD 60 undef = x60
  generalize tm.getD 61 undef = x61
  generalize tm.getD 62 undef = x62
  generalize tm.getD 63 undef = x63
  generalize tm.getD 64 undef = x64
  generalize tm.getD 65 undef = x65
  generalize tm.getD 66 undef = x66
  generalize tm.getD 67 undef = x67
  generalize tm.getD 68 undef = x68
  generalize tm.getD 69 undef = x69
  generalize tm.getD 70 undef = x70
  generalize tm.getD 71 undef = x71
  generalize tm.getD 72 undef = x72
  generalize tm.getD 73 undef = x73
  generalize tm.getD 74 undef = x74
  generalize tm.getD 75 undef = x75
  generalize tm.getD 76 undef = x76
  generalize tm.getD 77 undef = x77
  generalize tm.getD 78 undef = x78
  generalize tm.getD 79 undef = x79
  generalize tm.getD 80 undef = x80
  generalize tm.getD 81 undef = x81
  generalize tm.getD 82 undef = x82
  generalize tm.getD 83 undef = x83
  generalize tm.getD 84 undef = x84
  generalize tm.getD 85 undef = x85
  generalize tm.getD 86 undef = x86
  generalize tm.getD 87 undef = x87
  generalize tm.getD 88 undef = x88
  generalize tm.getD 89 undef = x89
  generalize tm.getD 90 undef = x90
  generalize tm.getD 91 undef = x91
  generalize tm.getD 92 undef = x92
  generalize tm.getD 93 undef = x93
  generalize tm.getD 94 undef = x94
  generalize tm.getD 95 undef = x95
  generalize tm.getD 96 undef = x96
  generalize tm.getD 97 undef = x97
  generalize tm.getD 98 undef = x98
  generalize tm.getD 99 undef = x99
  generalize tm.getD 100 undef = x100
  generalize tm.getD 101 undef = x101
  generalize tm.getD 102 undef = x102
  generalize tm.getD 103 undef = x103
  generalize tm.getD 104 undef = x104
  generalize tm.getD 105 undef = x105

  simp only [s54, s53, s52, s51, body5, Try.f5, Option.getD_some]
  refine GoesI.ctl rfl (fun w => stepG_seq) ?_
  refine GoesI.ctl rfl (fun w => stepG_region) ?_
  simp only [List.size_toArray, List.length_cons, List.length_nil, Nat.reduceAdd, Nat.zero_add, List.range, List.range.loop]
  refine GoesI.val (.bool false) rfl rfl (by decide) (fun w => by go_simp) (fun w => by simp [go_sem]) ?_
  walk_nrm
  refine GoesI.ctl rfl (fun w => stepG_region_end) ?_
  refine GoesI.ctl rfl (fun w => stepG_seq) ?_
  refine GoesI.ctl rfl (fun w => stepG_seq) ?_
  refine GoesI.ctl rfl (fun w => stepG_region) ?_
  simp only [List.size_toArray, List.length_cons, List.length_nil, Nat.reduceAdd, Nat.zero_add, List.range, List.range.loop]
  refine GoesI.val (.slice b1 n1 c1) rfl rfl (by decide) (fun w => by go_simp) (fun w => by simp [go_sem]) ?_
  walk_nrm
  refine GoesI.val (.int .i64 ((n1 : Nat) : Int)) rfl rfl (by decide) (fun w => by go_simp) (fun w => by simp [go_sem]) ?_
  walk_nrm
  refine GoesI.val (.bool false) rfl rfl (by decide) (fun w => by go_simp; first | done | omega | (simp; omega)) (fun w => by simp [go_sem]) ?_
  walk_nrm
  refine GoesI.val (.bool false) rfl rfl (by decide) (fun w => by go_simp) (fun w => by simp [go_sem]) ?_
  walk_nrm
  refine GoesI.val (.slice b2 n2 c2) rfl rfl (by decide) (fun w => by go_simp) (fun w => by simp [go_sem]) ?_
  walk_nrm
  refine GoesI.val (.int .i64 ((n2 : Nat) : Int)) rfl rfl (by decide) (fun w => by go_simp) (fun w => by simp [go_sem]) ?_
  walk_nrm
  refine GoesI.val (.bool false) rfl rfl (by decide) (fun w => by go_simp; first | done | omega | (simp; omega)) (fun w => by simp [go_sem]) ?_
  walk_nrm
  refine GoesI.val (.bool false) rfl rfl (by decide) (fun w => by go_simp) (fun w => by simp [go_sem]) ?_
  walk_nrm
  refine GoesI.ctl rfl (fun w => stepG_region_end) ?_
  refine GoesI.ctl rfl (fun w => stepG_cond (t := false) rfl) ?_
  simp only [Bool.false_eq_true, if_false]
  refine GoesI.ctl rfl (fun w => stepG_skip) ?_
  refine GoesI.ctl rfl (fun w => stepG_seq) ?_
  refine GoesI.ctl rfl (fun w => stepG_region) ?_
  simp only [List.size_toArray, List.length_cons, List.length_nil, Nat.reduceAdd, Nat.zero_add, List.range, List.range.loop]
  refine GoesI.val (.slice b1 n1 c1) rfl rfl (by decide) (fun w => by go_simp) (fun w => by simp [go_sem]) ?_
  walk_nrm
  refine GoesI.ld safeQ (.agg rec71) (by kernel_rfl) rfl rfl (by decide) (fun d => by unfold execOp; walk_nrm; simp only [Act.eval, Sem.run_bind, hbuild71, Result.andThen_ok, Sem.run_pure]) ?_
  walk_nrm
  refine GoesI.ctl rfl (fun w => stepG_callG rfl rfl (by decide) rfl Try.func6 (by kernel_rfl) rfl w) ?_
  try simp only [List.map_toArray, List.map_cons, List.map_nil]
  walk_nrm
  refine GoesI.bind (GoesI.mono ?_ (own_goes h1.rows (by have := h1.len; omega) rfl rec71one _ _))
  rintro g1 w1 ⟨y1, rfl, hown1, ho1⟩
  obtain ⟨N1, e1, hrow1⟩ := hown1.row (fun v hv => (h1.recs v hv).rec) rec71T.rec
  rw [h1.len] at e1
  subst e1
  rw [Frame.finish_at]
  walk_nrm
  refine GoesI.val (.slice b2 n2 c2) rfl rfl (by decide) (fun w => by go_simp) (fun w => by simp [go_sem]) ?_
  walk_nrm
  refine GoesI.ld safeQ (.agg rec71) (by kernel_rfl) rfl rfl (by decide) (fun d => by unfold execOp; walk_nrm; simp only [Act.eval, Sem.run_bind, hbuild71, Result.andThen_ok, Sem.run_pure]) ?_
  walk_nrm
  refine GoesI.ctl rfl (fun w => stepG_callG rfl rfl (by decide) rfl Try.func6 (by kernel_rfl) rfl w) ?_
  try simp only [List.map_toArray, List.map_cons, List.map_nil]
  walk_nrm
  refine GoesI.bind (GoesI.mono ?_ (own_goes (h2.rows.on ho1) (by have := h2.len; omega) rfl rec71one _ _))
  rintro g2 w2 ⟨y2, rfl, hown2, ho2⟩
  obtain ⟨N2, e2, hrow2⟩ := hown2.row (fun v hv => (h2.recs v hv).rec) rec71T.rec
  rw [h2.len] at e2
  subst e2
  rw [Frame.finish_at]
  walk_nrm
  refine GoesI.val (.slice (some ⟨N1, 0, none⟩) n1 (n1 + 3)) rfl rfl (by decide) (fun w => by go_simp) (fun w => by simp [go_sem]) ?_
  walk_nrm
  refine GoesI.val (.slice (some ⟨N2, 0, none⟩) n2 (n2 + 3)) rfl rfl (by decide) (fun w => by go_simp) (fun w => by simp [go_sem]) ?_
  walk_nrm
  refine GoesI.ctl rfl (fun w => stepG_region_end) ?_
  refine GoesI.ctl rfl (fun w => stepG_seq) ?_
  refine GoesI.ctl rfl (fun w => stepG_region) ?_
  simp only [List.size_toArray, List.length_cons, List.length_nil, Nat.reduceAdd, Nat.zero_add, List.range, List.range.loop]
  refine GoesI.val (.slice (some ⟨N1, 0, none⟩) n1 (n1 + 3)) rfl rfl (by decide) (fun w => by go_simp) (fun w => by simp [go_sem]) ?_
  walk_nrm
  refine GoesI.val (.slice (some ⟨N2, 0, none⟩) n2 (n2 + 3)) rfl rfl (by decide) (fun w => by go_simp) (fun w => by simp [go_sem]) ?_
  walk_nrm
  refine GoesI.ctl rfl (fun w => stepG_callG rfl rfl (by decide) rfl Try.func13 (by kernel_rfl) rfl w) ?_
  try simp only [List.map_toArray, List.map_cons, List.map_nil]
  walk_nrm
  refine GoesI.bind (GoesI.mono ?_ (merge_goes h1.len h2.len (Nat.le_add_right _ _) (Nat.le_add_right _ _) ((hrow1.left).mono ho2) hrow2.left (.inr ⟨_, _, rfl⟩) (.inr ⟨_, _, rfl⟩) h1.recs h2.recs (by have := h1.len; have := h2.len; omega) _ _))
  rintro g3 w3 ⟨vm, rfl, hrm, ho3⟩
  obtain ⟨bm, cm, rfl, hrowm⟩ := hrm.at
  rw [mrg_len, h1.len, h2.len]
  rw [Frame.finish_at]
  walk_nrm
  refine GoesI.val (.slice bm (n1 + n2) cm) rfl rfl (by decide) (fun w => by go_simp) (fun w => by simp [go_sem]) ?_
  walk_nrm
  refine GoesI.ctl rfl (fun w => stepG_region_end) ?_
  exact .stop fun d => ⟨_, rfl, rfl, rfl, ((ho1.trans ho2).trans ho3).at_ d, N1, N2, bm, cm, ((hrow1.mono ho2).mono ho3).mono ((Old.refl _ _).at_ d), (hrow2.mono ho3).mono ((Old.refl _ _).at_ d), hrowm.mono ((Old.refl _ _).at_ d), ⟨rfl, rfl, rfl, rfl, rfl, trivial⟩⟩

set_option maxRecDepth 100000 in
theorem p5long1 {W : World} {b1 b2 : Option Addr} {n1 n2 c1 c2 : Nat} {a : Act} (hs : a.tmps.size = 106) (hl : SlotsL [(0, .slice b1 n1 c1), (1, .slice b2 n2 c2)] a.tmps) (hd : a.defers = []) (h : 100 < n1) :
    Reach Try.prog (G ((base 5).at a [.code body5]) []) W fun g' w' => AtDone Try.prog (.bool true) g' ∧ Old W w' (fun _ => False) := by
  obtain ⟨tm, df⟩ := a
  obtain rfl : df = [] := hd
  have hs0 : tm.size = 106 := hs
  have ht := arr_full hs0
  obtain ⟨e0, e1, _⟩ := hl
  simp only [List.range, List.range.loop, List.map] at ht
  rw [ht]
  rw [show tm.getD 0 undef = .slice b1 n1 c1 from e0]
  rw [show tm.getD 1 undef = .slice b2 n2 c2 from e1]
  clear ht hs hs0 e0 e1
  generalize tm.getD 2 undef = x2
  generalize tm.getD 3 undef = x3
  generalize tm.getD 4 undef = x4
  generalize tm.getD 5 undef = x5
  generalize tm.getD 6 undef = x6
  generalize tm.getD 7 undef = x7
  generalize tm.getD 8 undef = x8
  generalize tm.getD 9 undef = x9
  generalize tm.getD 10 undef = x10
  generalize tm.getD 11 undef = x11
  generalize tm.getD 12 undef = x12
  generalize tm.getD 13 undef = x13
  generalize tm.getD 14 undef = x14
  generalize tm.getD 15 undef = x15
  generalize tm.getD 16 undef = x16
  generalize tm.getD 17 undef = x17
  generalize tm.getD 18 undef = x18
  generalize tm.getD 19 undef = x19
  generalize tm.getD 20 undef = x20
  generalize tm.getD 21 undef = x21
  generalize tm.getD 22 undef = x22
  generalize tm.getD 23 undef = x23
  generalize tm.getD 24 undef = x24
  generalize tm.getD 25 undef = x25
  generalize tm.getD 26 undef = x26
  generalize tm.getD 27 undef = x27
  generalize tm.getD 28 undef = x28
  generalize tm.getD 29 undef = x29
  generalize tm.getD 30 undef = x30
  generalize tm.getD 31 undef = x31
  generalize tm.getD 32 undef = x32
  generalize tm.getD 33 undef = x33
  generalize tm.getD 34 undef = x34
  generalize tm.getD 35 undef = x35
  generalize tm.getD 36 undef = x36
  generalize tm.getD 37 undef = x37
  generalize tm.getD 38 undef = x38
  generalize tm.getD 39 undef = x39
  generalize tm.getD 40 undef = x40
  generalize tm.getD 41 undef = x41
  generalize tm.getD 42 undef = x42
  generalize tm.getD 43 undef = x43
  generalize tm.getD 44 undef = x44
  generalize tm.getD 45 undef = x45
  generalize tm.getD 46 undef = x46
  generalize tm.getD 47 undef = x47
  generalize tm.getD 48 undef = x48
  generalize tm.getD 49 undef = x49
  generalize tm.getD 50 undef = x50
  generalize tm.getD 51 undef = x51
  generalize tm.getD 52 undef = x52
  generalize tm.getD 53 undef = x53
  generalize tm.getD 54 undef = x54
  generalize tm.getD 55 undef = x55
  generalize tm.getD 56 undef = x56
  generalize tm.getD 57 undef = x57
  generalize tm.getD 58 undef = x58
  generalize tm.getD 59 undef = x59
  generalize tm.getD 60 undef = x60
  generalize tm.getD 61 undef = x61
  generalize tm.getD 62 undef = x62
  generalize tm.getD 63 undef = x63
  generalize tm.getD 64 undef = x64
  generalize tm.getD 65 undef = x65
  generalize tm.getD 66 undef = x66
  generalize tm.getD 67 undef = x67
  generalize tm.getD 68 undef = x68
  generalize tm.getD 69 undef = x69
  generalize tm.getD 70 undef = x70
  generalize tm.getD 71 undef = x71
  generalize tm.getD 72 undef = x72
  generalize tm.getD 73 undef = x73
  generalize tm.getD 74 undef = x74
  generalize tm.getD 75 undef = x75
  generalize tm.getD 76 undef = x76
  generalize tm.getD 77 undef = x77
  generalize tm.getD 78 undef = x78
  generalize tm.getD 79 undef = x79
  generalize tm.getD 80 undef = x80
  generalize tm.getD 81 undef = x81
  generalize tm.getD 82 undef = x82
  generalize tm.getD 83 undef = x83
  generalize tm.getD 84 undef = x84
  generalize tm.getD 85 undef = x85
  generalize tm.getD 86 undef = x86
  generalize tm.getD 87 undef = x87
  generalize tm.getD 88 undef = x88
  generalize tm.getD 89 undef = x89
  generalize tm.getD 90 undef = x90
  generalize tm.getD 91 undef = x91
  generalize tm.getD 92 undef = x92
  generalize tm.getD 93 undef = x93
  generalize tm.getD 94 undef = x94
  generalize tm.getD 95 undef = x95
  generalize tm.getD 96 undef = x96
  generalize tm.getD 97 undef = x97
  generalize tm.getD 98 undef = x98
  generalize tm.getD 99 undef = x99
  generalize tm.getD 100 undef = x100
  generalize tm.getD 101 undef = x101
  generalize tm.getD 102 undef = x102
  generalize tm.getD 103 undef = x103
  generalize tm.getD 104 undef = x104
  generalize tm.getD 105 undef = x105

  simp only [body5, Try.f5, Option.getD_some]
  refine Reach.bind ?_
  refine GoesI.ctl rfl (fun w => stepG_seq) ?_
  refine GoesI.ctl rfl (fun w => stepG_region) ?_
  simp only [List.size_toArray, List.length_cons, List.length_nil, Nat.reduceAdd, Nat.zero_add, List.range, List.range.loop]
  refine GoesI.val (.bool false) rfl rfl (by decide) (fun w => by go_simp) (fun w => by simp [go_sem]) ?_
  walk_nrm
  refine GoesI.ctl rfl (fun w => stepG_region_end) ?_
  refine GoesI.ctl rfl (fun w => stepG_seq) ?_
  refine GoesI.ctl rfl (fun w => stepG_seq) ?_
  refine GoesI.ctl rfl (fun w => stepG_region) ?_
  simp only [List.size_toArray, List.length_cons, List.length_nil, Nat.reduceAdd, Nat.zero_add, List.range, List.range.loop]
  refine GoesI.val (.slice b1 n1 c1) rfl rfl (by decide) (fun w => by go_simp) (fun w => by simp [go_sem]) ?_
  walk_nrm
  refine GoesI.val (.int .i64 ((n1 : Nat) : Int)) rfl rfl (by decide) (fun w => by go_simp) (fun w => by simp [go_sem]) ?_
  walk_nrm
  refine GoesI.val (.bool true) rfl rfl (by decide) (fun w => by go_simp; first | done | omega | (simp; omega)) (fun w => by simp [go_sem]) ?_
  walk_nrm
  refine GoesI.val (.bool true) rfl rfl (by decide) (fun w => by go_simp) (fun w => by simp [go_sem]) ?_
  walk_nrm
  refine GoesI.ctl rfl (fun w => stepG_unwanted rfl rfl) ?_
  walk_nrm
  refine GoesI.ctl rfl (fun w => stepG_unwanted rfl rfl) ?_
  walk_nrm
  refine GoesI.ctl rfl (fun w => stepG_unwanted rfl rfl) ?_
  walk_nrm
  refine GoesI.val (.bool true) rfl rfl (by decide) (fun w => by go_simp) (fun w => by simp [go_sem]) ?_
  walk_nrm
  refine GoesI.ctl rfl (fun w => stepG_region_end) ?_
  refine GoesI.ctl rfl (fun w => stepG_cond (t := true) rfl) ?_
  simp only [if_true]
  refine GoesI.ctl rfl (fun w => stepG_seq) ?_
  refine GoesI.ctl rfl (fun w => stepG_region) ?_
  simp only [List.size_toArray, List.length_cons, List.length_nil, Nat.reduceAdd, Nat.zero_add, List.range, List.range.loop]
  refine .stop fun d1 => ?_
  refine Reach.ctl rfl (fun w => stepG_callG rfl rfl (by decide) rfl Try.func8 (by kernel_rfl) rfl w) fun d3 => ?_
  try simp only [List.map_toArray, List.map_cons, List.map_nil]
  try walk_nrm
  refine (awake_runs _ _ _).trans ?_
  rintro g1 w1 ⟨rfl, ho1⟩
  rw [Frame.finish_at]
  walk_nrm
  have ho1 : Old W w1 (fun _ => False) := ⟨ho1.size, ho1.os, ho1.output, ho1.block⟩
  refine Reach.of_goes ?_
  refine GoesI.val (.bool true) rfl rfl (by decide) (fun w => by go_simp) (fun w => by simp [go_sem]) ?_
  walk_nrm
  refine GoesI.ctl rfl (fun w => stepG_region_end) ?_
  refine GoesI.ctl rfl (fun w => stepG_ret') ?_
  exact .stop fun d => ⟨atDone (by kernel_rfl) Try.func5 rfl rfl, ho1.at_ d⟩

set_option maxRecDepth 100000 in
theorem p5long2 {W : World} {b1 b2 : Option Addr} {n1 n2 c1 c2 : Nat} {a : Act} (hs : a.tmps.size = 106) (hl : SlotsL [(0, .slice b1 n1 c1), (1, .slice b2 n2 c2)] a.tmps) (hd : a.defers = []) (h1 : n1 ≤ 100) (h : 100 < n2) :
    Reach Try.prog (G ((base 5).at a [.code body5]) []) W fun g' w' => AtDone Try.prog (.bool true) g' ∧ Old W w' (fun _ => False) := by
  obtain ⟨tm, df⟩ := a
  obtain rfl : df = [] := hd
  have hs0 : tm.size = 106 := hs
  have ht := arr_full hs0
  obtain ⟨e0, e1, _⟩ := hl
  simp only [List.range, List.range.loop, List.map] at ht
  rw [ht]
  rw [show tm.getD 0 undef = .slice b1 n1 c1 from e0]
  rw [show tm.getD 1 undef = .slice b2 n2 c2 from e1]
  clear ht hs hs0 e0 e1
  generalize tm.getD 2 undef = x2
  generalize tm.getD 3 undef = x3
  generalize tm.getD 4 undef = x4
  generalize tm.getD 5 undef = x5
  generalize tm.getD 6 undef = x6
  generalize tm.getD 7 undef = x7
  generalize tm.getD 8 undef = x8
  generalize tm.getD 9 undef = x9
  generalize tm.getD 10 undef = x10
  generalize tm.getD 11 undef = x11
  generalize tm.getD 12 undef = x12
  generalize tm.getD 13 undef = x13
  generalize tm.getD 14 undef = x14
  generalize tm.getD 15 undef = x15
  generalize tm.getD 16 undef = x16
  generalize tm.getD 17 undef = x17
  generalize tm.getD 18 undef = x18
  generalize tm.getD 19 undef = x19
  generalize tm.getD 20 undef = x20
  generalize tm.getD 21 undef = x21
  generalize tm.getD 22 undef = x22
  generalize tm.getD 23 undef = x23
  generalize tm.getD 24 undef = x24
  generalize tm.getD 25 undef = x25
  generalize tm.getD 26 undef = x26
  generalize tm.getD 27 undef = x27
  generalize tm.getD 28 undef = x28
  generalize tm.getD 29 undef = x29
  generalize tm.getD 30 undef = x30
  generalize tm.getD 31 undef = x31
  generalize tm.getD 32 undef = x32
  generalize tm.getD 33 undef = x33
  generalize tm.getD 34 undef = x34
  generalize tm.getD 35 undef = x35
  generalize tm.getD 36 undef = x36
  generalize tm.getD 37 undef = x37
  generalize tm.getD 38 undef = x38
  generalize tm.getD 39 undef = x39
  generalize tm.getD 40 undef = x40
  generalize tm.getD 41 undef = x41
  generalize tm.getD 42 undef = x42
  generalize tm.getD 43 undef = x43
  generalize tm.getD 44 undef = x44
  generalize tm.getD 45 undef = x45
  generalize tm.getD 46 undef = x46
  generalize tm.getD 47 undef = x47
  generalize tm.getD 48 undef = x48
  generalize tm.getD 49 undef = x49
  generalize tm.getD 50 undef = x50
  generalize tm.getD 51 undef = x51
  generalize tm.getD 52 undef = x52
  generalize tm.getD 53 undef = x53
  generalize tm.getD 54 undef = x54
  generalize tm.getD 55 undef = x55
  generalize tm.getD 56 undef = x56
  generalize tm.getD 57 undef = x57
  generalize tm.getD 58 undef = x58
  generalize tm.getD 59 undef = x59
  generalize tm.getD 60 undef = x60
  generalize tm.getD 61 undef = x61
  generalize tm.getD 62 undef = x62
  generalize tm.getD 63 undef = x63
  generalize tm.getD 64 undef = x64
  generalize tm.getD 65 undef = x65
  generalize tm.getD 66 undef = x66
  generalize tm.getD 67 undef = x67
  generalize tm.getD 68 undef = x68
  generalize tm.getD 69 undef = x69
  generalize tm.getD 70 undef = x70
  generalize tm.getD 71 undef = x71
  generalize tm.getD 72 undef = x72
  generalize tm.getD 73 undef = x73
  generalize tm.getD 74 undef = x74
  generalize tm.getD 75 undef = x75
  generalize tm.getD 76 undef = x76
  generalize tm.getD 77 undef = x77
  generalize tm.getD 78 undef = x78
  generalize tm.getD 79 undef = x79
  generalize tm.getD 80 undef = x80
  generalize tm.getD 81 undef = x81
  generalize tm.getD 82 undef = x82
  generalize tm.getD 83 undef = x83
  generalize tm.getD 84 undef = x84
  generalize tm.getD 85 undef = x85
  generalize tm.getD 86 undef = x86
  generalize tm.getD 87 undef = x87
  generalize tm.getD 88 undef = x88
  generalize tm.getD 89 undef = x89
  generalize tm.getD 90 undef = x90
  generalize tm.getD 91 undef = x91
  generalize tm.getD 92 undef = x92
  generalize tm.getD 93 undef = x93
  generalize tm.getD 94 undef = x94
  generalize tm.getD 95 undef = x95
  generalize tm.getD 96 undef = x96
  generalize tm.getD 97 undef = x97
  generalize tm.getD 98 undef = x98
  generalize tm.getD 99 undef = x99
  generalize tm.getD 100 undef = x100
  generalize tm.getD 101 undef = x101
  generalize tm.getD 102 undef = x102
  generalize tm.getD 103 undef = x103
  generalize tm.getD 104 undef = x104
  generalize tm.getD 105 undef = x105

  simp only [body5, Try.f5, Option.getD_some]
  refine Reach.bind ?_
  refine GoesI.ctl rfl (fun w => stepG_seq) ?_
  refine GoesI.ctl rfl (fun w => stepG_region) ?_
  simp only [List.size_toArray, List.length_cons, List.length_nil, Nat.reduceAdd, Nat.zero_add, List.range, List.range.loop]
  refine GoesI.val (.bool false) rfl rfl (by decide) (fun w => by go_simp) (fun w => by simp [go_sem]) ?_
  walk_nrm
  refine GoesI.ctl rfl (fun w => stepG_region_end) ?_
  refine GoesI.ctl rfl (fun w => stepG_seq) ?_
  refine GoesI.ctl rfl (fun w => stepG_seq) ?_
  refine GoesI.ctl rfl (fun w => stepG_region) ?_
  simp only [List.size_toArray, List.length_cons, List.length_nil, Nat.reduceAdd, Nat.zero_add, List.range, List.range.loop]
  refine GoesI.val (.slice b1 n1 c1) rfl rfl (by decide) (fun w => by go_simp) (fun w => by simp [go_sem]) ?_
  walk_nrm
  refine GoesI.val (.int .i64 ((n1 : Nat) : Int)) rfl rfl (by decide) (fun w => by go_simp) (fun w => by simp [go_sem]) ?_
  walk_nrm
  refine GoesI.val (.bool false) rfl rfl (by decide) (fun w => by go_simp; first | done | omega | (simp; omega)) (fun w => by simp [go_sem]) ?_
  walk_nrm
  refine GoesI.val (.bool false) rfl rfl (by decide) (fun w => by go_simp) (fun w => by simp [go_sem]) ?_
  walk_nrm
  refine GoesI.val (.slice b2 n2 c2) rfl rfl (by decide) (fun w => by go_simp) (fun w => by simp [go_sem]) ?_
  walk_nrm
  refine GoesI.val (.int .i64 ((n2 : Nat) : Int)) rfl rfl (by decide) (fun w => by go_simp) (fun w => by simp [go_sem]) ?_
  walk_nrm
  refine GoesI.val (.bool true) rfl rfl (by decide) (fun w => by go_simp; first | done | omega | (simp; omega)) (fun w => by simp [go_sem]) ?_
  walk_nrm
  refine GoesI.val (.bool true) rfl rfl (by decide) (fun w => by go_simp) (fun w => by simp [go_sem]) ?_
  walk_nrm
  refine GoesI.ctl rfl (fun w => stepG_region_end) ?_
  refine GoesI.ctl rfl (fun w => stepG_cond (t := true) rfl) ?_
  simp only [if_true]
  refine GoesI.ctl rfl (fun w => stepG_seq) ?_
  refine GoesI.ctl rfl (fun w => stepG_region) ?_
  simp only [List.size_toArray, List.length_cons, List.length_nil, Nat.reduceAdd, Nat.zero_add, List.range, List.range.loop]
  refine .stop fun d1 => ?_
  refine Reach.ctl rfl (fun w => stepG_callG rfl rfl (by decide) rfl Try.func8 (by kernel_rfl) rfl w) fun d3 => ?_
  try simp only [List.map_toArray, List.map_cons, List.map_nil]
  try walk_nrm
  refine (awake_runs _ _ _).trans ?_
  rintro g1 w1 ⟨rfl, ho1⟩
  rw [Frame.finish_at]
  walk_nrm
  have ho1 : Old W w1 (fun _ => False) := ⟨ho1.size, ho1.os, ho1.output, ho1.block⟩
  refine Reach.of_goes ?_
  refine GoesI.val (.bool true) rfl rfl (by decide) (fun w => by go_simp) (fun w => by simp [go_sem]) ?_
  walk_nrm
  refine GoesI.ctl rfl (fun w => stepG_region_end) ?_
  refine GoesI.ctl rfl (fun w => stepG_ret') ?_
  exact .stop fun d => ⟨atDone (by kernel_rfl) Try.func5 rfl rfl, ho1.at_ d⟩
end Go.Proofs.Ytofoplpnpfaofaa
