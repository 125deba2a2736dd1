/- What is proved here: TeeMerges' law, to its own loop. Conditions: its lists read as records. -/
import Derived.Test.YtofoplpnpfaofaaM1
set_option linter.unusedSimpArgs false
set_option linter.unusedVariables false
namespace Go.Proofs.Ytofoplpnpfaofaa
open Go Go.Conc Go.RowKit

/-- At the law's own loop. -/
structure K56 (W : World) (b1 b2 : Option Addr) (n1 c1 n2 c2 : Nat) (us ts : List Value) (a : Act) (w : World) : Prop where
  size : a.tmps.size = 106
  old : Old W w (fun _ => False)
  slots : ∃ bm cm, RowAt w bm (mrg us ts) ∧ SlotsL [(0, .slice b1 n1 c1), (1, .slice b2 n2 c2), (7, .slice bm (n1 + n2) cm), (8, .int .i64 0), (9, .int .i64 0)] a.tmps

set_option maxHeartbeats 1000000 in
set_option maxRecDepth 100000 in
theorem p5b {W w : World} {b1 b2 bm : Option Addr} {n1 n2 c1 c2 cm N1 N2 : Nat} {us ts : List Value} {a : Act} (hs : a.tmps.size = 106) (hl : SlotsL [(0, .slice b1 n1 c1), (1, .slice b2 n2 c2), (5, .slice (some ⟨N1, 0, none⟩) n1 (n1 + 3)), (6, .slice (some ⟨N2, 0, none⟩) n2 (n2 + 3)), (7, .slice bm (n1 + n2) cm)] a.tmps) (hd : a.defers = []) (h1 : In4 W b1 n1 c1 us) (h2 : In4 W b2 n2 c2 ts) (hn1 : n1 ≤ 100) (hn2 : n2 ≤ 100) (hold : Old W w (fun _ => False))
    (hrow1 : RowAt w (some ⟨N1, 0, none⟩) (us ++ List.replicate 3 (.agg rec71))) (hrow2 : RowAt w (some ⟨N2, 0, none⟩) (ts ++ List.replicate 3 (.agg rec71))) (hrowm : RowAt w bm (mrg us ts)) :
    Reach Try.prog (G ((base 5).at a [.code s54]) []) w fun g w' => ∃ a', g = G ((base 5).at a' [.code s56]) [] ∧ a'.defers = [] ∧ K56 W b1 b2 n1 c1 n2 c2 us ts a' w' := by
  obtain ⟨tm, df⟩ := a
  obtain rfl : df = [] := hd
  have hs0 : tm.size = 106 := hs
  have ht := arr_full hs0
  obtain ⟨e0, e1, e5, e6, e7, _⟩ := hl
  simp only [List.range, List.range.loop, List.map] at ht
  rw [ht]
  rw [show tm.getD 0 undef = .slice b1 n1 c1 from e0]
  rw [show tm.getD 1 undef = .slice b2 n2 c2 from e1]
  rw [show tm.getD 5 undef = .slice (some ⟨N1, 0, none⟩) n1 (n1 + 3) from e5]
  rw [show tm.getD 6 undef = .slice (some ⟨N2, 0, none⟩) n2 (n2 + 3) from e6]
  rw [show tm.getD 7 undef = .slice bm (n1 + n2) cm from e7]
  clear ht hs hs0 e0 e1 e5 e6 e7
  generalize tm.getD 2 undef = x2
  generalize tm.getD 3 undef = x3
  generalize tm.getD 4 undef = x4
  generalize tm.getD 8 undef = x8
  generalize tm.getD 9 undef = x9
  generalize tm.getD 10 undef = x10
  generalize tm.getD 11 undef = x11
  generalize tm.getD 12 undef = x12
  generalize tm.getD 13 undef = x13
  generalize tm.getD 14 undef = x14
  generalize tm.getD 15 undef = x15
  generalize tm.getD 16 undef = x16
  generalize tm.getD 17 undef = x17
  generalize tm.getD 18 undef = x18
  generalize tm.getD 19 undef = x19
  generalize tm.getD 20 undef = x20
  generalize tm.getD 21 undef = x21
  generalize tm.getD 22 undef = x22
  generalize tm.getD 23 undef = x23
  generalize tm.getD 24 undef = x24
  generalize tm.getD 25 undef = x25
  generalize tm.getD 26 undef = x26
  generalize tm.getD 27 undef = x27
  generalize tm.getD 28 undef = x28
  generalize tm.getD 29 undef = x29
  generalize tm.getD 30 undef = x30
  generalize tm.getD 31 undef = x31
  generalize tm.getD 32 undef = x32
  generalize tm.getD 33 undef = x33
  generalize tm.getD 34 undef = x34
  generalize tm.getD 35 undef = x35
  generalize tm.getD 36 undef = x36
  generalize tm.getD 37 undef = x37
  generalize tm.getD 38 undef = x38
  generalize tm.getD 39 undef = x39
  generalize tm.getD 40 undef = x40
  generalize tm.getD 41 undef = x41
  generalize tm.getD 42 undef = x42
  generalize tm.getD 43 undef = x43
  generalize tm.getD 44 undef = x44
  generalize tm.getD 45 undef = x45
  generalize tm.getD 46 undef = x46
  generalize tm.getD 47 undef = x47
  generalize tm.getD 48 undef = x48
  generalize tm.getD 49 undef = x49
  generalize tm.getD 50 undef = x50
  generalize tm.getD 51 undef = x51
  generalize tm.getD 52 undef = x52
  generalize tm.getD 53 undef = x53
  generalize tm.getD 54 undef = x54
  generalize tm.getD 55 undef = x55
  generalize tm.getD 56 undef = x56
  generalize tm.getD 57 undef = x57
  generalize tm.getD 58 undef = x58
  generalize tm.getD 59 undef = x59
  generalize tm.getD 60 undef = x60
  generalize tm.getD 61 undef = x61
  generalize tm.getD 62 undef = x62
  generalize tm.getD 63 undef = x63
  generalize tm.getD 64 undef = x64
  generalize tm.getD 65 undef = x65
  generalize tm.getD 66 undef = x66
  generalize tm.getD 67 undef = x67
  generalize tm.getD 68 undef = x68
  generalize tm.getD 69 undef = x69
  generalize tm.getD 70 undef = x70
  generalize tm.getD 71 undef = x71
  generalize tm.getD 72 undef = x72
  generalize tm.getD 73 undef = x73
  generalize tm.getD 74 undef = x74
  generalize tm.getD 75 undef = x75
  generalize tm.getD 76 undef = x76
  generalize tm.getD 77 undef = x77
  generalize tm.getD 78 undef = x78
  generalize tm.getD 79 undef = x79
  generalize tm.getD 80 undef = x80
  generalize tm.getD 81 undef = x81
  generalize tm.getD 82 undef = x82
  generalize tm.getD 83 undef = x83
  generalize tm.getD 84 undef = x84
  generalize tm.getD 85 undef = x85
  generalize tm.getD 86 undef = x86
  generalize tm.getD 87 undef = x87
  generalize tm.getD 88 undef = x88
  generalize tm.getD 89 undef = x89
  generalize tm.getD 90 undef = x90
  generalize tm.getD 91 undef = x91
  generalize tm.getD 92 undef = x92
  generalize tm.getD 93 undef = x93
  generalize tm.getD 94 undef = x94
  generalize tm.getD 95 undef = x95
  generalize tm.getD 96 undef = x96
  generalize tm.getD 97 undef = x97
  generalize tm.getD 98 undef = x98
  generalize tm.getD 99 undef = x99
  generalize tm.getD 100 undef = x100
  generalize tm.getD 101 undef = x101
  generalize tm.getD 102 undef = x102
  generalize tm.getD 103 undef = x103
  generalize tm.getD 104 undef = x104
  generalize tm.getD 105 undef = x105

  simp only [s56, s55, s54, s53, s52, s51, body5, Try.f5, Option.getD_some]
  refine Reach.ctl rfl (fun w => stepG_seq) fun d0 => ?_
  refine Reach.ctl rfl (fun w => stepG_seq) fun d1 => ?_
  refine Reach.ctl rfl (fun w => stepG_region) fun d2 => ?_
  simp only [List.size_toArray, List.length_cons, List.length_nil, Nat.reduceAdd, Nat.zero_add, List.range, List.range.loop]
  refine Reach.ctl rfl (fun w => stepG_callG rfl rfl (by decide) rfl Try.func8 (by kernel_rfl) rfl w) fun d3 => ?_
  try simp only [List.map_toArray, List.map_cons, List.map_nil]
  try walk_nrm
  refine (awake_runs _ _ _).trans ?_
  rintro g1 w1 ⟨rfl, ho1⟩
  rw [Frame.finish_at]
  walk_nrm
  have ho1 : Old w w1 (fun _ => False) := ⟨ho1.size, ho1.os, ho1.output, ho1.block⟩
  refine Reach.of_goes ?_
  refine GoesI.val (.bool false) rfl rfl (by decide) (fun w => by go_simp) (fun w => by simp [go_sem]) ?_
  walk_nrm
  refine GoesI.val (.bool false) rfl rfl (by decide) (fun w => by go_simp) (fun w => by simp [go_sem]) ?_
  walk_nrm
  refine GoesI.val (.slice bm (n1 + n2) cm) rfl rfl (by decide) (fun w => by go_simp) (fun w => by simp [go_sem]) ?_
  walk_nrm
  refine GoesI.val (.int .i64 ((n1 + n2 : Nat) : Int)) rfl rfl (by decide) (fun w => by go_simp) (fun w => by simp [go_sem]) ?_
  walk_nrm
  refine GoesI.val (.slice b1 n1 c1) rfl rfl (by decide) (fun w => by go_simp) (fun w => by simp [go_sem]) ?_
  walk_nrm
  refine GoesI.val (.int .i64 ((n1 : Nat) : Int)) rfl rfl (by decide) (fun w => by go_simp) (fun w => by simp [go_sem]) ?_
  walk_nrm
  refine GoesI.val (.slice b2 n2 c2) rfl rfl (by decide) (fun w => by go_simp) (fun w => by simp [go_sem]) ?_
  walk_nrm
  refine GoesI.val (.int .i64 ((n2 : Nat) : Int)) rfl rfl (by decide) (fun w => by go_simp) (fun w => by simp [go_sem]) ?_
  walk_nrm
  refine GoesI.val (.int .i64 ((n1 + n2 : Nat) : Int)) rfl rfl (by decide) (fun w => by go_simp; try (rw [IntKind.wrap_i64]; omega)) (fun w => by simp [go_sem]) ?_
  walk_nrm
  refine GoesI.val (.bool false) rfl rfl (by decide) (fun w => by go_simp; first | done | omega | (simp; omega)) (fun w => by simp [go_sem]) ?_
  walk_nrm
  refine GoesI.val (.bool false) rfl rfl (by decide) (fun w => by go_simp) (fun w => by simp [go_sem]) ?_
  walk_nrm
  refine GoesI.val (.bool false) rfl rfl (by decide) (fun w => by go_simp) (fun w => by simp [go_sem]) ?_
  walk_nrm
  refine GoesI.val (.slice (some ⟨N1, 0, none⟩) n1 (n1 + 3)) rfl rfl (by decide) (fun w => by go_simp) (fun w => by simp [go_sem]) ?_
  walk_nrm
  refine GoesI.val (.slice b1 n1 c1) rfl rfl (by decide) (fun w => by go_simp) (fun w => by simp [go_sem]) ?_
  walk_nrm
  refine GoesI.ld safeQ (.agg rec71) (by kernel_rfl) rfl rfl (by decide) (fun d => by unfold execOp; walk_nrm; simp only [Act.eval, Sem.run_bind, hbuild71, Result.andThen_ok, Sem.run_pure]) ?_
  walk_nrm
  refine GoesI.ctl rfl (fun w => stepG_callG rfl rfl (by decide) rfl Try.func9 (by kernel_rfl) rfl w) ?_
  try simp only [List.map_toArray, List.map_cons, List.map_nil]
  walk_nrm
  refine GoesI.bind (GoesI.mono ?_ (kept_goes h1.len (by omega) h1.recs rec71T (hrow1.mono ho1) (h1.row.mono (hold.trans ho1)) _ _))
  rintro g2 w2 ⟨rfl, ho2⟩
  rw [Frame.finish_at]
  walk_nrm
  refine GoesI.val (.bool false) rfl rfl (by decide) (fun w => by go_simp) (fun w => by simp [go_sem]) ?_
  walk_nrm
  refine GoesI.val (.bool false) rfl rfl (by decide) (fun w => by go_simp) (fun w => by simp [go_sem]) ?_
  walk_nrm
  refine GoesI.val (.bool false) rfl rfl (by decide) (fun w => by go_simp) (fun w => by simp [go_sem]) ?_
  walk_nrm
  refine GoesI.val (.slice (some ⟨N2, 0, none⟩) n2 (n2 + 3)) rfl rfl (by decide) (fun w => by go_simp) (fun w => by simp [go_sem]) ?_
  walk_nrm
  refine GoesI.val (.slice b2 n2 c2) rfl rfl (by decide) (fun w => by go_simp) (fun w => by simp [go_sem]) ?_
  walk_nrm
  refine GoesI.ld safeQ (.agg rec71) (by kernel_rfl) rfl rfl (by decide) (fun d => by unfold execOp; walk_nrm; simp only [Act.eval, Sem.run_bind, hbuild71, Result.andThen_ok, Sem.run_pure]) ?_
  walk_nrm
  refine GoesI.ctl rfl (fun w => stepG_callG rfl rfl (by decide) rfl Try.func9 (by kernel_rfl) rfl w) ?_
  try simp only [List.map_toArray, List.map_cons, List.map_nil]
  walk_nrm
  refine GoesI.bind (GoesI.mono ?_ (kept_goes h2.len (by omega) h2.recs rec71T ((hrow2.mono ho1).mono ho2) (h2.row.mono ((hold.trans ho1).trans ho2)) _ _))
  rintro g3 w3 ⟨rfl, ho3⟩
  rw [Frame.finish_at]
  walk_nrm
  refine GoesI.val (.bool false) rfl rfl (by decide) (fun w => by go_simp) (fun w => by simp [go_sem]) ?_
  walk_nrm
  refine GoesI.val (.bool false) rfl rfl (by decide) (fun w => by go_simp) (fun w => by simp [go_sem]) ?_
  walk_nrm
  refine GoesI.ctl rfl (fun w => stepG_region_end) ?_
  refine GoesI.ctl rfl (fun w => stepG_cond (t := false) rfl) ?_
  simp only [Bool.false_eq_true, if_false]
  refine GoesI.ctl rfl (fun w => stepG_skip) ?_
  refine GoesI.ctl rfl (fun w => stepG_seq) ?_
  refine GoesI.ctl rfl (fun w => stepG_region) ?_
  simp only [List.size_toArray, List.length_cons, List.length_nil, Nat.reduceAdd, Nat.zero_add, List.range, List.range.loop]
  refine GoesI.val (.int .i64 0) rfl rfl (by decide) (fun w => by go_simp) (fun w => by simp [go_sem]) ?_
  walk_nrm
  refine GoesI.val (.int .i64 0) rfl rfl (by decide) (fun w => by go_simp) (fun w => by simp [go_sem]) ?_
  walk_nrm
  refine GoesI.ctl rfl (fun w => stepG_region_end) ?_
  exact .stop fun d => ⟨_, rfl, rfl, rfl, (((hold.trans ho1).trans ho2).trans ho3).at_ d, bm, cm, ((hrowm.mono ho1).mono ho2).mono (ho3.at_ d), ⟨rfl, rfl, rfl, rfl, rfl, trivial⟩⟩
end Go.Proofs.Ytofoplpnpfaofaa
