/- What is proved here: TeeSpreads' law with good arguments, to its own loop. Conditions: its list reads as records. -/
import Derived.Test.YtofoplpnpfaofaaS1
set_option linter.unusedSimpArgs false
set_option linter.unusedVariables false
namespace Go.Proofs.Ytofoplpnpfaofaa
open Go Go.Conc Go.RowKit

/-- What each has heard. -/
def Heard (w : World) (ob ln m : Nat) (vs : List Value) : Prop := ob < w.heap.size ∧ ∀ k, k < ln → ∃ bk ck, w.cell? ⟨ob, k, none⟩ = some (.slice bk m ck) ∧ RowAt w bk vs
theorem Heard.on {w w1 : World} {ob ln m : Nat} {vs : List Value} (h : Heard w ob ln m vs) (ho : Old w w1 (fun _ => False)) : Heard w1 ob ln m vs :=
  ⟨Nat.lt_of_lt_of_le h.1 ho.size, fun k hk => by obtain ⟨bk, ck, h1, h2⟩ := h.2 k hk; exact ⟨bk, ck, (ho.cell h.1 id).trans h1, h2.mono ho⟩⟩

/-- At the law's own loop. -/
structure K37 (W : World) (b1 : Option Addr) (m c1 ln : Nat) (vs : List Value) (a : Act) (w : World) : Prop where
  size : a.tmps.size = 77
  old : Old W w (fun _ => False)
  slots : ∃ ob, Heard w ob ln m vs ∧ SlotsL [(0, .slice b1 m c1), (8, .slice (some ⟨ob, 0, none⟩) ln ln)] a.tmps

set_option maxHeartbeats 1000000 in
set_option maxRecDepth 100000 in
theorem p3b {W w : World} {b1 : Option Addr} {m c1 ln rm N1 : Nat} {vs : List Value} {a : Act} (hs : a.tmps.size = 77) (hl : SlotsL [(0, .slice b1 m c1), (1, .int .i64 ((ln : Nat) : Int)), (2, .int .i64 ((rm : Nat) : Int)), (7, .slice (some ⟨N1, 0, none⟩) m (m + 3))] a.tmps) (hd : a.defers = []) (h1 : In4 W b1 m c1 vs) (hm : m ≤ 100) (hln : 0 < ln ∧ ln ≤ 16) (hrm : rm ≤ 64) (hold : Old W w (fun _ => False)) (hrow : RowAt w (some ⟨N1, 0, none⟩) (vs ++ List.replicate 3 (.agg rec71))) (hrows : Rows w (.slice (some ⟨N1, 0, none⟩) m (m + 3)) vs) :
    Reach Try.prog (G ((base 3).at a [.code s33]) []) w fun g w' => ∃ a', g = G ((base 3).at a' [.code s37]) [] ∧ a'.defers = [] ∧ K37 W b1 m c1 ln vs a' w' := by
  obtain ⟨tm, df⟩ := a
  obtain rfl : df = [] := hd
  have hs0 : tm.size = 77 := hs
  have ht := arr_full hs0
  obtain ⟨e0, e1, e2, e7, _⟩ := hl
  simp only [List.range, List.range.loop, List.map] at ht
  rw [ht]
  rw [show tm.getD 0 undef = .slice b1 m c1 from e0]
  rw [show tm.getD 1 undef = .int .i64 ((ln : Nat) : Int) from e1]
  rw [show tm.getD 2 undef = .int .i64 ((rm : Nat) : Int) from e2]
  rw [show tm.getD 7 undef = .slice (some ⟨N1, 0, none⟩) m (m + 3) from e7]
  clear ht hs hs0 e0 e1 e2 e7
  generalize tm.getD 3 undef = x3
  generalize tm.getD 4 undef = x4
  generalize tm.getD 5 undef = x5
  generalize tm.getD 6 undef = x6
  generalize tm.getD 8 undef = x8
  generalize tm.getD 9 undef = x9
  generalize tm.getD 10 undef = x10
  generalize tm.getD 11 undef = x11
  generalize tm.getD 12 undef = x12
  generalize tm.getD 13 undef = x13
  generalize tm.getD 14 undef = x14
  generalize tm.getD 15 undef = x15
  generalize tm.getD 16 undef = x16
  generalize tm.getD 17 undef = x17
  generalize tm.getD 18 undef = x18
  generalize tm.getD 19 undef = x19
  generalize tm.getD 20 undef = x20
  generalize tm.getD 21 undef = x21
  generalize tm.getD 22 undef = x22
  generalize tm.getD 23 undef = x23
  generalize tm.getD 24 undef = x24
  generalize tm.getD 25 undef = x25
  generalize tm.getD 26 undef = x26
  generalize tm.getD 27 undef = x27
  generalize tm.getD 28 undef = x28
  generalize tm.getD 29 undef = x29
  generalize tm.getD 30 undef = x30
  generalize tm.getD 31 undef = x31
  generalize tm.getD 32 undef = x32
  generalize tm.getD 33 undef = x33
  generalize tm.getD 34 undef = x34
  generalize tm.getD 35 undef = x35
  generalize tm.getD 36 undef = x36
  generalize tm.getD 37 undef = x37
  generalize tm.getD 38 undef = x38
  generalize tm.getD 39 undef = x39
  generalize tm.getD 40 undef = x40
  generalize tm.getD 41 undef = x41
  generalize tm.getD 42 undef = x42
  generalize tm.getD 43 undef = x43
  generalize tm.getD 44 undef = x44
  generalize tm.getD 45 undef = x45
  generalize tm.getD 46 undef = x46
  generalize tm.getD 47 undef = x47
  generalize tm.getD 48 undef = x48
  generalize tm.getD 49 undef = x49
  generalize tm.getD 50 undef = x50
  generalize tm.getD 51 undef = x51
  generalize tm.getD 52 undef = x52
  generalize tm.getD 53 undef = x53
  generalize tm.getD 54 undef = x54
  generalize tm.getD 55 undef = x55
  generalize tm.getD 56 undef = x56
  generalize tm.getD 57 undef = x57
  generalize tm.getD 58 undef = x58
  generalize tm.getD 59 undef = x59
  generalize tm.getD 60 undef = x60
  generalize tm.getD 61 undef = x61
  generalize tm.getD 62 undef = x62
  generalize tm.getD 63 undef = x63
  generalize tm.getD 64 undef = x64
  generalize tm.getD 65 undef = x65
  generalize tm.getD 66 undef = x66
  generalize tm.getD 67 undef = x67
  generalize tm.getD 68 undef = x68
  generalize tm.getD 69 undef = x69
  generalize tm.getD 70 undef = x70
  generalize tm.getD 71 undef = x71
  generalize tm.getD 72 undef = x72
  generalize tm.getD 73 undef = x73
  generalize tm.getD 74 undef = x74
  generalize tm.getD 75 undef = x75
  generalize tm.getD 76 undef = x76

  simp only [s38, s37, s36, s35, s34, s33, s32, s31, body3, Try.f3, Option.getD_some]
  refine Reach.bind ?_
  refine GoesI.ctl rfl (fun w => stepG_seq) ?_
  refine GoesI.ctl rfl (fun w => stepG_region) ?_
  simp only [List.size_toArray, List.length_cons, List.length_nil, Nat.reduceAdd, Nat.zero_add, List.range, List.range.loop]
  refine GoesI.val (.slice (some ⟨N1, 0, none⟩) m (m + 3)) rfl rfl (by decide) (fun w => by go_simp) (fun w => by simp [go_sem]) ?_
  walk_nrm
  refine GoesI.val (.int .i64 ((ln : Nat) : Int)) rfl rfl (by decide) (fun w => by go_simp) (fun w => by simp [go_sem]) ?_
  walk_nrm
  refine GoesI.val (.int .i64 ((rm : Nat) : Int)) rfl rfl (by decide) (fun w => by go_simp) (fun w => by simp [go_sem]) ?_
  walk_nrm
  refine .stop fun d1 => ?_
  refine Reach.ctl rfl (fun w => stepG_callG rfl rfl (by decide) rfl Try.func7 (by kernel_rfl) rfl w) fun d3 => ?_
  try simp only [List.map_toArray, List.map_cons, List.map_nil]
  walk_nrm
  refine (spread_runs (n := ln) (room := rm) (vs := vs) hln hrm (fun c' cs' => GoesI.mono ?_ (clone_goes (hrows.on ((Old.refl w (fun _ => False)).at_ _)) (by rw [h1.len]; omega) c' cs'))).trans ?_
  · rintro g w' ⟨v, rfl, h3, h4⟩
    exact ⟨v, rfl, h3.recs' (by rw [h1.len]; omega), h4⟩
  rintro g1 w1 ⟨ob, f, rfl, ho1, hob, hcell, hk⟩
  rw [Frame.finish_at]
  walk_nrm
  have ho1 : Old w w1 (fun _ => False) := ⟨ho1.size, ho1.os, ho1.output, ho1.block⟩
  have hall : ∀ k, k < ln → ∃ bk ck, w1.cell? ⟨ob, k, none⟩ = some (.slice bk m ck) ∧ RowAt w1 bk vs := by
    intro k hkn
    obtain ⟨v, Hv, e1, e2, e3⟩ := hk k hkn
    obtain ⟨bk, ck, rfl, hrk⟩ := (rows_of (fun v hv => (h1.recs v hv).rec) (e2.row e3)).at
    rw [h1.len] at e1
    refine ⟨bk, ck, ?_, hrk⟩
    simp only [World.cell?, hcell]
    simp [outA, hkn, e1]
  have hoblt := lt_of_heap hcell
  refine Reach.bind ?_
  refine GoesI.val (.tuple #[.slice (some ⟨ob, 0, none⟩) ln ln, .int .i64 0]) rfl rfl (by decide) (fun w => by go_simp) (fun w => by simp [go_sem]) ?_
  walk_nrm
  refine GoesI.val (.slice (some ⟨ob, 0, none⟩) ln ln) rfl rfl (by decide) (fun w => by go_simp) (fun w => by simp [go_sem]) ?_
  walk_nrm
  refine GoesI.val (.int .i64 0) rfl rfl (by decide) (fun w => by go_simp) (fun w => by simp [go_sem]) ?_
  walk_nrm
  refine GoesI.val (.slice (some ⟨ob, 0, none⟩) ln ln) rfl rfl (by decide) (fun w => by go_simp) (fun w => by simp [go_sem]) ?_
  walk_nrm
  refine GoesI.val (.int .i64 0) rfl rfl (by decide) (fun w => by go_simp) (fun w => by simp [go_sem]) ?_
  walk_nrm
  refine GoesI.ctl rfl (fun w => stepG_region_end) ?_
  refine GoesI.ctl rfl (fun w => stepG_seq) ?_
  refine GoesI.ctl rfl (fun w => stepG_seq) ?_
  refine GoesI.ctl rfl (fun w => stepG_region) ?_
  simp only [List.size_toArray, List.length_cons, List.length_nil, Nat.reduceAdd, Nat.zero_add, List.range, List.range.loop]
  refine .stop fun d1 => ?_
  refine Reach.ctl rfl (fun w => stepG_callG rfl rfl (by decide) rfl Try.func8 (by kernel_rfl) rfl w) fun d3 => ?_
  try simp only [List.map_toArray, List.map_cons, List.map_nil]
  try walk_nrm
  refine (awake_runs _ _ _).trans ?_
  rintro g2 w2 ⟨rfl, ho2⟩
  rw [Frame.finish_at]
  walk_nrm
  have ho2 : Old w1 w2 (fun _ => False) := ⟨ho2.size, ho2.os, ho2.output, ho2.block⟩
  refine Reach.of_goes ?_
  refine GoesI.val (.bool false) rfl rfl (by decide) (fun w => by go_simp) (fun w => by simp [go_sem]) ?_
  walk_nrm
  refine GoesI.val (.bool false) rfl rfl (by decide) (fun w => by go_simp) (fun w => by simp [go_sem]) ?_
  walk_nrm
  refine GoesI.val (.slice (some ⟨N1, 0, none⟩) m (m + 3)) rfl rfl (by decide) (fun w => by go_simp) (fun w => by simp [go_sem]) ?_
  walk_nrm
  refine GoesI.val (.slice b1 m c1) rfl rfl (by decide) (fun w => by go_simp) (fun w => by simp [go_sem]) ?_
  walk_nrm
  refine GoesI.ld safeQ (.agg rec71) (by kernel_rfl) rfl rfl (by decide) (fun d => by unfold execOp; walk_nrm; simp only [Act.eval, Sem.run_bind, hbuild71, Result.andThen_ok, Sem.run_pure]) ?_
  walk_nrm
  refine GoesI.ctl rfl (fun w => stepG_callG rfl rfl (by decide) rfl Try.func9 (by kernel_rfl) rfl w) ?_
  try simp only [List.map_toArray, List.map_cons, List.map_nil]
  walk_nrm
  refine GoesI.bind (GoesI.mono ?_ (kept_goes h1.len (by omega) h1.recs rec71T ((hrow.mono ho1).mono ho2) (h1.row.mono ((hold.trans ho1).trans ho2)) _ _))
  rintro g3 w3 ⟨rfl, ho3⟩
  rw [Frame.finish_at]
  walk_nrm
  refine GoesI.val (.bool false) rfl rfl (by decide) (fun w => by go_simp) (fun w => by simp [go_sem]) ?_
  walk_nrm
  refine GoesI.val (.bool false) rfl rfl (by decide) (fun w => by go_simp) (fun w => by simp [go_sem]) ?_
  walk_nrm
  refine GoesI.ctl rfl (fun w => stepG_region_end) ?_
  refine GoesI.ctl rfl (fun w => stepG_cond (t := false) rfl) ?_
  simp only [Bool.false_eq_true, if_false]
  refine GoesI.ctl rfl (fun w => stepG_skip) ?_
  refine GoesI.ctl rfl (fun w => stepG_seq) ?_
  refine GoesI.ctl rfl (fun w => stepG_seq) ?_
  refine GoesI.ctl rfl (fun w => stepG_region) ?_
  simp only [List.size_toArray, List.length_cons, List.length_nil, Nat.reduceAdd, Nat.zero_add, List.range, List.range.loop]
  refine GoesI.val (.int .i64 ((ln : Nat) : Int)) rfl rfl (by decide) (fun w => by go_simp) (fun w => by simp [go_sem]) ?_
  walk_nrm
  refine GoesI.val (.bool false) rfl rfl (by decide) (fun w => by go_simp; first | done | omega | (simp; omega)) (fun w => by simp [go_sem]) ?_
  walk_nrm
  refine GoesI.val (.bool false) rfl rfl (by decide) (fun w => by go_simp) (fun w => by simp [go_sem]) ?_
  walk_nrm
  refine GoesI.val (.int .i64 ((ln : Nat) : Int)) rfl rfl (by decide) (fun w => by go_simp) (fun w => by simp [go_sem]) ?_
  walk_nrm
  refine GoesI.val (.bool false) rfl rfl (by decide) (fun w => by go_simp; first | done | omega | (simp; omega)) (fun w => by simp [go_sem]) ?_
  walk_nrm
  refine GoesI.val (.bool false) rfl rfl (by decide) (fun w => by go_simp) (fun w => by simp [go_sem]) ?_
  walk_nrm
  refine GoesI.val (.bool false) rfl rfl (by decide) (fun w => by go_simp) (fun w => by simp [go_sem]) ?_
  walk_nrm
  refine GoesI.val (.int .i64 ((rm : Nat) : Int)) rfl rfl (by decide) (fun w => by go_simp) (fun w => by simp [go_sem]) ?_
  walk_nrm
  refine GoesI.val (.bool false) rfl rfl (by decide) (fun w => by go_simp; first | done | omega | (simp; omega)) (fun w => by simp [go_sem]) ?_
  walk_nrm
  refine GoesI.val (.bool false) rfl rfl (by decide) (fun w => by go_simp) (fun w => by simp [go_sem]) ?_
  walk_nrm
  refine GoesI.val (.bool false) rfl rfl (by decide) (fun w => by go_simp) (fun w => by simp [go_sem]) ?_
  walk_nrm
  refine GoesI.val (.int .i64 ((rm : Nat) : Int)) rfl rfl (by decide) (fun w => by go_simp) (fun w => by simp [go_sem]) ?_
  walk_nrm
  refine GoesI.val (.bool false) rfl rfl (by decide) (fun w => by go_simp; first | done | omega | (simp; omega)) (fun w => by simp [go_sem]) ?_
  walk_nrm
  refine GoesI.val (.bool false) rfl rfl (by decide) (fun w => by go_simp) (fun w => by simp [go_sem]) ?_
  walk_nrm
  refine GoesI.ctl rfl (fun w => stepG_region_end) ?_
  refine GoesI.ctl rfl (fun w => stepG_cond (t := false) rfl) ?_
  simp only [Bool.false_eq_true, if_false]
  refine GoesI.ctl rfl (fun w => stepG_skip) ?_
  refine GoesI.ctl rfl (fun w => stepG_seq) ?_
  refine GoesI.ctl rfl (fun w => stepG_seq) ?_
  refine GoesI.ctl rfl (fun w => stepG_region) ?_
  simp only [List.size_toArray, List.length_cons, List.length_nil, Nat.reduceAdd, Nat.zero_add, List.range, List.range.loop]
  refine GoesI.val (.int .i64 0) rfl rfl (by decide) (fun w => by go_simp) (fun w => by simp [go_sem]) ?_
  walk_nrm
  refine GoesI.val (.bool false) rfl rfl (by decide) (fun w => by go_simp) (fun w => by simp [go_sem]) ?_
  walk_nrm
  refine GoesI.val (.bool false) rfl rfl (by decide) (fun w => by go_simp) (fun w => by simp [go_sem]) ?_
  walk_nrm
  refine GoesI.val (.slice (some ⟨ob, 0, none⟩) ln ln) rfl rfl (by decide) (fun w => by go_simp) (fun w => by simp [go_sem]) ?_
  walk_nrm
  refine GoesI.val (.int .i64 ((ln : Nat) : Int)) rfl rfl (by decide) (fun w => by go_simp) (fun w => by simp [go_sem]) ?_
  walk_nrm
  refine GoesI.val (.int .i64 ((ln : Nat) : Int)) rfl rfl (by decide) (fun w => by go_simp) (fun w => by simp [go_sem]) ?_
  walk_nrm
  refine GoesI.val (.bool false) rfl rfl (by decide) (fun w => by go_simp) (fun w => by simp [go_sem]) ?_
  walk_nrm
  refine GoesI.val (.bool false) rfl rfl (by decide) (fun w => by go_simp) (fun w => by simp [go_sem]) ?_
  walk_nrm
  refine GoesI.ctl rfl (fun w => stepG_region_end) ?_
  refine GoesI.ctl rfl (fun w => stepG_cond (t := false) rfl) ?_
  simp only [Bool.false_eq_true, if_false]
  refine GoesI.ctl rfl (fun w => stepG_skip) ?_
  exact .stop fun d => ⟨_, rfl, rfl, rfl, (((hold.trans ho1).trans ho2).trans ho3).at_ d, ob, (Heard.on (⟨hoblt, hall⟩ : Heard w1 ob ln m vs) (ho2.trans (ho3.at_ d))), ⟨rfl, rfl, trivial⟩⟩
end Go.Proofs.Ytofoplpnpfaofaa
