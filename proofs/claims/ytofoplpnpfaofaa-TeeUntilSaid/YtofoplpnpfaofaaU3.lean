/- What is proved here: TeeUntil's law, to its end, and its claim. No condition. -/
import Derived.Test.YtofoplpnpfaofaaU2
import Derived.Test.YtofoplpnpfaofaaGoes
import Derived.Test.YtofoplpnpfaofaaRows
import Derived.Carry
set_option linter.unusedSimpArgs false
set_option linter.unusedVariables false
namespace Go.Proofs.Ytofoplpnpfaofaa
open Go Go.Conc Go.RowKit Go.ChangeShapes Go.WideShapes Go.ChangeAt Go.Deep

theorem run_eqb {o : Oper} {a : Act} {w : World} {x y : Operand} {b : Bool} (hop : o.op = .binOp .eql 4 x y 4) (hx : a.eval x = .bool b) (hy : a.eval y = .bool b) : (execOp a.eval o).run Try.prog w = .ok (.value (.bool true)) w := by
  unfold execOp
  simp only [hop, hx, hy]
  go_simp

set_option maxRecDepth 100000 in
theorem tail4 {W w : World} {b1 bv b2 : Option Addr} {n c1 m cv c2 : Nat} {vs : List Value} {pc : Int} {found : Bool} {a : Act} (hs : a.tmps.size = 74) (hl : SlotsL [(0, .slice b1 n c1), (1, .int .u64 pc), (4, .pointer (some ⟨W.heap.size, 0, none⟩)), (7, .pointer (some ⟨W.heap.size + 1, 0, none⟩)), (8, .slice bv m cv), (9, .bool found), (10, .slice b2 n c2), (11, .bool false), (12, .slice b1 m c1), (13, .bool found)] a.tmps) (hd : a.defers = []) (hin : In4 W b1 n c1 vs) (hm : m ≤ n) (h2 : Two4 W pc m w) (hrv : RowAt w bv (vs.take m)) (hr2 : RowAt w b2 vs) :
    Reach Try.prog (G ((base 4).at a [.code s46]) []) w fun g' w' => AtDone Try.prog (.bool true) g' ∧ Old w w' (fun _ => False) := by
  obtain ⟨tm, df⟩ := a
  obtain rfl : df = [] := hd
  have hs0 : tm.size = 74 := hs
  have ht := arr_full hs0
  obtain ⟨e0, e1, e4, e7, e8, e9, e10, e11, e12, e13, _⟩ := hl
  simp only [List.range, List.range.loop, List.map] at ht
  rw [ht]
  rw [show tm.getD 0 undef = .slice b1 n c1 from e0]
  rw [show tm.getD 1 undef = .int .u64 pc from e1]
  rw [show tm.getD 4 undef = .pointer (some ⟨W.heap.size, 0, none⟩) from e4]
  rw [show tm.getD 7 undef = .pointer (some ⟨W.heap.size + 1, 0, none⟩) from e7]
  rw [show tm.getD 8 undef = .slice bv m cv from e8]
  rw [show tm.getD 9 undef = .bool found from e9]
  rw [show tm.getD 10 undef = .slice b2 n c2 from e10]
  rw [show tm.getD 11 undef = .bool false from e11]
  rw [show tm.getD 12 undef = .slice b1 m c1 from e12]
  rw [show tm.getD 13 undef = .bool found from e13]
  clear ht hs hs0 e0 e1 e4 e7 e8 e9 e10 e11 e12 e13
  generalize tm.getD 2 undef = x2
  generalize tm.getD 3 undef = x3
  generalize tm.getD 5 undef = x5
  generalize tm.getD 6 undef = x6
  generalize tm.getD 14 undef = x14
  generalize tm.getD 15 undef = x15
  generalize tm.getD 16 undef = x16
  generalize tm.getD 17 undef = x17
  generalize tm.getD 18 undef = x18
  generalize tm.getD 19 undef = x19
  generalize tm.getD 20 undef = x20
  generalize tm.getD 21 undef = x21
  generalize tm.getD 22 undef = x22
  generalize tm.getD 23 undef = x23
  generalize tm.getD 24 undef = x24
  generalize tm.getD 25 undef = x25
  generalize tm.getD 26 undef = x26
  generalize tm.getD 27 undef = x27
  generalize tm.getD 28 undef = x28
  generalize tm.getD 29 undef = x29
  generalize tm.getD 30 undef = x30
  generalize tm.getD 31 undef = x31
  generalize tm.getD 32 undef = x32
  generalize tm.getD 33 undef = x33
  generalize tm.getD 34 undef = x34
  generalize tm.getD 35 undef = x35
  generalize tm.getD 36 undef = x36
  generalize tm.getD 37 undef = x37
  generalize tm.getD 38 undef = x38
  generalize tm.getD 39 undef = x39
  generalize tm.getD 40 undef = x40
  generalize tm.getD 41 undef = x41
  generalize tm.getD 42 undef = x42
  generalize tm.getD 43 undef = x43
  generalize tm.getD 44 undef = x44
  generalize tm.getD 45 undef = x45
  generalize tm.getD 46 undef = x46
  generalize tm.getD 47 undef = x47
  generalize tm.getD 48 undef = x48
  generalize tm.getD 49 undef = x49
  generalize tm.getD 50 undef = x50
  generalize tm.getD 51 undef = x51
  generalize tm.getD 52 undef = x52
  generalize tm.getD 53 undef = x53
  generalize tm.getD 54 undef = x54
  generalize tm.getD 55 undef = x55
  generalize tm.getD 56 undef = x56
  generalize tm.getD 57 undef = x57
  generalize tm.getD 58 undef = x58
  generalize tm.getD 59 undef = x59
  generalize tm.getD 60 undef = x60
  generalize tm.getD 61 undef = x61
  generalize tm.getD 62 undef = x62
  generalize tm.getD 63 undef = x63
  generalize tm.getD 64 undef = x64
  generalize tm.getD 65 undef = x65
  generalize tm.getD 66 undef = x66
  generalize tm.getD 67 undef = x67
  generalize tm.getD 68 undef = x68
  generalize tm.getD 69 undef = x69
  generalize tm.getD 70 undef = x70
  generalize tm.getD 71 undef = x71
  generalize tm.getD 72 undef = x72
  generalize tm.getD 73 undef = x73

  simp only [s46, s45, s44, s43, s42, s41, body4, Try.f4, Option.getD_some]
  refine Reach.ctl rfl (fun w => stepG_seq) fun d1 => ?_
  refine Reach.ctl rfl (fun w => stepG_region) fun d2 => ?_
  simp only [List.size_toArray, List.length_cons, List.length_nil, Nat.reduceAdd, Nat.zero_add, List.range, List.range.loop]
  refine Reach.ctl rfl (fun w => stepG_callG rfl rfl (by decide) rfl Try.func8 (by kernel_rfl) rfl w) fun d3 => ?_
  try simp only [List.map_toArray, List.map_cons, List.map_nil]
  try walk_nrm
  refine (awake_runs _ _ _).trans ?_
  rintro g1 w1 ⟨rfl, ho1⟩
  rw [Frame.finish_at]
  walk_nrm
  have ho1 : Old w w1 (fun _ => False) := ⟨ho1.size, ho1.os, ho1.output, ho1.block⟩
  refine Reach.of_goes ?_
  refine GoesI.val (.bool true) rfl rfl (by decide) (fun w => by go_simp) (fun w => by simp [go_sem]) ?_
  walk_nrm
  refine GoesI.val (.bool found) rfl rfl (by decide) (fun w => by go_simp) (fun w => by simp [go_sem]) ?_
  walk_nrm
  refine GoesI.val (.bool found) rfl rfl (by decide) (fun w => by go_simp) (fun w => by simp [go_sem]) ?_
  walk_nrm
  refine GoesI.ld safeQ (.bool true) (by kernel_rfl) rfl rfl (by decide) (fun d => run_eqb rfl rfl rfl) ?_
  walk_nrm
  refine GoesI.val (.bool true) rfl rfl (by decide) (fun w => by go_simp) (fun w => by simp [go_sem]) ?_
  walk_nrm
  refine GoesI.val (.bool true) rfl rfl (by decide) (fun w => by go_simp) (fun w => by simp [go_sem]) ?_
  walk_nrm
  refine GoesI.val (.slice bv m cv) rfl rfl (by decide) (fun w => by go_simp) (fun w => by simp [go_sem]) ?_
  walk_nrm
  refine GoesI.val (.slice b1 m c1) rfl rfl (by decide) (fun w => by go_simp) (fun w => by simp [go_sem]) ?_
  walk_nrm
  refine GoesI.ctl rfl (fun w => stepG_callG rfl rfl (by decide) rfl Try.func10 (by kernel_rfl) rfl w) ?_
  try simp only [List.map_toArray, List.map_cons, List.map_nil]
  walk_nrm
  refine GoesI.bind (GoesI.mono ?_ (plain_goes (by rw [List.length_take, hin.len]; omega) (by have := hin.room; omega) (fun v hv => hin.recs v (List.mem_of_mem_take hv)) (hrv.mono ho1) ((hin.row.take m).mono (h2.old.trans ho1)) _ _))
  rintro g2 w2 ⟨rfl, ho2⟩
  rw [Frame.finish_at]
  walk_nrm
  refine GoesI.val (.bool true) rfl rfl (by decide) (fun w => by go_simp) (fun w => by simp [go_sem]) ?_
  walk_nrm
  refine GoesI.val (.bool true) rfl rfl (by decide) (fun w => by go_simp) (fun w => by simp [go_sem]) ?_
  walk_nrm
  have hask : w2.cell? ⟨W.heap.size + 1, 0, none⟩ = some (.int .i64 ((m : Nat) : Int)) := by
    have := (h2.on (ho1.trans ho2)).asked
    simp [World.cell?, this]
  refine GoesI.ld safeQ (.int .i64 ((m : Nat) : Int)) (by kernel_rfl) rfl rfl (by decide) (fun d => run_load_one rfl rfl Try.underlying3 rfl hask) ?_
  walk_nrm
  refine GoesI.val (.slice b1 m c1) rfl rfl (by decide) (fun w => by go_simp) (fun w => by simp [go_sem]) ?_
  walk_nrm
  refine GoesI.val (.int .i64 ((m : Nat) : Int)) rfl rfl (by decide) (fun w => by go_simp) (fun w => by simp [go_sem]) ?_
  walk_nrm
  refine GoesI.val (.bool true) rfl rfl (by decide) (fun w => by go_simp) (fun w => by simp [go_sem]) ?_
  walk_nrm
  refine GoesI.val (.bool true) rfl rfl (by decide) (fun w => by go_simp) (fun w => by simp [go_sem]) ?_
  walk_nrm
  refine GoesI.val (.bool true) rfl rfl (by decide) (fun w => by go_simp) (fun w => by simp [go_sem]) ?_
  walk_nrm
  refine GoesI.val (.bool false) rfl rfl (by decide) (fun w => by go_simp) (fun w => by simp [go_sem]) ?_
  walk_nrm
  refine GoesI.val (.bool true) rfl rfl (by decide) (fun w => by go_simp) (fun w => by simp [go_sem]) ?_
  walk_nrm
  refine GoesI.val (.bool true) rfl rfl (by decide) (fun w => by go_simp) (fun w => by simp [go_sem]) ?_
  walk_nrm
  refine GoesI.val (.bool true) rfl rfl (by decide) (fun w => by go_simp) (fun w => by simp [go_sem]) ?_
  walk_nrm
  refine GoesI.val (.slice b2 n c2) rfl rfl (by decide) (fun w => by go_simp) (fun w => by simp [go_sem]) ?_
  walk_nrm
  refine GoesI.val (.slice b1 n c1) rfl rfl (by decide) (fun w => by go_simp) (fun w => by simp [go_sem]) ?_
  walk_nrm
  refine GoesI.ctl rfl (fun w => stepG_callG rfl rfl (by decide) rfl Try.func10 (by kernel_rfl) rfl w) ?_
  try simp only [List.map_toArray, List.map_cons, List.map_nil]
  walk_nrm
  refine GoesI.bind (GoesI.mono ?_ (plain_goes hin.len (by have := hin.room; omega) hin.recs ((hr2.mono ho1).mono ho2) (hin.row.mono ((h2.old.trans ho1).trans ho2)) _ _))
  rintro g3 w3 ⟨rfl, ho3⟩
  rw [Frame.finish_at]
  walk_nrm
  refine GoesI.val (.bool true) rfl rfl (by decide) (fun w => by go_simp) (fun w => by simp [go_sem]) ?_
  walk_nrm
  refine GoesI.val (.bool true) rfl rfl (by decide) (fun w => by go_simp) (fun w => by simp [go_sem]) ?_
  walk_nrm
  refine GoesI.ctl rfl (fun w => stepG_region_end) ?_
  refine GoesI.ctl rfl (fun w => stepG_ret') ?_
  exact .stop fun d => ⟨atDone (by kernel_rfl) Try.func4 rfl rfl, ((ho1.trans ho2).trans ho3).at_ d⟩
end Go.Proofs.Ytofoplpnpfaofaa
