/- What is proved here: TeeUntil's law, piece by piece, ahead of its last statement. Conditions: its list reads as records. -/
import Derived.Test.YtofoplpnpfaofaaLaw
set_option linter.unusedSimpArgs false
set_option linter.unusedVariables false
namespace Go.Proofs.Ytofoplpnpfaofaa
open Go Go.Conc Go.RowKit

noncomputable def body4 : Code := Try.f4.body.getD .skip
noncomputable def c40 : Code := match body4 with | .seq c _ => c | _ => .skip
noncomputable def s41 : Code := match body4 with | .seq _ c => c | _ => .skip
noncomputable def c41 : Code := match s41 with | .seq c _ => c | _ => .skip
noncomputable def s42 : Code := match s41 with | .seq _ c => c | _ => .skip
noncomputable def c42 : Code := match s42 with | .seq c _ => c | _ => .skip
noncomputable def s43 : Code := match s42 with | .seq _ c => c | _ => .skip
noncomputable def c43 : Code := match s43 with | .seq c _ => c | _ => .skip
noncomputable def s44 : Code := match s43 with | .seq _ c => c | _ => .skip
noncomputable def c44 : Code := match s44 with | .seq c _ => c | _ => .skip
noncomputable def s45 : Code := match s44 with | .seq _ c => c | _ => .skip
noncomputable def c45 : Code := match s45 with | .seq c _ => c | _ => .skip
noncomputable def s46 : Code := match s45 with | .seq _ c => c | _ => .skip
theorem body4_eq : body4 = .seq c40 (.seq c41 (.seq c42 (.seq c43 (.seq c44 (.seq c45 s46))))) := rfl
theorem ok40 : codeOk Qp [17] c40 = true := by kernel_rfl
theorem ok41 : codeOk Qp [17] c41 = true := by kernel_rfl
theorem ok42 : codeOk Qp [17] c42 = true := by kernel_rfl
theorem ok43 : codeOk Qp [17] c43 = true := by kernel_rfl
theorem ok44 : codeOk Qp [17] c44 = true := by kernel_rfl
theorem ok45 : codeOk Qp [17] c45 = true := by kernel_rfl

/-- What holds of the list. -/
structure In4 (W : World) (b1 : Option Addr) (n c1 : Nat) (vs : List Value) : Prop where
  len : vs.length = n
  recs : ∀ v ∈ vs, RecT v
  row : RowAt W b1 vs
  room : n * 88 ≤ 140737488355328
  cap : n ≤ c1
  base : b1 = none ∨ ∃ g o, b1 = some ⟨g, o, none⟩

/-- The two variables that the closure holds, and what was there. -/
structure Two4 (W : World) (pc : Int) (k : Nat) (w : World) : Prop where
  old : Old W w (fun _ => False)
  pc : w.heap[W.heap.size]? = some (.cells #[.int .u64 pc] 24 (0, 0))
  asked : w.heap[W.heap.size + 1]? = some (.cells #[.int .i64 k] 3 (0, 0))
theorem Two4.sw {W : World} {pc : Int} {k : Nat} {w : World} (h : Two4 W pc k w) (τ : Nat → Question → Nat) (d : Nat) : Two4 W pc k (sw w τ d) := ⟨h.old.sw τ d, h.pc, h.asked⟩
theorem Two4.on {W : World} {pc : Int} {k : Nat} {w w1 : World} (h : Two4 W pc k w) (ho : Old w w1 (fun _ => False)) : Two4 W pc k w1 :=
  ⟨h.old.trans ho, (ho.block _ (lt_of_heap h.pc) id).trans h.pc, (ho.block _ (lt_of_heap h.asked) id).trans h.asked⟩
theorem Rows.sw {w : World} {v : Value} {vs : List Value} (h : Rows w v vs) (τ : Nat → Question → Nat) (d : Nat) : Rows (sw w τ d) v vs := ⟨h.recs, h.own⟩
theorem Rows.on {w w1 : World} {v : Value} {vs : List Value} (h : Rows w v vs) (ho : Old w w1 (fun _ => False)) : Rows w1 v vs := by
  refine ⟨h.recs, ?_⟩
  obtain ⟨base, cap, e, hx⟩ := h.own
  refine ⟨base, cap, e, fun hp => ?_⟩
  obtain ⟨ob, oo, e1, hlt, ⟨o, t, fr, hob⟩, hr⟩ := hx hp
  exact ⟨ob, oo, e1, Nat.lt_of_lt_of_le hlt ho.size, ⟨o, t, fr, (ho.block ob hlt id).trans hob⟩, fun i cells hi => ho.range hlt id (hr i cells hi)⟩

structure K41 (W : World) (b1 : Option Addr) (n c1 : Nat) (vs : List Value) (pc : Int) (a : Act) (w : World) : Prop where
  size : a.tmps.size = 74
  slots : SlotsL [(0, .slice b1 n c1), (1, .int .u64 pc), (4, .pointer (some ⟨W.heap.size, 0, none⟩))] a.tmps
  old : Old W w (fun _ => False)
  pcell : w.heap[W.heap.size]? = some (.cells #[.int .u64 pc] 24 (0, 0))
  hsize : w.heap.size = W.heap.size + 1

structure K42 (W : World) (b1 : Option Addr) (n c1 : Nat) (vs : List Value) (pc : Int) (a : Act) (w : World) : Prop where
  size : a.tmps.size = 74
  slots : SlotsL [(0, .slice b1 n c1), (1, .int .u64 pc), (4, .pointer (some ⟨W.heap.size, 0, none⟩)), (7, .pointer (some ⟨W.heap.size + 1, 0, none⟩))] a.tmps
  two : Two4 W pc 0 w

structure K43 (W : World) (b1 : Option Addr) (n c1 : Nat) (vs : List Value) (pc : Int) (v : Value) (m : Nat) (found : Bool) (a : Act) (w : World) : Prop where
  size : a.tmps.size = 74
  slots : SlotsL [(0, .slice b1 n c1), (1, .int .u64 pc), (4, .pointer (some ⟨W.heap.size, 0, none⟩)), (7, .pointer (some ⟨W.heap.size + 1, 0, none⟩)), (8, v), (9, .bool found)] a.tmps
  two : Two4 W pc m w
  cut : Cut pc vs m found
  rows : Rows w v (vs.take m)
def K43E (W : World) (b1 : Option Addr) (n c1 : Nat) (vs : List Value) (pc : Int) (a : Act) (w : World) : Prop := ∃ v m found, K43 W b1 n c1 vs pc v m found a w

structure K44 (W : World) (b1 : Option Addr) (n c1 : Nat) (vs : List Value) (pc : Int) (v : Value) (m : Nat) (found : Bool) (v2 : Value) (a : Act) (w : World) : Prop where
  size : a.tmps.size = 74
  slots : SlotsL [(0, .slice b1 n c1), (1, .int .u64 pc), (4, .pointer (some ⟨W.heap.size, 0, none⟩)), (7, .pointer (some ⟨W.heap.size + 1, 0, none⟩)), (8, v), (9, .bool found), (10, v2), (11, .bool false)] a.tmps
  two : Two4 W pc m w
  cut : Cut pc vs m found
  rows : Rows w v (vs.take m)
  rows2 : Rows w v2 vs

structure K45 (W : World) (b1 : Option Addr) (n c1 : Nat) (vs : List Value) (pc : Int) (v : Value) (m : Nat) (found : Bool) (v2 : Value) (a : Act) (w : World) : Prop where
  size : a.tmps.size = 74
  slots : SlotsL [(0, .slice b1 n c1), (1, .int .u64 pc), (4, .pointer (some ⟨W.heap.size, 0, none⟩)), (7, .pointer (some ⟨W.heap.size + 1, 0, none⟩)), (8, v), (9, .bool found), (10, v2), (11, .bool false), (12, .slice b1 n c1), (13, .bool false)] a.tmps
  two : Two4 W pc m w
  cut : Cut pc vs m found
  rows : Rows w v (vs.take m)
  rows2 : Rows w v2 vs

structure K46 (W : World) (b1 : Option Addr) (n c1 : Nat) (vs : List Value) (pc : Int) (v : Value) (m : Nat) (found : Bool) (v2 : Value) (a : Act) (w : World) : Prop where
  size : a.tmps.size = 74
  slots : SlotsL [(0, .slice b1 n c1), (1, .int .u64 pc), (4, .pointer (some ⟨W.heap.size, 0, none⟩)), (7, .pointer (some ⟨W.heap.size + 1, 0, none⟩)), (8, v), (9, .bool found), (10, v2), (11, .bool false), (12, .slice b1 m c1), (13, .bool found)] a.tmps
  two : Two4 W pc m w
  cut : Cut pc vs m found
  rows : Rows w v (vs.take m)
  rows2 : Rows w v2 vs

set_option maxRecDepth 100000 in
theorem p40 {W w : World} {b1 : Option Addr} {n c1 : Nat} {vs : List Value} {pc : Int} {a : Act} (hs : a.tmps.size = 74) (hl : SlotsL [(0, .slice b1 n c1), (1, .int .u64 pc)] a.tmps) (hd : a.defers = []) (hW : w.heap = W.heap ∧ w.os = W.os ∧ w.output = W.output) :
    c40.wp Try.prog (fun e a' w' => e = .normal ∧ K41 W b1 n c1 vs pc a' w') a w := by
  obtain ⟨tm, df⟩ := a
  obtain rfl : df = [] := hd
  have hs0 : tm.size = 74 := hs
  have ht := arr_full hs0
  obtain ⟨e0, e1, _⟩ := hl
  simp only [List.range, List.range.loop, List.map] at ht
  rw [ht]
  rw [show tm.getD 0 undef = .slice b1 n c1 from e0]
  rw [show tm.getD 1 undef = .int .u64 pc from e1]
  clear ht hs hs0 e0 e1
  generalize tm.getD 2 undef = x2
  generalize tm.getD 3 undef = x3
  generalize tm.getD 4 undef = x4
  generalize tm.getD 5 undef = x5
  generalize tm.getD 6 undef = x6
  generalize tm.getD 7 undef = x7
  generalize tm.getD 8 undef = x8
  generalize tm.getD 9 undef = x9
  generalize tm.getD 10 undef = x10
  generalize tm.getD 11 undef = x11
  generalize tm.getD 12 undef = x12
  generalize tm.getD 13 undef = x13
  generalize tm.getD 14 undef = x14
  generalize tm.getD 15 undef = x15
  generalize tm.getD 16 undef = x16
  generalize tm.getD 17 undef = x17
  generalize tm.getD 18 undef = x18
  generalize tm.getD 19 undef = x19
  generalize tm.getD 20 undef = x20
  generalize tm.getD 21 undef = x21
  generalize tm.getD 22 undef = x22
  generalize tm.getD 23 undef = x23
  generalize tm.getD 24 undef = x24
  generalize tm.getD 25 undef = x25
  generalize tm.getD 26 undef = x26
  generalize tm.getD 27 undef = x27
  generalize tm.getD 28 undef = x28
  generalize tm.getD 29 undef = x29
  generalize tm.getD 30 undef = x30
  generalize tm.getD 31 undef = x31
  generalize tm.getD 32 undef = x32
  generalize tm.getD 33 undef = x33
  generalize tm.getD 34 undef = x34
  generalize tm.getD 35 undef = x35
  generalize tm.getD 36 undef = x36
  generalize tm.getD 37 undef = x37
  generalize tm.getD 38 undef = x38
  generalize tm.getD 39 undef = x39
  generalize tm.getD 40 undef = x40
  generalize tm.getD 41 undef = x41
  generalize tm.getD 42 undef = x42
  generalize tm.getD 43 undef = x43
  generalize tm.getD 44 undef = x44
  generalize tm.getD 45 undef = x45
  generalize tm.getD 46 undef = x46
  generalize tm.getD 47 undef = x47
  generalize tm.getD 48 undef = x48
  generalize tm.getD 49 undef = x49
  generalize tm.getD 50 undef = x50
  generalize tm.getD 51 undef = x51
  generalize tm.getD 52 undef = x52
  generalize tm.getD 53 undef = x53
  generalize tm.getD 54 undef = x54
  generalize tm.getD 55 undef = x55
  generalize tm.getD 56 undef = x56
  generalize tm.getD 57 undef = x57
  generalize tm.getD 58 undef = x58
  generalize tm.getD 59 undef = x59
  generalize tm.getD 60 undef = x60
  generalize tm.getD 61 undef = x61
  generalize tm.getD 62 undef = x62
  generalize tm.getD 63 undef = x63
  generalize tm.getD 64 undef = x64
  generalize tm.getD 65 undef = x65
  generalize tm.getD 66 undef = x66
  generalize tm.getD 67 undef = x67
  generalize tm.getD 68 undef = x68
  generalize tm.getD 69 undef = x69
  generalize tm.getD 70 undef = x70
  generalize tm.getD 71 undef = x71
  generalize tm.getD 72 undef = x72
  generalize tm.getD 73 undef = x73
  have hW' := Lib.hid hW
  clear hW
  have e : w.heap.size = W.heap.size := by rw [hW'.out.1]
  have e' := Lib.hid e
  clear e
  simp only [c40, body4, Try.f4, Option.getD_some]
  go_wp2
  refine ⟨rfl, ⟨rfl, rfl, ?_, trivial⟩, ?_, ?_, ?_⟩
  · show Value.pointer (some ⟨w.heap.size, 0, none⟩) = _
    rw [e'.out]
  · refine Old.alloc (o := _) ⟨by rw [e'.out]; omega, hW'.out.2.1, hW'.out.2.2, fun b _ _ => by rw [hW'.out.1]⟩
  · rw [← e'.out]; exact alloc_new
  · rw [alloc_size, e'.out]

set_option maxRecDepth 100000 in
theorem p41 {W w : World} {b1 : Option Addr} {n c1 : Nat} {vs : List Value} {pc : Int} {a : Act} (hs : a.tmps.size = 74) (hl : SlotsL [(0, .slice b1 n c1), (1, .int .u64 pc), (4, .pointer (some ⟨W.heap.size, 0, none⟩))] a.tmps) (hd : a.defers = []) (h1 : Old W w (fun _ => False)) (h2 : w.heap[W.heap.size]? = some (.cells #[.int .u64 pc] 24 (0, 0))) (h3 : w.heap.size = W.heap.size + 1) :
    c41.wp Try.prog (fun e a' w' => e = .normal ∧ K42 W b1 n c1 vs pc a' w') a w := by
  obtain ⟨tm, df⟩ := a
  obtain rfl : df = [] := hd
  have hs0 : tm.size = 74 := hs
  have ht := arr_full hs0
  obtain ⟨e0, e1, e4, _⟩ := hl
  simp only [List.range, List.range.loop, List.map] at ht
  rw [ht]
  rw [show tm.getD 0 undef = .slice b1 n c1 from e0]
  rw [show tm.getD 1 undef = .int .u64 pc from e1]
  rw [show tm.getD 4 undef = .pointer (some ⟨W.heap.size, 0, none⟩) from e4]
  clear ht hs hs0 e0 e1 e4
  generalize tm.getD 2 undef = x2
  generalize tm.getD 3 undef = x3
  generalize tm.getD 5 undef = x5
  generalize tm.getD 6 undef = x6
  generalize tm.getD 7 undef = x7
  generalize tm.getD 8 undef = x8
  generalize tm.getD 9 undef = x9
  generalize tm.getD 10 undef = x10
  generalize tm.getD 11 undef = x11
  generalize tm.getD 12 undef = x12
  generalize tm.getD 13 undef = x13
  generalize tm.getD 14 undef = x14
  generalize tm.getD 15 undef = x15
  generalize tm.getD 16 undef = x16
  generalize tm.getD 17 undef = x17
  generalize tm.getD 18 undef = x18
  generalize tm.getD 19 undef = x19
  generalize tm.getD 20 undef = x20
  generalize tm.getD 21 undef = x21
  generalize tm.getD 22 undef = x22
  generalize tm.getD 23 undef = x23
  generalize tm.getD 24 undef = x24
  generalize tm.getD 25 undef = x25
  generalize tm.getD 26 undef = x26
  generalize tm.getD 27 undef = x27
  generalize tm.getD 28 undef = x28
  generalize tm.getD 29 undef = x29
  generalize tm.getD 30 undef = x30
  generalize tm.getD 31 undef = x31
  generalize tm.getD 32 undef = x32
  generalize tm.getD 33 undef = x33
  generalize tm.getD 34 undef = x34
  generalize tm.getD 35 undef = x35
  generalize tm.getD 36 undef = x36
  generalize tm.getD 37 undef = x37
  generalize tm.getD 38 undef = x38
  generalize tm.getD 39 undef = x39
  generalize tm.getD 40 undef = x40
  generalize tm.getD 41 undef = x41
  generalize tm.getD 42 undef = x42
  generalize tm.getD 43 undef = x43
  generalize tm.getD 44 undef = x44
  generalize tm.getD 45 undef = x45
  generalize tm.getD 46 undef = x46
  generalize tm.getD 47 undef = x47
  generalize tm.getD 48 undef = x48
  generalize tm.getD 49 undef = x49
  generalize tm.getD 50 undef = x50
  generalize tm.getD 51 undef = x51
  generalize tm.getD 52 undef = x52
  generalize tm.getD 53 undef = x53
  generalize tm.getD 54 undef = x54
  generalize tm.getD 55 undef = x55
  generalize tm.getD 56 undef = x56
  generalize tm.getD 57 undef = x57
  generalize tm.getD 58 undef = x58
  generalize tm.getD 59 undef = x59
  generalize tm.getD 60 undef = x60
  generalize tm.getD 61 undef = x61
  generalize tm.getD 62 undef = x62
  generalize tm.getD 63 undef = x63
  generalize tm.getD 64 undef = x64
  generalize tm.getD 65 undef = x65
  generalize tm.getD 66 undef = x66
  generalize tm.getD 67 undef = x67
  generalize tm.getD 68 undef = x68
  generalize tm.getD 69 undef = x69
  generalize tm.getD 70 undef = x70
  generalize tm.getD 71 undef = x71
  generalize tm.getD 72 undef = x72
  generalize tm.getD 73 undef = x73
  have h1' := Lib.hid h1
  have h2' := Lib.hid h2
  have h3' := Lib.hid h3
  clear h1 h2 h3
  simp only [c41, s41, body4, Try.f4, Option.getD_some]
  go_wp2
  refine ⟨rfl, ⟨rfl, rfl, rfl, ?_, trivial⟩, h1'.out.alloc _, ?_, ?_⟩
  · show Value.pointer (some ⟨w.heap.size, 0, none⟩) = _
    rw [h3'.out]
  · exact (alloc_old (lt_of_heap h2'.out)).trans h2'.out
  · rw [← h3'.out]; exact alloc_new

set_option maxRecDepth 100000 in
theorem p42 {W w : World} {b1 : Option Addr} {n c1 : Nat} {vs : List Value} {pc : Int} {a : Act} (hs : a.tmps.size = 74) (hl : SlotsL [(0, .slice b1 n c1), (1, .int .u64 pc), (4, .pointer (some ⟨W.heap.size, 0, none⟩)), (7, .pointer (some ⟨W.heap.size + 1, 0, none⟩))] a.tmps) (hd : a.defers = []) (hin : In4 W b1 n c1 vs) (h2 : Two4 W pc 0 w) :
    c42.wp Try.prog (fun e a' w' => e = .normal ∧ K43E W b1 n c1 vs pc a' w') a w := by
  obtain ⟨tm, df⟩ := a
  obtain rfl : df = [] := hd
  have hs0 : tm.size = 74 := hs
  have ht := arr_full hs0
  obtain ⟨e0, e1, e4, e7, _⟩ := hl
  simp only [List.range, List.range.loop, List.map] at ht
  rw [ht]
  rw [show tm.getD 0 undef = .slice b1 n c1 from e0]
  rw [show tm.getD 1 undef = .int .u64 pc from e1]
  rw [show tm.getD 4 undef = .pointer (some ⟨W.heap.size, 0, none⟩) from e4]
  rw [show tm.getD 7 undef = .pointer (some ⟨W.heap.size + 1, 0, none⟩) from e7]
  clear ht hs hs0 e0 e1 e4 e7
  generalize tm.getD 2 undef = x2
  generalize tm.getD 3 undef = x3
  generalize tm.getD 5 undef = x5
  generalize tm.getD 6 undef = x6
  generalize tm.getD 8 undef = x8
  generalize tm.getD 9 undef = x9
  generalize tm.getD 10 undef = x10
  generalize tm.getD 11 undef = x11
  generalize tm.getD 12 undef = x12
  generalize tm.getD 13 undef = x13
  generalize tm.getD 14 undef = x14
  generalize tm.getD 15 undef = x15
  generalize tm.getD 16 undef = x16
  generalize tm.getD 17 undef = x17
  generalize tm.getD 18 undef = x18
  generalize tm.getD 19 undef = x19
  generalize tm.getD 20 undef = x20
  generalize tm.getD 21 undef = x21
  generalize tm.getD 22 undef = x22
  generalize tm.getD 23 undef = x23
  generalize tm.getD 24 undef = x24
  generalize tm.getD 25 undef = x25
  generalize tm.getD 26 undef = x26
  generalize tm.getD 27 undef = x27
  generalize tm.getD 28 undef = x28
  generalize tm.getD 29 undef = x29
  generalize tm.getD 30 undef = x30
  generalize tm.getD 31 undef = x31
  generalize tm.getD 32 undef = x32
  generalize tm.getD 33 undef = x33
  generalize tm.getD 34 undef = x34
  generalize tm.getD 35 undef = x35
  generalize tm.getD 36 undef = x36
  generalize tm.getD 37 undef = x37
  generalize tm.getD 38 undef = x38
  generalize tm.getD 39 undef = x39
  generalize tm.getD 40 undef = x40
  generalize tm.getD 41 undef = x41
  generalize tm.getD 42 undef = x42
  generalize tm.getD 43 undef = x43
  generalize tm.getD 44 undef = x44
  generalize tm.getD 45 undef = x45
  generalize tm.getD 46 undef = x46
  generalize tm.getD 47 undef = x47
  generalize tm.getD 48 undef = x48
  generalize tm.getD 49 undef = x49
  generalize tm.getD 50 undef = x50
  generalize tm.getD 51 undef = x51
  generalize tm.getD 52 undef = x52
  generalize tm.getD 53 undef = x53
  generalize tm.getD 54 undef = x54
  generalize tm.getD 55 undef = x55
  generalize tm.getD 56 undef = x56
  generalize tm.getD 57 undef = x57
  generalize tm.getD 58 undef = x58
  generalize tm.getD 59 undef = x59
  generalize tm.getD 60 undef = x60
  generalize tm.getD 61 undef = x61
  generalize tm.getD 62 undef = x62
  generalize tm.getD 63 undef = x63
  generalize tm.getD 64 undef = x64
  generalize tm.getD 65 undef = x65
  generalize tm.getD 66 undef = x66
  generalize tm.getD 67 undef = x67
  generalize tm.getD 68 undef = x68
  generalize tm.getD 69 undef = x69
  generalize tm.getD 70 undef = x70
  generalize tm.getD 71 undef = x71
  generalize tm.getD 72 undef = x72
  generalize tm.getD 73 undef = x73
  have hu := Lib.hid (until_calls (w := w) (c1 := c1) (ab := W.heap.size + 1) (pb := W.heap.size) (pc := pc) hin.len hin.recs (hin.row.mono h2.old) hin.room hin.cap hin.base (fun g o e hn => by
    obtain ⟨v, hv⟩ : ∃ v, vs[0]? = some v := ⟨vs[0]'(by rw [hin.len]; exact hn), List.getElem?_eq_getElem _⟩
    obtain ⟨o', q', e', hlt, _⟩ := hin.row 0 v hv
    rw [e] at e'
    cases e'
    omega) h2.asked (by simp [World.cell?, h2.pc]) (lt_of_heap h2.pc) (by omega))
  have h2' := Lib.hid h2
  clear h2 hin
  simp only [c42, s42, s41, body4, Try.f4, Option.getD_some]
  go_wp2_with (go_at_call 11; refine hu.out.mono ?_; rintro e w1 ⟨v, m, found, rfl, hcut, hrows, hold, hask⟩; have hc' := Lib.hid hcut; clear hcut; have hr' := Lib.hid hrows; clear hrows; have ho' := Lib.hid hold; clear hold; have ha' := Lib.hid hask; clear hask)
  refine ⟨v, m, found, rfl, ⟨rfl, rfl, rfl, rfl, rfl, rfl, trivial⟩, ⟨?_, ?_, ha'.out⟩, hc'.out, hr'.out⟩
  · refine ⟨Nat.le_trans h2'.out.old.size ho'.out.size, ho'.out.os.trans h2'.out.old.os, ho'.out.output.trans h2'.out.old.output, fun b hb _ => ?_⟩
    rw [ho'.out.block b (Nat.lt_of_lt_of_le hb h2'.out.old.size) (by omega)]
    exact h2'.out.old.block b hb id
  · exact (ho'.out.block _ (lt_of_heap h2'.out.pc) (by omega)).trans h2'.out.pc

set_option maxRecDepth 100000 in
theorem p43 {W w : World} {b1 : Option Addr} {n c1 : Nat} {vs : List Value} {pc : Int} {v : Value} {m : Nat} {found : Bool} {a : Act} (hs : a.tmps.size = 74) (hl : SlotsL [(0, .slice b1 n c1), (1, .int .u64 pc), (4, .pointer (some ⟨W.heap.size, 0, none⟩)), (7, .pointer (some ⟨W.heap.size + 1, 0, none⟩)), (8, v), (9, .bool found)] a.tmps) (hd : a.defers = []) (hin : In4 W b1 n c1 vs) (h2 : Two4 W pc m w) (hcut : Cut pc vs m found) (hrows : Rows w v (vs.take m)) :
    c43.wp Try.prog (fun e a' w' => e = .normal ∧ ∃ v2, K44 W b1 n c1 vs pc v m found v2 a' w') a w := by
  obtain ⟨tm, df⟩ := a
  obtain rfl : df = [] := hd
  have hs0 : tm.size = 74 := hs
  have ht := arr_full hs0
  obtain ⟨e0, e1, e4, e7, e8, e9, _⟩ := hl
  simp only [List.range, List.range.loop, List.map] at ht
  rw [ht]
  rw [show tm.getD 0 undef = .slice b1 n c1 from e0]
  rw [show tm.getD 1 undef = .int .u64 pc from e1]
  rw [show tm.getD 4 undef = .pointer (some ⟨W.heap.size, 0, none⟩) from e4]
  rw [show tm.getD 7 undef = .pointer (some ⟨W.heap.size + 1, 0, none⟩) from e7]
  rw [show tm.getD 8 undef = v from e8]
  rw [show tm.getD 9 undef = .bool found from e9]
  clear ht hs hs0 e0 e1 e4 e7 e8 e9
  generalize tm.getD 2 undef = x2
  generalize tm.getD 3 undef = x3
  generalize tm.getD 5 undef = x5
  generalize tm.getD 6 undef = x6
  generalize tm.getD 10 undef = x10
  generalize tm.getD 11 undef = x11
  generalize tm.getD 12 undef = x12
  generalize tm.getD 13 undef = x13
  generalize tm.getD 14 undef = x14
  generalize tm.getD 15 undef = x15
  generalize tm.getD 16 undef = x16
  generalize tm.getD 17 undef = x17
  generalize tm.getD 18 undef = x18
  generalize tm.getD 19 undef = x19
  generalize tm.getD 20 undef = x20
  generalize tm.getD 21 undef = x21
  generalize tm.getD 22 undef = x22
  generalize tm.getD 23 undef = x23
  generalize tm.getD 24 undef = x24
  generalize tm.getD 25 undef = x25
  generalize tm.getD 26 undef = x26
  generalize tm.getD 27 undef = x27
  generalize tm.getD 28 undef = x28
  generalize tm.getD 29 undef = x29
  generalize tm.getD 30 undef = x30
  generalize tm.getD 31 undef = x31
  generalize tm.getD 32 undef = x32
  generalize tm.getD 33 undef = x33
  generalize tm.getD 34 undef = x34
  generalize tm.getD 35 undef = x35
  generalize tm.getD 36 undef = x36
  generalize tm.getD 37 undef = x37
  generalize tm.getD 38 undef = x38
  generalize tm.getD 39 undef = x39
  generalize tm.getD 40 undef = x40
  generalize tm.getD 41 undef = x41
  generalize tm.getD 42 undef = x42
  generalize tm.getD 43 undef = x43
  generalize tm.getD 44 undef = x44
  generalize tm.getD 45 undef = x45
  generalize tm.getD 46 undef = x46
  generalize tm.getD 47 undef = x47
  generalize tm.getD 48 undef = x48
  generalize tm.getD 49 undef = x49
  generalize tm.getD 50 undef = x50
  generalize tm.getD 51 undef = x51
  generalize tm.getD 52 undef = x52
  generalize tm.getD 53 undef = x53
  generalize tm.getD 54 undef = x54
  generalize tm.getD 55 undef = x55
  generalize tm.getD 56 undef = x56
  generalize tm.getD 57 undef = x57
  generalize tm.getD 58 undef = x58
  generalize tm.getD 59 undef = x59
  generalize tm.getD 60 undef = x60
  generalize tm.getD 61 undef = x61
  generalize tm.getD 62 undef = x62
  generalize tm.getD 63 undef = x63
  generalize tm.getD 64 undef = x64
  generalize tm.getD 65 undef = x65
  generalize tm.getD 66 undef = x66
  generalize tm.getD 67 undef = x67
  generalize tm.getD 68 undef = x68
  generalize tm.getD 69 undef = x69
  generalize tm.getD 70 undef = x70
  generalize tm.getD 71 undef = x71
  generalize tm.getD 72 undef = x72
  generalize tm.getD 73 undef = x73
  have hu := Lib.hid (until_nil (w := w) (c1 := c1) hin.len hin.recs (hin.row.mono h2.old) hin.room hin.cap hin.base)
  have h2' := Lib.hid h2
  have hc' := Lib.hid hcut
  have hr' := Lib.hid hrows
  clear h2 hin hcut hrows
  simp only [c43, s43, s42, s41, body4, Try.f4, Option.getD_some]
  go_wp2_with (go_at_call 11; refine hu.out.mono ?_; rintro e w1 ⟨v2, rfl, hrows, hold⟩; have hr2' := Lib.hid hrows; clear hrows; have ho' := Lib.hid hold; clear hold)
  exact ⟨v2, rfl, ⟨rfl, rfl, rfl, rfl, rfl, rfl, rfl, rfl, trivial⟩, h2'.out.on ho'.out, hc'.out, hr'.out.on ho'.out, hr2'.out⟩

set_option maxRecDepth 100000 in
theorem p44 {W w : World} {b1 : Option Addr} {n c1 : Nat} {vs : List Value} {pc : Int} {v v2 : Value} {m : Nat} {found : Bool} {a : Act} (hs : a.tmps.size = 74) (hl : SlotsL [(0, .slice b1 n c1), (1, .int .u64 pc), (4, .pointer (some ⟨W.heap.size, 0, none⟩)), (7, .pointer (some ⟨W.heap.size + 1, 0, none⟩)), (8, v), (9, .bool found), (10, v2), (11, .bool false)] a.tmps) (hd : a.defers = []) (h2 : Two4 W pc m w) (hcut : Cut pc vs m found) (hrows : Rows w v (vs.take m)) (hrows2 : Rows w v2 vs) :
    c44.wp Try.prog (fun e a' w' => e = .normal ∧ K45 W b1 n c1 vs pc v m found v2 a' w') a w := by
  obtain ⟨tm, df⟩ := a
  obtain rfl : df = [] := hd
  have hs0 : tm.size = 74 := hs
  have ht := arr_full hs0
  obtain ⟨e0, e1, e4, e7, e8, e9, e10, e11, _⟩ := hl
  simp only [List.range, List.range.loop, List.map] at ht
  rw [ht]
  rw [show tm.getD 0 undef = .slice b1 n c1 from e0]
  rw [show tm.getD 1 undef = .int .u64 pc from e1]
  rw [show tm.getD 4 undef = .pointer (some ⟨W.heap.size, 0, none⟩) from e4]
  rw [show tm.getD 7 undef = .pointer (some ⟨W.heap.size + 1, 0, none⟩) from e7]
  rw [show tm.getD 8 undef = v from e8]
  rw [show tm.getD 9 undef = .bool found from e9]
  rw [show tm.getD 10 undef = v2 from e10]
  rw [show tm.getD 11 undef = .bool false from e11]
  clear ht hs hs0 e0 e1 e4 e7 e8 e9 e10 e11
  generalize tm.getD 2 undef = x2
  generalize tm.getD 3 undef = x3
  generalize tm.getD 5 undef = x5
  generalize tm.getD 6 undef = x6
  generalize tm.getD 12 undef = x12
  generalize tm.getD 13 undef = x13
  generalize tm.getD 14 undef = x14
  generalize tm.getD 15 undef = x15
  generalize tm.getD 16 undef = x16
  generalize tm.getD 17 undef = x17
  generalize tm.getD 18 undef = x18
  generalize tm.getD 19 undef = x19
  generalize tm.getD 20 undef = x20
  generalize tm.getD 21 undef = x21
  generalize tm.getD 22 undef = x22
  generalize tm.getD 23 undef = x23
  generalize tm.getD 24 undef = x24
  generalize tm.getD 25 undef = x25
  generalize tm.getD 26 undef = x26
  generalize tm.getD 27 undef = x27
  generalize tm.getD 28 undef = x28
  generalize tm.getD 29 undef = x29
  generalize tm.getD 30 undef = x30
  generalize tm.getD 31 undef = x31
  generalize tm.getD 32 undef = x32
  generalize tm.getD 33 undef = x33
  generalize tm.getD 34 undef = x34
  generalize tm.getD 35 undef = x35
  generalize tm.getD 36 undef = x36
  generalize tm.getD 37 undef = x37
  generalize tm.getD 38 undef = x38
  generalize tm.getD 39 undef = x39
  generalize tm.getD 40 undef = x40
  generalize tm.getD 41 undef = x41
  generalize tm.getD 42 undef = x42
  generalize tm.getD 43 undef = x43
  generalize tm.getD 44 undef = x44
  generalize tm.getD 45 undef = x45
  generalize tm.getD 46 undef = x46
  generalize tm.getD 47 undef = x47
  generalize tm.getD 48 undef = x48
  generalize tm.getD 49 undef = x49
  generalize tm.getD 50 undef = x50
  generalize tm.getD 51 undef = x51
  generalize tm.getD 52 undef = x52
  generalize tm.getD 53 undef = x53
  generalize tm.getD 54 undef = x54
  generalize tm.getD 55 undef = x55
  generalize tm.getD 56 undef = x56
  generalize tm.getD 57 undef = x57
  generalize tm.getD 58 undef = x58
  generalize tm.getD 59 undef = x59
  generalize tm.getD 60 undef = x60
  generalize tm.getD 61 undef = x61
  generalize tm.getD 62 undef = x62
  generalize tm.getD 63 undef = x63
  generalize tm.getD 64 undef = x64
  generalize tm.getD 65 undef = x65
  generalize tm.getD 66 undef = x66
  generalize tm.getD 67 undef = x67
  generalize tm.getD 68 undef = x68
  generalize tm.getD 69 undef = x69
  generalize tm.getD 70 undef = x70
  generalize tm.getD 71 undef = x71
  generalize tm.getD 72 undef = x72
  generalize tm.getD 73 undef = x73
  have h2' := Lib.hid h2
  have hc' := Lib.hid hcut
  have hr' := Lib.hid hrows
  have hr2' := Lib.hid hrows2
  clear h2 hcut hrows hrows2
  simp only [c44, s44, s43, s42, s41, body4, Try.f4, Option.getD_some]
  go_wp2
  exact ⟨rfl, ⟨rfl, rfl, rfl, rfl, rfl, rfl, rfl, rfl, rfl, rfl, trivial⟩, h2'.out, hc'.out, hr'.out, hr2'.out⟩
end Go.Proofs.Ytofoplpnpfaofaa
