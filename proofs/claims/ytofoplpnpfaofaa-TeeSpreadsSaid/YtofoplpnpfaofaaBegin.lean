/- What is proved here: the start of Spread: its own copy, its two channels. No condition beside the copy's contract. -/
import Derived.Test.YtofoplpnpfaofaaEnds
import Derived.RegionTactic
import Derived.WalkKit
set_option linter.unusedSimpArgs false
set_option linter.unusedVariables false
namespace Go.Proofs.Ytofoplpnpfaofaa
open Go Go.Conc Go.RowKit

noncomputable def ops4 : Array Oper := match body7 with | .seq _ (.seq _ (.seq _ (.seq (.region _ ops _) _))) => ops | _ => #[]

/-- Behind the drawn region. -/
def Two (w : World) (n room : Nat) (own : Value) (a' : Act) (w' : World) : Prop :=
  ∃ (sb tb : Nat) (T : Nat → Value), a' = ⟨#[T 0, .int .i64 n, .int .i64 room, T 3, T 4, T 5, T 6, T 7, own, .chan (some sb), .chan (some tb), T 11, T 12, T 13, T 14, T 15, T 16, T 17, T 18, T 19, T 20, T 21, T 22, T 23, T 24, T 25, T 26, T 27, T 28, T 29, T 30, T 31, T 32, T 33, T 34, T 35, T 36, T 37, T 38, T 39, T 40, T 41, T 42, T 43, T 44, T 45, T 46, T 47, T 48, T 49, T 50, T 51, T 52, T 53, T 54, T 55, T 56, T 57, T 58, T 59, T 60, T 61], []⟩ ∧ w.heap.size ≤ sb ∧ w.heap.size ≤ tb ∧ tb ≠ sb ∧ w'.heap[sb]? = some (.chan 0 #[] false 0 0 false) ∧ w'.heap[tb]? = some (.chan 0 #[] false 0 0 false) ∧
    w.heap.size ≤ w'.heap.size ∧ w'.os = w.os ∧ w'.output = w.output ∧ ∀ b, b < w.heap.size → w'.heap[b]? = w.heap[b]?

theorem two_mk (w : World) {n room sb tb : Nat} {own : Value} (T : Nat → Value) (w' : World) (hw : w'.heap = (w.heap.push (.chan 0 #[] false 0 0 false)).push (.chan 0 #[] false 0 0 false)) (ho : w'.os = w.os) (hp : w'.output = w.output)
    (hs : (sb = w.heap.size ∧ tb = w.heap.size + 1) ∨ (tb = w.heap.size ∧ sb = w.heap.size + 1)) : Two w n room own ⟨#[T 0, .int .i64 n, .int .i64 room, T 3, T 4, T 5, T 6, T 7, own, .chan (some sb), .chan (some tb), T 11, T 12, T 13, T 14, T 15, T 16, T 17, T 18, T 19, T 20, T 21, T 22, T 23, T 24, T 25, T 26, T 27, T 28, T 29, T 30, T 31, T 32, T 33, T 34, T 35, T 36, T 37, T 38, T 39, T 40, T 41, T 42, T 43, T 44, T 45, T 46, T 47, T 48, T 49, T 50, T 51, T 52, T 53, T 54, T 55, T 56, T 57, T 58, T 59, T 60, T 61], []⟩ w' := by
  have h0 : w'.heap[w.heap.size]? = some (.chan 0 #[] false 0 0 false) := by rw [hw, Array.getElem?_push_lt (by simp)]; simp
  have h1 : w'.heap[w.heap.size + 1]? = some (.chan 0 #[] false 0 0 false) := by
    have : (w.heap.push (Obj.chan 0 #[] false 0 0 false)).size = w.heap.size + 1 := by simp
    rw [hw, ← this, Array.getElem?_push_size]
  refine ⟨sb, tb, T, rfl, by omega, by omega, by omega, ?_, ?_, by rw [hw]; simp; omega, ho, hp, fun b hb => ?_⟩
  · rcases hs with ⟨rfl, _⟩ | ⟨_, rfl⟩ <;> assumption
  · rcases hs with ⟨_, rfl⟩ | ⟨rfl, _⟩ <;> assumption
  · rw [hw, Array.getElem?_push_lt (by simp; omega), Array.getElem_push_lt hb, Array.getElem?_eq_getElem hb]

theorem info48' : (Try.prog.info? 48).map (fun i => i.bytes) = some 32 := by kernel_rfl
theorem mk42 (w : World) : (Instr.makeChan 42 (.int .i64 0)).run Try.prog w = .ok (.chan (some w.heap.size)) (w.alloc (.chan 0 #[] false 0 0 false)) := by
  obtain ⟨i, hi, _, _, hb⟩ := info_parts info55
  have := run_makeChan (P := Try.prog) (w := w) Try.underlying42 hi .i64 0 (by omega) (by rw [hb]; omega)
  simpa using this
theorem mk43 (w : World) : (Instr.makeChan 43 (.int .i64 0)).run Try.prog w = .ok (.chan (some w.heap.size)) (w.alloc (.chan 0 #[] false 0 0 false)) := by
  obtain ⟨i, hi, _, _, hb⟩ := info_parts info48
  have := run_makeChan (P := Try.prog) (w := w) Try.underlying43 hi .i64 0 (by omega) (by rw [hb]; omega)
  simpa using this

set_option maxRecDepth 100000 in
theorem wp4 (n room : Nat) (own : Value) (T : Nat → Value) (w w0 : World) (hh : w0.heap = w.heap) (ho : w0.os = w.os) (hp : w0.output = w.output) : (Code.region 4 ops4 true).wp Try.prog (fun e a' w' => e = .normal ∧ Two w n room own a' w') ⟨#[T 0, .int .i64 n, .int .i64 room, T 3, T 4, T 5, T 6, T 7, own, T 9, T 10, T 11, T 12, T 13, T 14, T 15, T 16, T 17, T 18, T 19, T 20, T 21, T 22, T 23, T 24, T 25, T 26, T 27, T 28, T 29, T 30, T 31, T 32, T 33, T 34, T 35, T 36, T 37, T 38, T 39, T 40, T 41, T 42, T 43, T 44, T 45, T 46, T 47, T 48, T 49, T 50, T 51, T 52, T 53, T 54, T 55, T 56, T 57, T 58, T 59, T 60, T 61], []⟩ w0 := by
  have h42 := mk42
  have h43 := mk43
  simp only [ops4, body7, Try.f7, Option.getD_some]
  go_region
  · exact ⟨rfl, two_mk w (sb := w.heap.size) (tb := w.heap.size + 1) (fun q => match q with | 31 => .chan (some w.heap.size) | 32 => .chan (some (w.heap.size + 1)) | q => T q) _ (by show (w0.heap.push _).push _ = _; rw [hh]) ho hp (.inl ⟨rfl, rfl⟩)⟩
  · exact ⟨rfl, two_mk w (sb := w.heap.size + 1) (tb := w.heap.size) (fun q => match q with | 31 => .chan (some (w.heap.size + 1)) | 32 => .chan (some w.heap.size) | q => T q) _ (by show (w0.heap.push _).push _ = _; rw [hh]) ho hp (.inr ⟨rfl, rfl⟩)⟩

theorem stepG_callG {P : Program} {main : Bool} {b : Frame} {a : Act} {k : List Item} {cs : List Frame} {ops : Array Oper} {i : Nat} {rest : List Nat} {o : Oper} {f : FuncId} {fn : Func} {args : Array Operand} {ats : Array TypeId} (ho : ops[i]? = some o) (hw : Region.wanted o (yielded ops a.tmps) = true) (hk : b.kind ≠ .early)
    (hop : o.op = .call { callee := .value (.func f), args, argTypes := ats }) (hf : P.funcs[f]? = some fn) (hname : (fn.name == "runtime.NumGoroutine") = false) (hb : fn.body.isNone = false) (w : World) :
    stepG P main (G (b.at a (.inRegion ops (i :: rest) :: k)) cs) w = .go (G (Frame.enter P f (args.map a.eval) .normal) (b.at a (.inRegion ops (i :: rest) :: k) :: cs)) w #[] := by
  rw [stepG_enter ho hw hk (run_call_body hop hf hname hb), listed_none (events_call_body hop hf hname hb _)]

theorem ok4c : codeOk Qp [] (.region 4 ops4 true) = true := by kernel_rfl
theorem ok4 (T : Array Value) : OKs Qp ((base 7).at ⟨T, []⟩ [.code (.region 4 ops4 true)]) [] := by
  refine ⟨⟨[], rfl, rfl, rfl, rfl, by simp, fun it hit => ?_⟩, by simp⟩
  have : it = .code (.region 4 ops4 true) := List.mem_singleton.1 hit
  subst this
  exact ok4c

set_option maxRecDepth 100000 in
/-- The start of Spread. -/
theorem spread_begin {n room : Nat} {lv : Value} {c : Frame} {cs : List Frame} {w : World} {RC : Value → World → Prop} (hn : 0 < n ∧ n ≤ 16) (hroom : room ≤ 64) 
    (hC : ∀ (c : Frame) (cs : List Frame), GoesI Try.prog (fun g w' => ∃ v, g = G (c.finish v) cs ∧ RC v w') (G (Frame.enter Try.prog 14 #[lv] .normal) (c :: cs)) w) :
    GoesI Try.prog (fun g w' => ∃ own w1 sb tb T, g = at5 n room sb tb own T (c :: cs) ∧ RC own w1 ∧ tb ≠ sb ∧ w1.heap.size ≤ sb ∧ w1.heap.size ≤ tb ∧ w'.heap[sb]? = some (.chan 0 #[] false 0 0 false) ∧ w'.heap[tb]? = some (.chan 0 #[] false 0 0 false) ∧
      w1.heap.size ≤ w'.heap.size ∧ w'.os = w1.os ∧ w'.output = w1.output ∧ ∀ b, b < w1.heap.size → w'.heap[b]? = w1.heap[b]?) (G (Frame.enter Try.prog 7 #[lv, .int .i64 n, .int .i64 room] .normal) (c :: cs)) w := by
  have hent : Frame.enter Try.prog 7 #[lv, .int .i64 n, .int .i64 room] .normal = (base 7).at ⟨#[lv, .int .i64 n, .int .i64 room, undef, undef, undef, undef, undef, undef, undef, undef, undef, undef, undef, undef, undef, undef, undef, undef, undef, undef, undef, undef, undef, undef, undef, undef, undef, undef, undef, undef, undef, undef, undef, undef, undef, undef, undef, undef, undef, undef, undef, undef, undef, undef, undef, undef, undef, undef, undef, undef, undef, undef, undef, undef, undef, undef, undef, undef, undef, undef, undef], []⟩ [.code body7] := by
    simp [Frame.enter, Frame.at, Try.func7, base, Try.f7, body7]
  rw [hent]
  simp only [body7, Try.f7, Option.getD_some]
  refine GoesI.ctl rfl (fun w => stepG_seq) ?_
  refine GoesI.ctl rfl (fun w => stepG_region) ?_
  simp only [List.size_toArray, List.length_cons, List.length_nil, Nat.reduceAdd, Nat.zero_add, List.range, List.range.loop]
  refine GoesI.val (.slice none 0 0) rfl rfl (by decide) (fun w => by go_simp) (fun w => by simp [go_sem]) ?_
  walk_nrm
  refine GoesI.val (.int .i64 0) rfl rfl (by decide) (fun w => by go_simp) (fun w => by simp [go_sem]) ?_
  walk_nrm
  refine GoesI.ctl rfl (fun w => stepG_region_end) ?_
  refine GoesI.ctl rfl (fun w => stepG_seq) ?_
  refine GoesI.ctl rfl (fun w => stepG_seq) ?_
  refine GoesI.ctl rfl (fun w => stepG_region) ?_
  simp only [List.size_toArray, List.length_cons, List.length_nil, Nat.reduceAdd, Nat.zero_add, List.range, List.range.loop]
  refine GoesI.val (.int .i64 n) rfl rfl (by decide) (fun w => by go_simp) (fun w => by simp [go_sem]) ?_
  walk_nrm
  refine GoesI.val (.bool false) rfl rfl (by decide) (fun w => by go_simp; first | done | omega | (simp; omega)) (fun w => by simp [go_sem]) ?_
  walk_nrm
  refine GoesI.val (.bool false) rfl rfl (by decide) (fun w => by go_simp) (fun w => by simp [go_sem]) ?_
  walk_nrm
  refine GoesI.val (.int .i64 n) rfl rfl (by decide) (fun w => by go_simp) (fun w => by simp [go_sem]) ?_
  walk_nrm
  refine GoesI.val (.bool false) rfl rfl (by decide) (fun w => by go_simp; first | done | omega | (simp; omega)) (fun w => by simp [go_sem]) ?_
  walk_nrm
  refine GoesI.val (.bool false) rfl rfl (by decide) (fun w => by go_simp) (fun w => by simp [go_sem]) ?_
  walk_nrm
  refine GoesI.val (.bool false) rfl rfl (by decide) (fun w => by go_simp) (fun w => by simp [go_sem]) ?_
  walk_nrm
  refine GoesI.val (.int .i64 room) rfl rfl (by decide) (fun w => by go_simp) (fun w => by simp [go_sem]) ?_
  walk_nrm
  refine GoesI.val (.bool false) rfl rfl (by decide) (fun w => by go_simp; first | done | omega | (simp; omega)) (fun w => by simp [go_sem]) ?_
  walk_nrm
  refine GoesI.val (.bool false) rfl rfl (by decide) (fun w => by go_simp) (fun w => by simp [go_sem]) ?_
  walk_nrm
  refine GoesI.val (.bool false) rfl rfl (by decide) (fun w => by go_simp) (fun w => by simp [go_sem]) ?_
  walk_nrm
  refine GoesI.val (.int .i64 room) rfl rfl (by decide) (fun w => by go_simp) (fun w => by simp [go_sem]) ?_
  walk_nrm
  refine GoesI.val (.bool false) rfl rfl (by decide) (fun w => by go_simp; first | done | omega | (simp; omega)) (fun w => by simp [go_sem]) ?_
  walk_nrm
  refine GoesI.val (.bool false) rfl rfl (by decide) (fun w => by go_simp) (fun w => by simp [go_sem]) ?_
  walk_nrm
  refine GoesI.ctl rfl (fun w => stepG_region_end) ?_
  refine GoesI.ctl rfl (fun w => stepG_cond (t := false) rfl) ?_
  simp only [Bool.false_eq_true, if_false]
  refine GoesI.ctl rfl (fun w => stepG_skip) ?_
  refine GoesI.ctl rfl (fun w => stepG_seq) ?_
  refine GoesI.ctl rfl (fun w => stepG_region) ?_
  simp only [List.size_toArray, List.length_cons, List.length_nil, Nat.reduceAdd, Nat.zero_add, List.range, List.range.loop]
  refine GoesI.val (lv) rfl rfl (by decide) (fun w => by go_simp) (fun w => by simp [go_sem]) ?_
  walk_nrm
  refine GoesI.ctl rfl (fun w => stepG_callG rfl rfl (by decide) rfl Try.func14 (by kernel_rfl) rfl w) ?_
  simp only [List.map_toArray, List.map_cons, List.map_nil]
  refine GoesI.bind (GoesI.mono ?_ (hC _ _))
  rintro g w1 ⟨own, rfl, hRC⟩
  rw [Frame.finish_at]
  walk_nrm
  refine GoesI.val (own) rfl rfl (by decide) (fun w => by go_simp) (fun w => by simp [go_sem]) ?_
  walk_nrm
  refine GoesI.ctl rfl (fun w => stepG_region_end) ?_
  refine GoesI.ctl rfl (fun w => stepG_seq) ?_
  have h4 := piece safeQ (c := .region 4 ops4 true) (b := base 7) (w := w1) (R := Two w1 n room own) (fun a w τ d h => h) (a := ⟨_, []⟩) (ok4 _)
    (fun τ d => wp4 n room own (fun q => #[lv, undef, undef, undef, undef, undef, .slice none 0 0, .int .i64 0, own, undef, undef, undef, undef, undef, undef, .int .i64 n, .bool false, .bool false, .int .i64 n, .bool false, .bool false, .bool false, .int .i64 room, .bool false, .bool false, .bool false, .int .i64 room, .bool false, .bool false, lv, own, undef, undef, undef, undef, undef, undef, undef, undef, undef, undef, undef, undef, undef, undef, undef, undef, undef, undef, undef, undef, undef, undef, undef, undef, undef, undef, undef, undef, undef, undef, undef].getD q undef) w1 (sw w1 τ d) rfl rfl rfl) [.code from5] (c :: cs)
  simp only [ops4, from5, body7, Try.f7, Option.getD_some] at h4
  refine GoesI.mono ?_ h4
  rintro g w2 ⟨a', rfl, ⟨sb, tb, T, rfl, h1, h2, h3, h5, h6, h7, h8, h9, h10⟩, _⟩
  refine ⟨own, w1, sb, tb, T, ?_, hRC, h3, h1, h2, h5, h6, h7, h8, h9, h10⟩
  simp only [at5, from5, body7, Try.f7, Option.getD_some]
end Go.Proofs.Ytofoplpnpfaofaa
