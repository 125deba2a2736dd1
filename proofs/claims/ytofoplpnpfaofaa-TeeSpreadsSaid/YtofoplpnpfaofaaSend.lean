/- What is proved here: tee.send follows a sender's script. Conditions: the row that it reads stands. -/
import Derived.Test.YtofoplpnpfaofaaListen
set_option linter.unusedSimpArgs false
set_option linter.unusedVariables false
namespace Go.Proofs.Ytofoplpnpfaofaa
open Go Go.Conc Go.RowKit

section
variable {X : Cx} {main : Bool} {Stop : Hp → Goroutine → Prop} {n : Nat} {H H' : Hp} {w w' : World} {b : Frame} {a : Act} {k : List Item} {cs : List Frame} {ops : Array Oper} {i : Nat} {rest : List Nat} {o : Oper}

theorem stepG_defer' {P : Program} {d : Deferred} (ho : ops[i]? = some o) (hw : Region.wanted o (yielded ops a.tmps) = true) (hk : b.kind ≠ .early)
    (hr : (execOp a.eval o).run P w = .ok (.defer d) w) (he : (execOp a.eval o).events P w #[] = #[]) :
    stepG P main (G (b.at a (.inRegion ops (i :: rest) :: k)) cs) w = .go (G (b.at (Act.put ⟨a.tmps, d :: a.defers⟩ o.dst undef) (.inRegion ops rest :: k)) cs) w #[] := by
  have hfin : (b.at ⟨a.tmps, d :: a.defers⟩ (.inRegion ops (i :: rest) :: k)).finish undef = b.at (Act.put ⟨a.tmps, d :: a.defers⟩ o.dst undef) (.inRegion ops rest :: k) := by rw [Frame.finish_at, ho]; rfl
  have hk' : (b.kind == CallKind.early) = false := by simpa using hk
  rw [stepG_oper ho hw, ← hfin]
  simp [stepG.apply, hr, he, G, Frame.at, hk', GStep.after, seen_none]

theorem GH.addS {m : Nat} : ∀ {l : Nat} {H : Hp} {g : Goroutine}, GH X main Stop m H g → GH X main Stop (l + m) H g := by
  intro l
  induction l with
  | zero => intro H g h; rw [Nat.zero_add]; exact h
  | succ l ih => intro H g h; rw [show l + 1 + m = l + m + 1 by omega]; exact (ih h).more

/-- One walk behind another. -/
theorem GH.bind {m : Nat} : ∀ {l : Nat} {H : Hp} {g : Goroutine}, GH X main (GH X main Stop m) l H g → GH X main Stop (l + m) H g := by
  intro l
  induction l with
  | zero => intro H g h; rw [Nat.zero_add]; exact h
  | succ l ih =>
    intro H g h
    rcases h with h | ⟨hr, h⟩
    · exact h.addS
    · rw [show l + 1 + m = l + m + 1 by omega]
      refine .inr ⟨hr, fun w hB hH => ?_⟩
      obtain ⟨g', H', w', es, h1, h2, h3⟩ := h w hB hH
      exact ⟨g', H', w', es, h1, h2, ih h3⟩

/-- The deferred 'close'. -/
def closeD (t : TypeId) (c : Nat) : Deferred := { target := .builtin .close #[t] 0 #[false], args := #[.chan (some c)] }

theorem stepG_unwind_close {P : Program} {todo : List Item} {ds : List Deferred} {t : TypeId} {c cap s r : Nat} {buf : Array Value} {tm : Bool} (hd : a.defers = closeD t c :: ds) (hq : (P.funcs[b.fn]?).any (·.norace) = false)
    (hc : w.heap[c]? = some (.chan cap buf false s r tm)) :
    stepG P main (G { b.at a todo with mode := .returning } cs) w = .go (G { b.at ⟨a.tmps, ds⟩ todo with mode := .returning } cs) (w.setChan c cap buf true s r tm) #[⟨.obj c, false, true⟩, ⟨.obj c, true, true⟩] := by
  have hr := run_close_open (P := P) #[t] 0 hc
  have hrr : (invoke (closeD t c).target (closeD t c).args).run P w = .ok (.value (.tuple #[])) (w.setChan c cap buf true s r tm) := by
    simp only [closeD, invoke, builtin, Sem.run_bind, hr, Result.andThen_ok, Sem.run_pure]
    rfl
  have hee : (invoke (closeD t c).target (closeD t c).args).events P w #[] = #[⟨.obj c, false, true⟩, ⟨.obj c, true, true⟩] := by
    simp only [closeD, invoke, builtin, Sem.events_bind, events_close_open #[t] 0 hc, hr, Result.evThen_ok, Sem.events_pure]
    rfl
  have hs : seen P b.fn #[⟨.obj c, false, true⟩, ⟨.obj c, true, true⟩] = #[⟨.obj c, false, true⟩, ⟨.obj c, true, true⟩] := seen_eq hq (fun e he f => by
    simp only [List.mem_toArray, List.mem_cons, List.not_mem_nil, or_false] at he
    rcases he with rfl | rfl <;> simp)
  simp only [closeD] at hd hrr hee
  simp [G, stepG, unwind, callDeferred, Frame.at, hd, hrr, hee, hs, GStep.after]

noncomputable def body16 : Code := Try.f16.body.getD .skip
def sndD (sb : Nat) (own : Value) (c : Nat) : Deferred := dcall 16 #[own, .chan (some c), .chan (some sb)]

theorem born16 (sb c : Nat) (own : Value) (w : World) : stepG Try.prog false (born Try.prog (sndD sb own c)) w =
    .go (G ((baseD 16).at ⟨#[own, .chan (some c), .chan (some sb), undef, undef, undef, undef, undef, undef, undef, undef, undef, undef, undef, undef, undef, undef, undef, undef, undef, undef, undef, undef], []⟩ [.code body16]) [bot]) w #[] := by
  simp [born, sndD, dcall, stepG, unwind, callDeferred, invoke, callFunc, Try.func16, Try.f16, seen, GStep.after, G, Frame.enter, Frame.at, baseD, bot, body16]

theorem quits16 (T : Array Value) : QuitsIn Try.prog 2 (G { (baseD 16).at ⟨T, []⟩ [] with mode := .returning } [bot]) := by
  refine QuitsIn.ctl (g' := G bot []) rfl (fun w => ?_) ?_
  · simp [G, stepG, unwind, doReturn, results, Frame.at, baseD, bot, Try.func16, Try.f16, seen, GStep.after, goexitEntry]
  refine QuitsIn.ctl (g' := { G bot [] with status := .finished }) rfl (fun w => ?_) rfl
  simp [G, stepG, unwind, bot, goexitEntry, Frame.catches]
  rfl

noncomputable def loop16 : Code := match body16 with | .seq _ (.seq _ (.block _ (.loop c))) => c | _ => .skip
noncomputable def in16 : Code := match loop16 with | .seq _ (.seq _ (.seq (.block _ c) _)) => c | _ => .skip
noncomputable def next16 : Code := match loop16 with | .seq _ (.seq _ (.seq _ r)) => r | _ => .skip
noncomputable def sel16 : Code := match in16 with | .seq _ (.seq _ r) => r | _ => .skip
noncomputable def ops16 : Array Oper := match sel16 with | .seq (.region _ ops _) _ => ops | _ => #[]
noncomputable def rest16 : Code := match sel16 with | .seq _ r => r | _ => .skip

/-- A sender at the head of its loop: i are sent. -/
noncomputable def atH (sb c N i : Nat) (own : Value) (T : Fin 14 → Value) : Goroutine :=
  G ((baseD 16).at ⟨#[own, .chan (some c), .chan (some sb), undef, undef, undef, T 0, T 1, .chan (some c), own, .int .i64 N, .int .i64 i, T 2, T 3, T 4, T 5, T 6, T 7, T 8, T 9, T 10, T 11, T 12], [closeD 53 c]⟩ [.code loop16, .inLoop loop16, .inBlock 0]) [bot]

/-- .. at its select, or behind it. -/
noncomputable def atS (sb c N i : Nat) (own : Value) (T : Fin 14 → Value) (v : Value) (rest : List Nat) : Goroutine :=
  G ((baseD 16).at ⟨#[own, .chan (some c), .chan (some sb), undef, undef, undef, T 0, T 1, .chan (some c), own, .int .i64 N, .int .i64 i, T 2, T 3, T 4, .chan (some c), v, .chan (some sb), T 8, T 9, T 10, T 11, T 12], [closeD 53 c]⟩ [.inRegion ops16 rest, .code rest16, .inBlock 1, .code next16, .inLoop loop16, .inBlock 0]) [bot]

/-- What a sender's own walk takes for granted of the phase. -/
structure SndX (X : Cx) (own : Value) (ob oo cap : Nat) : Prop where
  P : X.P = Try.prog
  few : X.vs.length ≤ 999
  own : ∃ base, own = .slice base X.vs.length cap ∧ (0 < X.vs.length → base = some ⟨ob, oo, none⟩)
  lt : ob < X.B0
  recs : ∀ v ∈ X.vs, ∃ cells : Array Value, v = .agg cells ∧ cells.size = 12 ∧ ∀ u ∈ cells.toList, u.oneCell' = true
  read : ∀ w, Bs X w → ∀ i cells, X.vs[i]? = some (.agg cells) → w.rangeAt ob (oo + i * 12) cells.toList

set_option maxRecDepth 100000 in
theorem snd_start {own : Value} {ob oo cap : Nat} (L : SndX X own ob oo cap) (c : Nat) : ∃ m, GH X false (fun H g => H = [] ∧ ∃ T, g = atH X.sb c X.vs.length 0 own T) m [] (born X.P (sndD X.sb own c)) := by
  obtain ⟨base, rfl, hbase⟩ := L.own
  refine ⟨60, ?_⟩
  rw [L.P]
  refine GH.ctl L.P rfl (fun w => born16 _ _ _ w) ?_
  simp only [body16, Try.f16, Option.getD_some]
  refine GH.ctl L.P rfl (fun w => stepG_seq) ?_
  refine GH.ctl L.P rfl (fun w => stepG_region) ?_
  simp only [List.size_toArray, List.length_cons, List.length_nil, Nat.reduceAdd, Nat.zero_add, List.range, List.range.loop]
  refine GH.val L.P (.chan (some c)) rfl rfl (by decide) (fun w => by go_simp) (fun w => by simp [go_sem]) ?_
  walk_nrm
  refine GH.ctl L.P rfl (fun w => stepG_defer' (d := closeD 53 c) rfl rfl (by decide) (by unfold execOp; walk_nrm; simp [resolve, closeD, Act.eval]) (by unfold execOp; walk_nrm; simp [resolve])) ?_
  walk_nrm
  refine GH.ctl L.P rfl (fun w => stepG_region_end) ?_
  refine GH.ctl L.P rfl (fun w => stepG_seq) ?_
  refine GH.ctl L.P rfl (fun w => stepG_region) ?_
  simp only [List.size_toArray, List.length_cons, List.length_nil, Nat.reduceAdd, Nat.zero_add, List.range, List.range.loop]
  refine GH.val L.P (.slice base X.vs.length cap) rfl rfl (by decide) (fun w => by go_simp) (fun w => by simp [go_sem]) ?_
  walk_nrm
  refine GH.val L.P (.int .i64 X.vs.length) rfl rfl (by decide) (fun w => by go_simp) (fun w => by simp [go_sem]) ?_
  walk_nrm
  refine GH.val L.P (.int .i64 0) rfl rfl (by decide) (fun w => by go_simp) (fun w => by simp [go_sem]) ?_
  walk_nrm
  refine GH.ctl L.P rfl (fun w => stepG_region_end) ?_
  refine GH.ctl L.P rfl (fun w => stepG_block) ?_
  refine GH.ctl L.P rfl (fun w => stepG_loop) ?_
  exact GH.stop ⟨rfl, fun _ => undef, rfl⟩

set_option maxRecDepth 100000 in
theorem snd_sel {own : Value} (sb c N i : Nat) (T : Fin 14 → Value) (v : Value) (w : World) : stepG Try.prog false (atS sb c N i own T v [0, 1, 2, 3]) w = .comm (core (atS sb c N i own T v [0, 1, 2, 3])) #[scase c v (.agg zRec), rcase sb (.agg #[])] true .select w #[] := by
  obtain ⟨i27, hi, hz, hs27, hb27⟩ := info_parts info27
  obtain ⟨i55, hi5, hz5, _, _⟩ := info_parts info55
  simp only [atS, ops16, rest16, sel16, in16, next16, loop16, body16, Try.f16, Option.getD_some, Fin.isValue]
  rw [stepG_comm (cases := #[scase c v (.agg zRec), rcase sb (.agg #[])]) (blocking := true) (shape := .select) (w' := w) rfl rfl (by decide) (by unfold execOp; walk_nrm; simp [scase, rcase, zeroValue, typeInfo, hi, hz, hi5, hz5, Act.eval])]
  rw [core_G, listed_none (by unfold execOp; walk_nrm; simp [zeroValue, typeInfo, hi, hz, hi5, hz5])]

set_option maxRecDepth 100000 in
theorem snd_close {own : Value} {ob oo cap : Nat} (L : SndX X own ob oo cap) (c m : Nat) (T : Fin 14 → Value) (H : Hp) : GH X false (AClose X c) (m + 20) H (atH X.sb c X.vs.length X.vs.length own T) := by
  simp only [atH, loop16, body16, Try.f16, Option.getD_some]
  refine GH.ctl L.P rfl (fun w => stepG_seq) ?_
  refine GH.ctl L.P rfl (fun w => stepG_region) ?_
  simp only [List.size_toArray, List.length_cons, List.length_nil, Nat.reduceAdd, Nat.zero_add, List.range, List.range.loop]
  refine GH.val L.P (.bool false) rfl rfl (by decide) (fun w => by go_simp) (fun w => by simp [go_sem]) ?_
  walk_nrm
  refine GH.ctl L.P rfl (fun w => stepG_region_end) ?_
  refine GH.ctl L.P rfl (fun w => stepG_seq) ?_
  refine GH.ctl L.P rfl (fun w => stepG_cond (t := false) rfl) ?_
  simp only [Bool.false_eq_true, if_false]
  refine GH.ctl L.P rfl (fun w => stepG_exit rfl) ?_
  refine GH.ctl L.P rfl (fun w => stepG_end) ?_
  refine GH.stop ⟨rfl, rfl, G { (baseD 16).at ⟨#[own, .chan (some c), .chan (some X.sb), undef, undef, undef, T 0, T 1, .chan (some c), own, .int .i64 X.vs.length, .int .i64 X.vs.length, .bool false, T 3, T 4, T 5, T 6, T 7, T 8, T 9, T 10, T 11, T 12], []⟩ [] with mode := .returning } [bot], 2, fun w cap buf s r tm hc => ?_, ?_⟩
  · rw [L.P]
    exact stepG_unwind_close (t := 53) rfl (by kernel_rfl) hc
  · rw [L.P]
    exact quits16 _

set_option maxRecDepth 100000 in
theorem snd_next {own : Value} {ob oo cap : Nat} (L : SndX X own ob oo cap) (c i m : Nat) (hi : i < X.vs.length) (T : Fin 14 → Value) (v z2 : Value) (H : Hp) (h : ∀ T', GH X false Stop m H (atH X.sb c X.vs.length (i + 1) own T')) :
    GH X false Stop (m + 15) H (Conc.served (core (atS X.sb c X.vs.length i own T v [0, 1, 2, 3])) (.tuple #[goInt 0, .bool false, z2])) := by
  have hfew := L.few
  simp only [atS, core_G, served_G]
  simp only [ops16, rest16, sel16, in16, next16, loop16, body16, Try.f16, Option.getD_some, Fin.isValue]
  walk_nrm
  refine GH.val L.P (goInt 0) rfl rfl (by decide) (fun w => by go_simp) (fun w => by simp [go_sem]) ?_
  walk_nrm
  refine GH.val L.P (.bool true) rfl rfl (by decide) (fun w => by simp only [goInt]; go_simp) (fun w => by simp [go_sem, goInt]) ?_
  walk_nrm
  refine GH.val L.P (.bool false) rfl rfl (by decide) (fun w => by simp only [goInt]; go_simp) (fun w => by simp [go_sem, goInt]) ?_
  walk_nrm
  refine GH.ctl L.P rfl (fun w => stepG_region_end) ?_
  refine GH.ctl L.P rfl (fun w => stepG_block) ?_
  refine GH.ctl L.P rfl (fun w => stepG_cond (t := true) rfl) ?_
  simp only [if_true]
  refine GH.ctl L.P rfl (fun w => stepG_skip) ?_
  refine GH.ctl L.P rfl (fun w => stepG_inBlock) ?_
  refine GH.ctl L.P rfl (fun w => stepG_inBlock) ?_
  refine GH.ctl L.P rfl (fun w => stepG_region) ?_
  simp only [List.size_toArray, List.length_cons, List.length_nil, Nat.reduceAdd, Nat.zero_add, List.range, List.range.loop]
  refine GH.val L.P (.int .i64 ((i + 1 : Nat) : Int)) rfl rfl (by decide) (fun w => by go_simp; try (rw [IntKind.wrap_i64]; omega)) (fun w => by simp [go_sem]) ?_
  walk_nrm
  refine GH.val L.P (.int .i64 ((i + 1 : Nat) : Int)) rfl rfl (by decide) (fun w => by go_simp) (fun w => by simp [go_sem]) ?_
  walk_nrm
  refine GH.ctl L.P rfl (fun w => stepG_region_end) ?_
  refine GH.ctl L.P rfl (fun w => stepG_inLoop) ?_
  have h' := h (fun j => match j with | 0 => T 0 | 1 => T 1 | 2 => T 2 | 3 => T 3 | 4 => T 4 | 5 => .chan (some c) | 6 => v | 7 => .chan (some X.sb) | 8 => .tuple #[goInt 0, .bool false, z2] | 9 => goInt 0 | 10 => .bool true | 11 => .bool false | 12 => .int .i64 ((i + 1 : Nat) : Int) | j => T j)
  simp only [atH, loop16, body16, Try.f16, Option.getD_some] at h'
  exact GH.more h'

theorem Try.elem22 : Try.prog.elem 22 = 27 := by kernel_rfl

set_option maxRecDepth 100000 in
theorem snd_body {own : Value} {ob oo cap : Nat} (L : SndX X own ob oo cap) (c i : Nat) (T : Fin 14 → Value) (cells : Array Value) (H : Hp) (hv : X.vs[i]? = some (.agg cells)) {Next : Hp → Goroutine → Prop}
    (h : ∀ H' T' z2, Next H' (Conc.served (core (atS X.sb c X.vs.length i own T' (.agg cells) [0, 1, 2, 3])) (.tuple #[goInt 0, .bool false, z2]))) :
    GH X false (ASel X c (.agg cells) Next) 60 H (atH X.sb c X.vs.length i own T) := by
  have hfew := L.few
  have hi : i < X.vs.length := by
    rcases Nat.lt_or_ge i X.vs.length with h | h
    · exact h
    · rw [List.getElem?_eq_none h] at hv; cases hv
  obtain ⟨base, rfl, hbase⟩ := L.own
  obtain rfl := hbase (by omega)
  obtain ⟨cells', hce, hcs, h1⟩ := L.recs _ (List.mem_of_getElem? hv)
  cases hce
  obtain ⟨i27, hi27, hz, hs27, hb27⟩ := info_parts info27
  simp only [atH, loop16, body16, Try.f16, Option.getD_some]
  refine GH.ctl L.P rfl (fun w => stepG_seq) ?_
  refine GH.ctl L.P rfl (fun w => stepG_region) ?_
  simp only [List.size_toArray, List.length_cons, List.length_nil, Nat.reduceAdd, Nat.zero_add, List.range, List.range.loop]
  refine GH.val L.P (.bool true) rfl rfl (by decide) (fun w => by go_simp; try (simp; omega)) (fun w => by simp [go_sem]) ?_
  walk_nrm
  refine GH.ctl L.P rfl (fun w => stepG_region_end) ?_
  refine GH.ctl L.P rfl (fun w => stepG_seq) ?_
  refine GH.ctl L.P rfl (fun w => stepG_cond (t := true) rfl) ?_
  simp only [if_true]
  refine GH.ctl L.P rfl (fun w => stepG_skip) ?_
  refine GH.ctl L.P rfl (fun w => stepG_seq) ?_
  refine GH.ctl L.P rfl (fun w => stepG_block) ?_
  refine GH.ctl L.P rfl (fun w => stepG_seq) ?_
  refine GH.ctl L.P rfl (fun w => stepG_region) ?_
  simp only [List.size_toArray, List.length_cons, List.length_nil, Nat.reduceAdd, Nat.zero_add, List.range, List.range.loop]
  refine GH.val L.P (.pointer (some ⟨ob, oo + i * 12, none⟩)) rfl rfl (by decide) (fun w => ?_) (fun w => ?_) ?_
  · unfold execOp
    walk_nrm
    simp [Instr.indexAt, asIntOf, run_underlying Try.underlying22, sizeOf, typeInfo, hi27, hs27, hi, Addr.add, Nat.mul_comm]
  · unfold execOp
    walk_nrm
    simp [Instr.indexAt, asIntOf, run_underlying Try.underlying22, sizeOf, typeInfo, hi27, hs27, hi]
  walk_nrm
  refine GH.loadRow L.P cells.toList rfl rfl (by decide) rfl rfl Try.underlying27 rfl (by simp [hi27, hs27, hcs]) (fun w hB hH => ⟨L.read w hB i cells hv, Nat.lt_of_lt_of_le L.lt hB.size⟩) (.inl L.lt) ?_
  walk_nrm
  refine GH.alloc L.P rfl rfl (by decide) rfl hi27 hz (fun N hBN hlt => ?_)
  walk_nrm
  simp only [Array.toArray_toList]
  refine GH.storeRow L.P ((N, .cells cells 27 (0, 0)) :: H) rfl rfl (by decide) rfl rfl rfl (List.mem_cons_self ..) (by simp [hi27, hs27, hcs]) (by rw [hcs]; rfl) (by rw [Array.all_eq_true_iff_forall_mem]; exact fun u hu => h1 u (Array.mem_toList_iff.2 hu))
    (fun p hp => by
      rcases List.mem_cons.1 hp with rfl | hp
      · exact .inl rfl
      · exact .inr ⟨List.mem_cons_of_mem _ hp, fun e => by have := hlt p hp; omega⟩) ?_
  walk_nrm
  refine GH.ctl L.P rfl (fun w => stepG_region_end) ?_
  refine GH.ctl L.P rfl (fun w => stepG_seq) ?_
  refine GH.ctl L.P rfl (fun w => stepG_seq) ?_
  refine GH.ctl L.P rfl (fun w => stepG_seq) ?_
  refine GH.ctl L.P rfl (fun w => stepG_region) ?_
  simp only [List.size_toArray, List.length_cons, List.length_nil, Nat.reduceAdd, Nat.zero_add, List.range, List.range.loop]
  refine GH.val L.P (.chan (some c)) rfl rfl (by decide) (fun w => by go_simp) (fun w => by simp [go_sem]) ?_
  walk_nrm
  refine GH.ctl L.P rfl (fun w => stepG_region_end) ?_
  refine GH.ctl L.P rfl (fun w => stepG_region) ?_
  simp only [List.size_toArray, List.length_cons, List.length_nil, Nat.reduceAdd, Nat.zero_add, List.range, List.range.loop]
  have hin : ∀ w, Has ((N, Obj.cells cells 27 (0, 0)) :: H) w → w.heap[N]? = some (.cells cells 27 (0, 0)) := fun w hH => hH _ (List.mem_cons_self ..)
  refine GH.loadRow L.P cells.toList rfl rfl (by decide) rfl rfl Try.underlying27 rfl (by simp [hi27, hs27, hcs]) (fun w _ hH => ⟨fun j u hj => by simp only [World.cell?, hin w hH, Nat.zero_add]; simpa using hj, lt_of_heap (hin w hH)⟩) (.inr ⟨_, List.mem_cons_self .., rfl⟩) ?_
  walk_nrm
  simp only [Array.toArray_toList]
  refine GH.ctl L.P rfl (fun w => stepG_region_end) ?_
  refine GH.ctl L.P rfl (fun w => stepG_region) ?_
  simp only [List.size_toArray, List.length_cons, List.length_nil, Nat.reduceAdd, Nat.zero_add, List.range, List.range.loop]
  refine GH.val L.P (.chan (some X.sb)) rfl rfl (by decide) (fun w => by go_simp) (fun w => by simp [go_sem]) ?_
  walk_nrm
  refine GH.ctl L.P rfl (fun w => stepG_region_end) ?_
  refine GH.ctl L.P rfl (fun w => stepG_seq) ?_
  refine GH.ctl L.P rfl (fun w => stepG_region) ?_
  simp only [List.size_toArray, List.length_cons, List.length_nil, Nat.reduceAdd, Nat.zero_add, List.range, List.range.loop]
  let T' : Fin 14 → Value := fun j => match j with | 1 => .pointer (some ⟨N, 0, none⟩) | 2 => .bool true | 3 => .pointer (some ⟨ob, oo + i * 12, none⟩) | 4 => .agg cells | j => T j
  have hsel := fun w => snd_sel (own := .slice (some ⟨ob, oo, none⟩) X.vs.length cap) X.sb c X.vs.length i T' (.agg cells) w
  have hn := h ((N, Obj.cells cells 27 (0, 0)) :: H) T' (.agg #[])
  have key : ASel X c (.agg cells) Next ((N, Obj.cells cells 27 (0, 0)) :: H) (atS X.sb c X.vs.length i (.slice (some ⟨ob, oo, none⟩) X.vs.length cap) T' (.agg cells) [0, 1, 2, 3]) :=
    ⟨rfl, .agg zRec, .agg #[], fun w => by rw [L.P]; exact hsel w, hn⟩
  exact GH.stop key

theorem snd_run {own : Value} {ob oo cap : Nat} (L : SndX X own ob oo cap) (c : Nat) : ∀ (us : List Value) (i : Nat) (H : Hp) (T : Fin 14 → Value), i ≤ X.vs.length → X.vs.drop i = us → SRun X c us 60 H (atH X.sb c X.vs.length i own T) := by
  intro us
  induction us with
  | nil =>
    intro i H T hle hd
    have hi : i = X.vs.length := by
      have := List.drop_eq_nil_iff.1 hd
      omega
    subst hi
    exact snd_close L c 40 T H
  | cons v us ih =>
    intro i H T hle hd
    obtain ⟨hv, hd', hlt⟩ := drop_cons hd
    obtain ⟨cells, rfl, _⟩ := L.recs v (List.mem_of_getElem? hv)
    refine snd_body L c i T cells H hv fun H' T' z2 => ?_
    rw [sendsH_iff]
    refine ⟨75, ?_⟩
    have hh := fun T'' => ih (i + 1) H' T'' (by omega) hd'
    cases us with
    | nil => exact snd_next L c i 60 hlt T' _ z2 H' hh
    | cons u us => exact snd_next L c i 60 hlt T' _ z2 H' hh

/-- ████ A sender. ████ -/
theorem snd_all {own : Value} {ob oo cap : Nat} (L : SndX X own ob oo cap) (c : Nat) : SendsH X c X.vs [] (born X.P (sndD X.sb own c)) := by
  obtain ⟨m, hm⟩ := snd_start L c
  rw [sendsH_iff]
  cases hvs : X.vs with
  | nil =>
    refine ⟨m + 60, GH.bind (hm.mono ?_)⟩
    rintro H g ⟨rfl, T, rfl⟩
    have := snd_run L c X.vs 0 [] T (by omega) rfl
    rw [hvs] at this ⊢
    exact this
  | cons v vs =>
    refine ⟨m + 60, GH.bind (hm.mono ?_)⟩
    rintro H g ⟨rfl, T, rfl⟩
    have := snd_run L c X.vs 0 [] T (by omega) rfl
    rw [hvs] at this ⊢
    exact this
end
end Go.Proofs.Ytofoplpnpfaofaa
