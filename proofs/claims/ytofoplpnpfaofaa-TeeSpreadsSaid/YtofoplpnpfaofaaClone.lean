/- What is proved here: slices.Clone of a list of records, alone. Conditions: the list reads as records; the room of its copy. -/
import Derived.Test.YtofoplpnpfaofaaRuns
import Derived.WalkSpells
import Derived.WalkLawsBesides
set_option linter.unusedSimpArgs false
set_option linter.unusedVariables false
namespace Go.Proofs.Ytofoplpnpfaofaa
open Go Go.Conc Go.RowKit

def Rec12 (v : Value) : Prop := ∃ cells : Array Value, v = .agg cells ∧ cells.size = 12 ∧ ∀ u ∈ cells.toList, u.oneCell' = true

theorem cellsOf_cons (v : Value) (vs : List Value) : cellsOf (v :: vs) = v.cells.toList ++ cellsOf vs := rfl

theorem cellsOf_len : ∀ {vs : List Value}, (∀ v ∈ vs, Rec12 v) → (cellsOf vs).length = vs.length * 12
  | [], _ => rfl
  | v :: vs, h => by
    obtain ⟨cells, rfl, hs, _⟩ := h v (by simp)
    rw [cellsOf_cons, List.length_append, cellsOf_len fun x hx => h x (by simp [hx])]
    simp [Value.cells, hs, Nat.add_mul]
    omega

theorem cellsOf_get : ∀ {vs : List Value}, (∀ v ∈ vs, Rec12 v) → ∀ {i : Nat} {cells : Array Value} {j : Nat}, vs[i]? = some (.agg cells) → j < 12 → (cellsOf vs)[i * 12 + j]? = cells.toList[j]?
  | [], _, i, cells, j, hi, _ => by simp at hi
  | v :: vs, h, 0, cells, j, hi, hj => by
    simp at hi
    subst hi
    obtain ⟨c', e, hs, _⟩ := h _ (List.mem_cons_self ..)
    cases e
    rw [cellsOf_cons, List.getElem?_append_left (by simp [Value.cells, hs]; omega)]
    simp [Value.cells]
  | v :: vs, h, i + 1, cells, j, hi, hj => by
    obtain ⟨c', rfl, hs, _⟩ := h v (by simp)
    have := cellsOf_get (vs := vs) (fun x hx => h x (by simp [hx])) (i := i) (cells := cells) (j := j) (by simpa using hi) hj
    rw [cellsOf_cons, List.getElem?_append_right (by simp [Value.cells, hs]; omega)]
    rw [← this]
    congr 1
    simp [Value.cells, hs]
    omega

theorem cellsOf_inv {vs : List Value} (h : ∀ v ∈ vs, Rec12 v) {m : Nat} {u : Value} (hm : (cellsOf vs)[m]? = some u) : ∃ cells, vs[m / 12]? = some (.agg cells) ∧ cells.toList[m % 12]? = some u := by
  have hlt : m < vs.length * 12 := by
    rw [← cellsOf_len h]
    exact (List.getElem?_eq_some_iff.1 hm).1
  have hi : m / 12 < vs.length := by omega
  obtain ⟨cells, e, hs, _⟩ := h vs[m / 12] (List.getElem_mem hi)
  have hv : vs[m / 12]? = some (.agg cells) := by rw [List.getElem?_eq_getElem hi, e]
  refine ⟨cells, hv, ?_⟩
  rw [← cellsOf_get h hv (Nat.mod_lt m (by decide)), show m / 12 * 12 + m % 12 = m by omega]
  exact hm

theorem cellsOf_one {vs : List Value} (h : ∀ v ∈ vs, Rec12 v) : ∀ u ∈ cellsOf vs, u.oneCell' = true := by
  intro u hu
  obtain ⟨v, hv, hx⟩ := List.mem_flatMap.1 hu
  obtain ⟨cells, rfl, _, h1⟩ := h v hv
  exact h1 u hx

/-- A list reads as these records. -/
structure Rows (w : World) (own : Value) (vs : List Value) : Prop where
  recs : ∀ v ∈ vs, Rec12 v
  own : ∃ base cap, own = .slice base vs.length cap ∧ (0 < vs.length → ∃ ob oo, base = some ⟨ob, oo, none⟩ ∧ ob < w.heap.size ∧ (∃ o t fr, w.heap[ob]? = some (.cells o t fr)) ∧ ∀ i cells, vs[i]? = some (.agg cells) → w.rangeAt ob (oo + i * 12) cells.toList)

theorem Rows.recs' {w : World} {own : Value} {vs : List Value} (h : Rows w own vs) (hf : vs.length ≤ 999) : Recs w own vs := ⟨hf, h.recs, h.own⟩

theorem rows_of {w : World} {B : Nat} {v : Value} {vs : List Value} (hr : ∀ v ∈ vs, Rec12 v) (h : w.ownsRow B 27 12 v vs.length (cellsOf vs)) : Rows w v vs := by
  obtain ⟨h1, ⟨rfl, h2⟩ | ⟨g, cap, cur, rfl, h3, h4, h5, h6, h7, h8⟩⟩ := h
  · exact ⟨hr, none, 0, by rw [h2], fun hp => by omega⟩
  · refine ⟨hr, some ⟨g, 0, none⟩, cap, rfl, fun hp => ⟨g, 0, rfl, lt_of_heap h4, ⟨_, _, _, h4⟩, fun i cells hi j u hj => ?_⟩⟩
    obtain ⟨c', e, hs, _⟩ := hr _ (List.mem_of_getElem? hi)
    cases e
    have hj12 : j < 12 := by
      have := (List.getElem?_eq_some_iff.1 hj).1
      rw [Array.length_toList, hs] at this
      exact this
    have h9 := cellsOf_get hr hi hj12
    rw [hj, ← h8] at h9
    simp only [World.cell?, h4]
    have h10 : cur.toList[i * 12 + j]? = some u := by
      rw [List.getElem?_take] at h9
      split at h9
      · exact h9
      · cases h9
    simpa [Nat.zero_add] using h10

theorem run_append_op {P : Program} {o : Oper} {a : Act} {w w' : World} {v xv v' : Value} (s x : Operand) (t : TypeId) (ho : o.op = .call { callee := .builtin .append, args := #[s, x], argTypes := #[t, t] }) (hs : a.eval s = v) (hx : a.eval x = xv)
    (hr : (Builtin.append_ #[t, t] o.type #[v, xv]).run P w = .ok v' w') : (execOp a.eval o).run P w = .ok (.value v') w' := by
  unfold execOp
  simp only [ho, resolve, invoke, builtin, Sem.run_bind, Sem.run_pure, Result.andThen_ok, List.map_toArray, List.map_cons, List.map_nil, hs, hx, hr]

/-- A plain operation that yields a value: whatever it draws. -/
theorem GoesI.op {P : Program} {Q : Part} (hP : Safe P Q) {Stop : Goroutine → World → Prop} {b : Frame} {a : Act} {k : List Item} {cs : List Frame} {w : World} {ops : Array Oper} {i : Nat} {rest : List Nat} {o : Oper} (hok : opOk Q [] o = true) (ho : ops[i]? = some o) (hw : Region.wanted o (yielded ops a.tmps) = true) (hk : b.kind ≠ .early)
    (h : ∀ d, ∃ v w', (execOp a.eval o).run P (w.at d) = .ok (.value v) w' ∧ GoesI P Stop (G (b.at (a.put o.dst v) (.inRegion ops rest :: k)) cs) w') : GoesI P Stop (G (b.at a (.inRegion ops (i :: rest) :: k)) cs) w := by
  refine .step rfl (fun d => G (b.at (a.put o.dst (h d).choose) (.inRegion ops rest :: k)) cs) (fun d => (h d).choose_spec.choose) (fun d => listed P b.fn a o (w.at d)) (fun d => stepG_value ho hw hk (h d).choose_spec.choose_spec.1) (fun d => ?_) (fun d => (h d).choose_spec.choose_spec.2)
  have hf := fine_op hP (fr := b.at a []) (S := []) (by simp) hok
  rw [Frame.eval_at'] at hf
  obtain ⟨c, h1, h2, h3, h4, _⟩ := local_of_fine hf (w.at d) #[]
  have hrun : ((execOp a.eval o).runT P (w.at d) #[]).1 = .ok (.value (h d).choose) (h d).choose_spec.choose := by
    rw [← (h d).choose_spec.choose_spec.1]
    exact (Sem.runT_fst P _ _ _)
  rw [hrun] at h3 h4
  exact ⟨h3, fun e he => (h4 e (mem_listed he)).elim (fun hx => by simp at hx) id⟩

theorem leave1 {P : Program} {f : FuncId} {fn : Func} {t : Tmp} (hf : P.funcs[f]? = some fn) (hr : fn.results = #[.tmp t]) {a : Act} (hd : a.defers = []) {todo : List Item} {c : Frame} {cs : List Frame} (w : World) :
    stepG P true (G { (base f).at a todo with mode := .returning } (c :: cs)) w = .go (G (c.finish (a.tmps.getD t undef)) cs) w #[] :=
  stepG_leave rfl hd hf (results_tmp hr _ P w) (events_results_tmp hr _ _)

set_option maxRecDepth 100000 in
theorem clone_goes {lv : Value} {vs : List Value} {w : World} (h : Rows w lv vs) (hb : vs.length * 88 ≤ 140737488355328) (c : Frame) (cs : List Frame) :
    GoesI Try.prog (fun g w' => ∃ v, g = G (c.finish v) cs ∧ Rows w' v vs ∧ Old w w' (fun _ => False)) (G (Frame.enter Try.prog 14 #[lv] .normal) (c :: cs)) w := by
  obtain ⟨base, cap, rfl, hx⟩ := h.own
  obtain ⟨i27, hi, hz, hs27, hb27⟩ := info_parts info27
  have hent : ∀ lv, Frame.enter Try.prog 14 #[lv] .normal = (Go.Conc.base 14).at ⟨#[lv, undef, undef, undef, undef, undef, undef, undef], []⟩ [.code (Try.f14.body.getD .skip)] := by
    intro lv; simp [Frame.enter, Frame.at, Try.func14, Go.Conc.base, Try.f14]
  rw [hent]
  simp only [Try.f14, Option.getD_some]
  refine GoesI.ctl rfl (fun w => stepG_seq) ?_
  refine GoesI.ctl rfl (fun w => stepG_region) ?_
  simp only [List.size_toArray, List.length_cons, List.length_nil, Nat.reduceAdd, Nat.zero_add, List.range, List.range.loop]
  refine GoesI.val (.slice none 0 0) rfl rfl (by decide) (fun w => by go_simp) (fun w => by simp [go_sem]) ?_
  walk_nrm
  refine GoesI.ctl rfl (fun w => stepG_region_end) ?_
  refine GoesI.ctl rfl (fun w => stepG_seq) ?_
  refine GoesI.ctl rfl (fun w => stepG_seq) ?_
  refine GoesI.ctl rfl (fun w => stepG_region) ?_
  simp only [List.size_toArray, List.length_cons, List.length_nil, Nat.reduceAdd, Nat.zero_add, List.range, List.range.loop]
  refine GoesI.val (.slice base vs.length cap) rfl rfl (by decide) (fun w => by go_simp) (fun w => by simp [go_sem]) ?_
  walk_nrm
  cases hbs : base with
  | none =>
    have hv : vs = [] := by
      cases vs with
      | nil => rfl
      | cons v vs => obtain ⟨_, _, e, _⟩ := hx (by simp); rw [hbs] at e; cases e
    subst hv
    refine GoesI.val (.bool true) rfl rfl (by decide) (fun w => rfl) (fun w => rfl) ?_
    walk_nrm
    refine GoesI.ctl rfl (fun w => stepG_region_end) ?_
    refine GoesI.ctl rfl (fun w => stepG_cond (t := true) rfl) ?_
    simp only [if_true]
    refine GoesI.ctl rfl (fun w => stepG_seq) ?_
    refine GoesI.ctl rfl (fun w => stepG_region) ?_
    simp only [List.size_toArray, List.length_cons, List.length_nil, Nat.reduceAdd, Nat.zero_add, List.range, List.range.loop]
    refine GoesI.val (.slice none 0 0) rfl rfl (by decide) (fun w => by go_simp) (fun w => by simp [go_sem]) ?_
    walk_nrm
    refine GoesI.ctl rfl (fun w => stepG_region_end) ?_
    refine GoesI.ctl rfl (fun w => stepG_ret') ?_
    exact GoesI.ctl rfl (fun w => leave1 Try.func14 rfl rfl w) (.stop fun d'' => ⟨.slice none 0 0, rfl, ⟨by simp, none, 0, rfl, fun hp => by simp at hp⟩, ⟨Nat.le_refl _, rfl, rfl, fun _ _ _ => rfl⟩⟩)
  | some ad =>
    refine GoesI.val (.bool false) rfl rfl (by decide) (fun w => rfl) (fun w => rfl) ?_
    walk_nrm
    refine GoesI.ctl rfl (fun w => stepG_region_end) ?_
    refine GoesI.ctl rfl (fun w => stepG_cond (t := false) rfl) ?_
    simp only [Bool.false_eq_true, if_false]
    refine GoesI.ctl rfl (fun w => stepG_skip) ?_
    refine GoesI.ctl rfl (fun w => stepG_seq) ?_
    refine GoesI.ctl rfl (fun w => stepG_region) ?_
    simp only [List.size_toArray, List.length_cons, List.length_nil, Nat.reduceAdd, Nat.zero_add, List.range, List.range.loop]
    refine GoesI.op safeQ (by kernel_rfl) rfl rfl (by decide) (fun d => ⟨.slice (some ⟨w.heap.size, 0, none⟩) 0 0, (w.at d).alloc (.cells #[] 27), ?_, ?_⟩)
    · unfold execOp
      walk_nrm
      simp [Instr.buildSlice, run_underlying Try.underlying22, sizeOf, typeInfo, hi, Instr.fill, newRow]
      exact ⟨rfl, by rw [show Array.range 0 = #[] by simp, Array.map_empty]⟩
    walk_nrm
    refine GoesI.val (.slice (some ad) vs.length cap) rfl rfl (by decide) (fun w => by go_simp) (fun w => by simp [go_sem]) ?_
    walk_nrm
    have hW : ∀ d', (((w.at d).alloc (.cells #[] 27)).at d').ownsRow w.heap.size 27 12 (.slice (some ⟨w.heap.size, 0, none⟩) 0 0) 0 [] :=
      fun d' => ⟨rfl, .inr ⟨w.heap.size, 0, #[], rfl, Nat.le_refl _, alloc_new (w := w.at d), Nat.le_refl _, by simp [maxLen], rfl, rfl⟩⟩
    have hnews : ∀ d' j u, (cellsOf vs)[j]? = some u → (((w.at d).alloc (.cells #[] 27)).at d').cell? (ad.add j) = some u := by
      intro d' j u hj
      obtain ⟨cells, h1, h2⟩ := cellsOf_inv h.recs hj
      have hp : 0 < vs.length := by have := (List.getElem?_eq_some_iff.1 h1).1; omega
      obtain ⟨ob, oo, e, hlt, _, hread⟩ := hx hp
      rw [hbs] at e
      cases e
      have h3 := hread _ _ h1 _ _ h2
      rw [Addr.add_mid]
      rw [show oo + j / 12 * 12 + j % 12 = oo + j by omega] at h3
      rw [← h3]
      exact World.cell?_of_block (alloc_old (w := w.at d) hlt)
    refine GoesI.op safeQ (by kernel_rfl) rfl rfl (by decide) (fun d' => ?_)
    obtain ⟨v', w', hr, hown', hgrow, _⟩ := run_append_own (P := Try.prog) (((w.at d).alloc (.cells #[] 27)).at d') w.heap.size 22 22 27 i27 (.agg zRec) 12 88 Try.underlying22 hi hz hs27 hb27 rfl (by decide) (.slice (some ⟨w.heap.size, 0, none⟩) 0 0) 0 [] (hW d') ad vs.length cap (cellsOf vs) (cellsOf_len h.recs) (hnews d') (cellsOf_one h.recs) (by simp only [maxLen]; omega) (by simpa using hb) (by show w.heap.size ≤ (w.heap.push _).size; simp)
    refine ⟨v', w', run_append_op (.tmp 5) (.tmp 6) 22 rfl rfl rfl hr, ?_⟩
    walk_nrm
    refine GoesI.val v' rfl rfl (by decide) (fun w => by go_simp) (fun w => by simp [go_sem]) ?_
    walk_nrm
    refine GoesI.ctl rfl (fun w => stepG_region_end) ?_
    refine GoesI.ctl rfl (fun w => stepG_ret') ?_
    refine GoesI.ctl rfl (fun w => leave1 Try.func14 rfl rfl w) (.stop fun d'' => ⟨v', rfl, ?_, ?_⟩)
    · have h1 := rows_of (w := w') (vs := vs) h.recs (by simpa using hown')
      exact ⟨h1.recs, h1.own⟩
    · refine ⟨?_, hgrow.os, hgrow.output, fun b hb _ => ?_⟩
      · have := hgrow.size
        have e : (((w.at d).alloc (Obj.cells #[] 27)).at d').heap.size = w.heap.size + 1 := alloc_size (w := w.at d)
        show w.heap.size ≤ w'.heap.size
        omega
      · show w'.heap[b]? = _
        have e : (((w.at d).alloc (Obj.cells #[] 27)).at d').heap.size = w.heap.size + 1 := alloc_size (w := w.at d)
        rw [hgrow.block b (by omega) (by simp [Value.ownBlock]; omega)]
        exact alloc_old (w := w.at d) hb
end Go.Proofs.Ytofoplpnpfaofaa
