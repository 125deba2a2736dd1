/- What is proved here: the steps of a goroutine's own walk in the phase: a move of control, an operation out of the temporaries, a load, a store, a new block. No condition. -/
import Derived.Test.YtofoplpnpfaofaaPhase11
import Derived.Conc.Own5
import Derived.Conc.Quits
import Derived.Conc.DeferLaws
import Derived.Conc.WalkWords
import Derived.Conc.AppendWalk
import Derived.Deep.MidRow
set_option linter.unusedSimpArgs false
set_option linter.unusedVariables false
namespace Go.Proofs.Ytofoplpnpfaofaa
open Go Go.Conc

section
variable {X : Cx} {main : Bool} {Stop : Hp → Goroutine → Prop} {n : Nat} {H H' : Hp} {w w' : World} {b : Frame} {a : Act} {k : List Item} {cs : List Frame} {ops : Array Oper} {i : Nat} {rest : List Nat} {o : Oper}

theorem Eff.idle (h : Has H w) : Eff X H H w w #[] := ⟨rfl, rfl, rfl, Nat.le_refl _, fun _ _ _ => rfl, h, fun _ h => .inl h, by simp⟩

theorem GH.ctl {P : Program} (hP : X.P = P) {g g' : Goroutine} (hr : g.status = .running) (h : ∀ w, stepG P main g w = .go g' w #[]) (hg : GH X main Stop n H g') : GH X main Stop (n + 1) H g := by
  subst hP
  exact .step hr fun w _ hH => ⟨g', H, w, #[], h w, Eff.idle hH, hg⟩

theorem GH.more {g : Goroutine} (h : GH X main Stop n H g) : GH X main Stop (n + 1) H g := by
  induction n generalizing H g with
  | zero => exact .inl h
  | succ n ih =>
    rcases h with h | ⟨hr, h⟩
    · exact .inl h
    · refine .inr ⟨hr, fun w hB hH => ?_⟩
      obtain ⟨g', H', w', es, h1, h2, h3⟩ := h w hB hH
      exact ⟨g', H', w', es, h1, h2, ih h3⟩

/-- An operation out of the temporaries. -/
theorem GH.val {P : Program} (hP : X.P = P) (v : Value) (ho : ops[i]? = some o) (hw : Region.wanted o (yielded ops a.tmps) = true) (hk : b.kind ≠ .early) (hr : ∀ w, (execOp a.eval o).run P w = .ok (.value v) w) (he : ∀ w, (execOp a.eval o).events P w #[] = #[])
    (hg : GH X main Stop n H (G (b.at (a.put o.dst v) (.inRegion ops rest :: k)) cs)) : GH X main Stop (n + 1) H (G (b.at a (.inRegion ops (i :: rest) :: k)) cs)   := .ctl hP rfl (fun w => by rw [stepG_value ho hw hk (hr w)]; unfold listed; rw [he w, seen_none]) hg

/-- What a step may list. -/
def EvOkH (X : Cx) (H : Hp) (w w' : World) (e : Event) : Prop := evOk w'.heap.size e ∧ ∀ a, (MemAct.ofEvent e).touch? = some a → (a.write = false ∧ ∃ x, a.loc = .cell x ∧ x.block < X.B0) ∨ ∃ x, a.loc = .cell x ∧ (keyOfHp H x.block ∨ w.heap.size ≤ x.block)

theorem GH.value {P : Program} (hP : X.P = P) (ho : ops[i]? = some o) (hw : Region.wanted o (yielded ops a.tmps) = true) (hk : b.kind ≠ .early)
    (h : ∀ w, Bs X w → Has H w → ∃ v w' H', (execOp a.eval o).run P w = .ok (.value v) w' ∧ w'.tape = w.tape ∧ w'.os = w.os ∧ w'.output = w.output ∧ w.heap.size ≤ w'.heap.size ∧ (∀ b, b < w.heap.size → ¬ keyOfHp H b → w'.heap[b]? = w.heap[b]?) ∧ Has H' w' ∧ (∀ b, keyOfHp H' b → keyOfHp H b ∨ (w.heap.size ≤ b ∧ b < w'.heap.size)) ∧
      (∀ e ∈ (execOp a.eval o).events P w #[], EvOkH X H w w' e) ∧ GH X main Stop n H' (G (b.at (a.put o.dst v) (.inRegion ops rest :: k)) cs)) :
    GH X main Stop (n + 1) H (G (b.at a (.inRegion ops (i :: rest) :: k)) cs) := by
  subst hP
  refine .step rfl fun w hB hH => ?_
  obtain ⟨v, w', H', h1, h2, h3, h4, h5, h6, h7, h8, h9, h10⟩ := h w hB hH
  exact ⟨_, H', w', _, stepG_value ho hw hk h1, ⟨h2, h3, h4, h5, h6, h7, h8, fun e he => h9 e (mem_listed he)⟩, h10⟩

theorem GH.skip {P : Program} (hP : X.P = P) (ho : ops[i]? = some o) (hw : Region.wanted o (yielded ops a.tmps) = true) (hk : b.kind ≠ .early)
    (h : ∀ w, Bs X w → Has H w → ∃ w' H', (execOp a.eval o).run P w = .ok .skip w' ∧ w'.tape = w.tape ∧ w'.os = w.os ∧ w'.output = w.output ∧ w.heap.size ≤ w'.heap.size ∧ (∀ b, b < w.heap.size → ¬ keyOfHp H b → w'.heap[b]? = w.heap[b]?) ∧ Has H' w' ∧ (∀ b, keyOfHp H' b → keyOfHp H b ∨ (w.heap.size ≤ b ∧ b < w'.heap.size)) ∧
      (∀ e ∈ (execOp a.eval o).events P w #[], EvOkH X H w w' e) ∧ GH X main Stop n H' (G (b.at (a.put o.dst undef) (.inRegion ops rest :: k)) cs)) :
    GH X main Stop (n + 1) H (G (b.at a (.inRegion ops (i :: rest) :: k)) cs) := by
  subst hP
  refine .step rfl fun w hB hH => ?_
  obtain ⟨w', H', h1, h2, h3, h4, h5, h6, h7, h8, h9, h10⟩ := h w hB hH
  exact ⟨_, H', w', _, stepG_none ho hw hk h1, ⟨h2, h3, h4, h5, h6, h7, h8, fun e he => h9 e (mem_listed he)⟩, h10⟩

/-- A plain access of a cell. -/
theorem evOkH_cell {e : Event} {x : Addr} (hl : e.loc = .cell x) (hlt : x.block < w'.heap.size) (h : (e.write = false ∧ x.block < X.B0) ∨ keyOfHp H x.block ∨ w.heap.size ≤ x.block) : EvOkH X H w w' e := by
  refine ⟨by unfold evOk; rw [hl]; exact hlt, fun t ht => ?_⟩
  obtain ⟨h1, h2⟩ := ofEvent_touch (fun m hm => by rw [hl] at hm; cases hm) ht
  rcases h with ⟨h3, h4⟩ | h
  · exact .inl ⟨h2.trans h3, x, h1.trans hl, h4⟩
  · exact .inr ⟨x, h1.trans hl, h⟩

theorem evOkH_room : EvOkH X H w w' ⟨.mark .noRoom, false, true⟩ := ⟨rfl, fun a ha => by simp [MemAct.ofEvent, MemAct.touch?] at ha⟩

theorem has_lt (hH : Has H w) {g : Nat} (hk : keyOfHp H g) : g < w.heap.size := by
  obtain ⟨p, hp, rfl⟩ := hk
  exact lt_of_heap (hH p hp)

/-- What a load of a row, or of a struct, lists. -/
theorem ev_loadVar_row {P : Program} {g off : Nat} {ty : TypeId} {cells : List Value} {d : TypeDesc} (hc : w.rangeAt g off cells) (hu : P.underlying ty = some d) (hd : d.isRow = true) (hi : (P.info? ty).map (·.size) = some cells.length) :
    ∀ e ∈ (loadVar ty ⟨g, off, none⟩).events P w #[], e.readsIn (· = g) := by
  intro e he
  cases hq : P.info? ty with
  | none => simp [hq] at hi
  | some i =>
    have hs : i.size = cells.length := by simpa [hq] using hi
    have hagg : (isAgg ty).run P w = .ok true w := by
      unfold isAgg
      rw [Sem.run_bind, run_underlying hu w]
      cases d <;> simp_all
    have hsz : (sizeOf ty).run P w = .ok cells.length w := by simp [sizeOf, typeInfo, hq, hs]
    have hl := fun j (hj : j < cells.length) => (show (w.cell? ((⟨g, off, none⟩ : Addr).add (0 + j))).isSome by
      rw [Nat.zero_add, Addr.add_mid, hc j cells[j] (List.getElem?_eq_getElem hj)]; rfl)
    have hrun : ∃ r, (loadCells ⟨g, off, none⟩ cells.length).run P w = .ok r w := ⟨_, run_loadCells_list (P := P) w ⟨g, off, none⟩ cells (fun j v hv => by rw [Addr.add_mid]; exact hc j v hv)⟩
    obtain ⟨r, hrun⟩ := hrun
    have he' : e ∈ (loadCells ⟨g, off, none⟩ cells.length).events P w #[] := by
      simpa [loadVar, Sem.events_bind, hagg, hsz, hrun] using he
    rcases events_loadCellsFrom_at (P := P) ⟨g, off, none⟩ (· = g) rfl cells.length 0 #[] w #[] hl e he' with h | h
    · simp at h
    · exact h

/-- A load of a row. -/
theorem GH.loadRow {P : Program} (hP : X.P = P) {g off : Nat} {ty : TypeId} {x : Operand} {d : TypeDesc} (cells : List Value) (ho : ops[i]? = some o) (hw : Region.wanted o (yielded ops a.tmps) = true) (hk : b.kind ≠ .early) (hop : o.op = .load ty x) (hx : a.eval x = .pointer (some ⟨g, off, none⟩))
    (hu : P.underlying ty = some d) (hd : d.isRow = true) (hi : (P.info? ty).map (·.size) = some cells.length) (hc : ∀ w, Bs X w → Has H w → w.rangeAt g off cells ∧ g < w.heap.size) (hg : g < X.B0 ∨ keyOfHp H g)
    (h : GH X main Stop n H (G (b.at (a.put o.dst (.agg cells.toArray)) (.inRegion ops rest :: k)) cs)) : GH X main Stop (n + 1) H (G (b.at a (.inRegion ops (i :: rest) :: k)) cs) := by
  refine GH.value hP ho hw hk fun w hB hH => ⟨.agg cells.toArray, w, H, ?_, rfl, rfl, rfl, Nat.le_refl _, fun _ _ _ => rfl, hH, fun _ h => .inl h, fun e he => ?_, h⟩
  · unfold execOp
    simp only [hop, hx, Instr.loadAt, Instr.sureAddr, Sem.run_bind, Sem.run_pure, Result.andThen_ok, run_loadVar_mid w g off ty cells d (hc w hB hH).1 hu hd hi]
  · have he' : e ∈ (loadVar ty ⟨g, off, none⟩).events P w #[] := by
      unfold execOp at he
      simpa [hop, hx, Instr.loadAt, Instr.sureAddr, run_loadVar_mid w g off ty cells d (hc w hB hH).1 hu hd hi] using he
    obtain ⟨ad, h1, h2, h3⟩ := ev_loadVar_row (hc w hB hH).1 hu hd hi e he'
    subst h3
    refine evOkH_cell h1 (hc w hB hH).2 ?_
    rcases hg with hg | hg
    · exact .inl ⟨h2, hg⟩
    · exact .inr (.inl hg)

/-- A load of one cell. -/
theorem GH.loadCell {P : Program} (hP : X.P = P) {g off : Nat} {ty : TypeId} {x : Operand} {d : TypeDesc} (v : Value) (ho : ops[i]? = some o) (hw : Region.wanted o (yielded ops a.tmps) = true) (hk : b.kind ≠ .early) (hop : o.op = .load ty x) (hx : a.eval x = .pointer (some ⟨g, off, none⟩))
    (hu : P.underlying ty = some d) (hd : d.isRow = false) (hc : ∀ w, Bs X w → Has H w → w.cell? ⟨g, off, none⟩ = some v) (hg : g < X.B0 ∨ keyOfHp H g)
    (h : GH X main Stop n H (G (b.at (a.put o.dst v) (.inRegion ops rest :: k)) cs)) : GH X main Stop (n + 1) H (G (b.at a (.inRegion ops (i :: rest) :: k)) cs) := by
  have hagg : ∀ w, (isAgg ty).run P w = .ok false w := by
    intro w
    unfold isAgg
    rw [Sem.run_bind, run_underlying hu w]
    cases d <;> simp_all
  refine GH.value hP ho hw hk fun w hB hH => ⟨v, w, H, ?_, rfl, rfl, rfl, Nat.le_refl _, fun _ _ _ => rfl, hH, fun _ h => .inl h, fun e he => ?_, h⟩
  · unfold execOp
    simp [hop, hx, Instr.loadAt, Instr.sureAddr, loadVar, hagg, hc w hB hH]
  · have he' : e = ⟨.cell ⟨g, off, none⟩, false, Mode.plain == Mode.atomic⟩ := by
      unfold execOp at he
      simpa [hop, hx, Instr.loadAt, Instr.sureAddr, loadVar, hagg, hc w hB hH] using he
    subst he'
    refine evOkH_cell rfl (cell_lt (hc w hB hH)) ?_
    rcases hg with hg | hg
    · exact .inl ⟨rfl, hg⟩
    · exact .inr (.inl hg)

theorem has_alloc (hH : Has H w) (ob : Obj) : Has ((w.heap.size, ob) :: H) (w.alloc ob) := by
  intro p hp
  rcases List.mem_cons.1 hp with rfl | hp
  · exact alloc_new
  · have := hH p hp
    rw [alloc_old (lt_of_heap this)]; exact this

/-- A new block. -/
theorem GH.alloc {P : Program} (hP : X.P = P) {ty : TypeId} {z : Value} {inf : TypeInfo} (ho : ops[i]? = some o) (hw : Region.wanted o (yielded ops a.tmps) = true) (hk : b.kind ≠ .early) (hop : o.op = .alloc ty) (hi : P.info? ty = some inf) (hz : inf.zero = some z)
    (h : ∀ N, X.B0 ≤ N → (∀ p ∈ H, p.1 < N) → GH X main Stop n ((N, .cells z.cells ty) :: H) (G (b.at (a.put o.dst (.pointer (some ⟨N, 0, none⟩))) (.inRegion ops rest :: k)) cs)) : GH X main Stop (n + 1) H (G (b.at a (.inRegion ops (i :: rest) :: k)) cs) := by
  refine GH.value hP ho hw hk fun w hB hH => ⟨.pointer (some ⟨w.heap.size, 0, none⟩), w.alloc (.cells z.cells ty), (w.heap.size, .cells z.cells ty) :: H, ?_, rfl, rfl, rfl, by rw [alloc_size]; omega, fun b hb _ => alloc_old hb, has_alloc hH _, fun b hb => ?_, fun e he => ?_, h _ hB.size fun p hp => has_lt hH ⟨p, hp, rfl⟩⟩
  · unfold execOp
    simp [hop, Instr.alloc, zeroValue, typeInfo, hi, hz, newVar, newRow]
  · obtain ⟨p, hp, rfl⟩ := hb
    rcases List.mem_cons.1 hp with rfl | hp
    · exact .inr ⟨Nat.le_refl _, by rw [alloc_size]; omega⟩
    · exact .inl ⟨p, hp, rfl⟩
  · unfold execOp at he
    simp [hop, Instr.alloc, zeroValue, typeInfo, hi, hz, newVar, newRow] at he

theorem setRow_same {g b : Nat} {cells : Array Value} (hb : b ≠ g) : (w.setRow g cells).heap[b]? = w.heap[b]? := by
  show (w.heap.modify g _)[b]? = _
  rw [Array.getElem?_modify, if_neg (Ne.symm hb)]
theorem setRow_self {g : Nat} {cells old : Array Value} {t : TypeId} {fr : Nat × Nat} (hg : w.heap[g]? = some (.cells old t fr)) : (w.setRow g cells).heap[g]? = some (.cells cells t fr) := by
  show (w.heap.modify g _)[g]? = _
  rw [Array.getElem?_modify, if_pos rfl, hg]
  rfl
theorem setRow_size {g : Nat} {cells : Array Value} : (w.setRow g cells).heap.size = w.heap.size := by
  show (w.heap.modify g _).size = _
  simp

/-- What a store of cells lists. -/
theorem ev_storeVar {P : Program} {g off : Nat} {ty t : TypeId} {v : Value} {old : Array Value} (hg : w.heap[g]? = some (.cells old t (0, 0))) (hi : (P.info? ty).map (·.size) = some v.cells.size) (hl : off + v.cells.size ≤ old.size) (h1 : v.cells.all (·.oneCell') = true) :
    ∀ e ∈ (storeVar ty ⟨g, off, none⟩ v).events P w #[], ∃ ad, e.loc = .cell ad ∧ ad.block = g := by
  intro e he
  cases hq : P.info? ty with
  | none => simp [hq] at hi
  | some i =>
    have hs : v.cells.size = i.size := by simp [hq] at hi; omega
    have he' : e ∈ (storeCells ⟨g, off, none⟩ v.cells.toList).events P w #[] := by
      simpa [storeVar, sizeOf, typeInfo, hq, hs] using he
    rcases events_storeCells_at (P := P) g off t v.cells.toList 0 old w #[] hg (by simpa using hl) (fun v hv => (Array.all_eq_true_iff_forall_mem.1 h1) v (by simpa using hv)) e he' with h | h
    · simp at h
    · exact h

/-- A store of a whole row. -/
theorem GH.storeRow {P : Program} (hP : X.P = P) {g : Nat} {ty t : TypeId} {x y : Operand} {old cells : Array Value} (H' : Hp) (ho : ops[i]? = some o) (hw : Region.wanted o (yielded ops a.tmps) = true) (hk : b.kind ≠ .early) (hop : o.op = .store ty x y) (hx : a.eval x = .pointer (some ⟨g, 0, none⟩)) (hy : a.eval y = .agg cells)
    (hin : (g, .cells old t (0, 0)) ∈ H) (hi : (P.info? ty).map (·.size) = some cells.size) (hold : old.size = cells.size) (h1 : cells.all (·.oneCell') = true) (hH' : ∀ p ∈ H', p = (g, .cells cells t (0, 0)) ∨ (p ∈ H ∧ p.1 ≠ g))
    (h : GH X main Stop n H' (G (b.at (a.put o.dst undef) (.inRegion ops rest :: k)) cs)) : GH X main Stop (n + 1) H (G (b.at a (.inRegion ops (i :: rest) :: k)) cs) := by
  refine GH.skip hP ho hw hk fun w hB hH => ?_
  have hg : w.heap[g]? = some (.cells old t (0, 0)) := hH _ hin
  refine ⟨w.setRow g cells, H', ?_, rfl, rfl, rfl, Nat.le_of_eq setRow_size.symm, fun b hb hnk => setRow_same (fun e => hnk ⟨_, hin, e.symm⟩), fun p hp => ?_, fun b hb => ?_, fun e he => ?_, h⟩
  · unfold execOp
    simp [hop, hx, hy, Instr.storeAt, Instr.sureAddr, run_storeVar_row w g t ty old cells hg hi hold h1]
  · rcases hH' p hp with rfl | ⟨hp, hne⟩
    · exact setRow_self hg
    · rw [setRow_same hne]; exact hH p hp
  · obtain ⟨p, hp, rfl⟩ := hb
    rcases hH' p hp with rfl | ⟨hp, hne⟩
    · exact .inl ⟨_, hin, rfl⟩
    · exact .inl ⟨p, hp, rfl⟩
  · have he' : e ∈ (storeVar ty ⟨g, 0, none⟩ (.agg cells)).events P w #[] := by
      unfold execOp at he
      simpa [hop, hx, hy, Instr.storeAt, Instr.sureAddr, run_storeVar_row w g t ty old cells hg hi hold h1] using he
    obtain ⟨ad, h2, h3⟩ := ev_storeVar (v := .agg cells) hg hi (by simp [Value.cells, hold]) h1 e he'
    refine evOkH_cell h2 (by rw [setRow_size, h3]; exact lt_of_heap hg) (.inr (.inl (by rw [h3]; exact ⟨_, hin, rfl⟩)))

/-- A store of one cell. -/
theorem GH.storeCell {P : Program} (hP : X.P = P) {g off : Nat} {ty t : TypeId} {x y : Operand} {old : Array Value} {v : Value} (H' : Hp) (ho : ops[i]? = some o) (hw : Region.wanted o (yielded ops a.tmps) = true) (hk : b.kind ≠ .early) (hop : o.op = .store ty x y) (hx : a.eval x = .pointer (some ⟨g, off, none⟩)) (hy : a.eval y = v)
    (hin : (g, .cells old t (0, 0)) ∈ H) (hi : (P.info? ty).map (·.size) = some 1) (hv : v.cells = #[v]) (hold : off < old.size) (h1 : v.oneCell' = true) (hH' : ∀ p ∈ H', p = (g, .cells (old.setIfInBounds off v) t (0, 0)) ∨ (p ∈ H ∧ p.1 ≠ g))
    (h : GH X main Stop n H' (G (b.at (a.put o.dst undef) (.inRegion ops rest :: k)) cs)) : GH X main Stop (n + 1) H (G (b.at a (.inRegion ops (i :: rest) :: k)) cs) := by
  refine GH.skip hP ho hw hk fun w hB hH => ?_
  have hg : w.heap[g]? = some (.cells old t (0, 0)) := hH _ hin
  have hcell : w.cell? ⟨g, off, none⟩ = some old[off] := by simp [World.cell?, hg, hold]
  have hfro : w.frozen? ⟨g, off, none⟩ = false := by simp [World.frozen?, hg]
  have hrun : (storeVar ty ⟨g, off, none⟩ v).run P w = .ok () (w.setRow g (old.setIfInBounds off v)) := by
    cases hq : P.info? ty with
    | none => simp [hq] at hi
    | some i =>
      have hs : i.size = 1 := by simpa [hq] using hi
      have hst : (store ((⟨g, off, none⟩ : Addr).add 0) v).run P w = .ok () (w.setRow g (old.setIfInBounds off v)) := by
        rw [Addr.add_mid, run_store P w _ v _ h1]
        simp only [Nat.add_zero, hcell, hfro, Bool.false_eq_true, if_false]
        rw [setCell_eq_setRow w g off old t (0, 0) v hg]
      simp [storeVar, sizeOf, typeInfo, hq, hs, hv, storeCells, hst]
  refine ⟨w.setRow g (old.setIfInBounds off v), H', ?_, rfl, rfl, rfl, Nat.le_of_eq setRow_size.symm, fun b hb hnk => setRow_same (fun e => hnk ⟨_, hin, e.symm⟩), fun p hp => ?_, fun b hb => ?_, fun e he => ?_, h⟩
  · unfold execOp
    simp [hop, hx, hy, Instr.storeAt, Instr.sureAddr, hrun]
  · rcases hH' p hp with rfl | ⟨hp, hne⟩
    · exact setRow_self hg
    · rw [setRow_same hne]; exact hH p hp
  · obtain ⟨p, hp, rfl⟩ := hb
    rcases hH' p hp with rfl | ⟨hp, hne⟩
    · exact .inl ⟨_, hin, rfl⟩
    · exact .inl ⟨p, hp, rfl⟩
  · have he' : e ∈ (storeVar ty ⟨g, off, none⟩ v).events P w #[] := by
      unfold execOp at he
      simpa [hop, hx, hy, Instr.storeAt, Instr.sureAddr, hrun] using he
    obtain ⟨ad, h2, h3⟩ := ev_storeVar (v := v) hg (by rw [hv]; exact hi) (by rw [hv]; show off + 1 ≤ old.size; omega) (by rw [hv]; simpa using h1) e he'
    refine evOkH_cell h2 (by rw [setRow_size, h3]; exact lt_of_heap hg) (.inr (.inl (by rw [h3]; exact ⟨_, hin, rfl⟩)))
end
end Go.Proofs.Ytofoplpnpfaofaa
