/- What is proved here: a lone call carried over; the end of Spread. No condition beside the call's own contract. -/
import Derived.Test.YtofoplpnpfaofaaPart
set_option linter.unusedSimpArgs false
set_option linter.unusedVariables false
namespace Go.Proofs.Ytofoplpnpfaofaa
open Go Go.Conc Go.RowKit

section
variable {P : Program} {Stop Stop' : Goroutine → World → Prop} {b : Frame} {a : Act} {k : List Item} {cs : List Frame} {w : World} {ops : Array Oper} {i : Nat} {rest : List Nat} {o : Oper}

/-- An operation out of the temporaries. -/
theorem GoesI.val (v : Value) (ho : ops[i]? = some o) (hw : Region.wanted o (yielded ops a.tmps) = true) (hk : b.kind ≠ .early) (hr : ∀ w, (execOp a.eval o).run P w = .ok (.value v) w) (he : ∀ w, (execOp a.eval o).events P w #[] = #[])
    (hg : GoesI P Stop (G (b.at (a.put o.dst v) (.inRegion ops rest :: k)) cs) w) : GoesI P Stop (G (b.at a (.inRegion ops (i :: rest) :: k)) cs) w :=
  .ctl rfl (fun w => by rw [stepG_value ho hw hk (hr w)]; unfold listed; rw [he w, seen_none]) hg

/-- The results lie in temporaries. -/
def PlainRes (P : Program) (fn : Func) : Prop := ∀ tmps, ∃ v, ∀ w, (results fn tmps).run P w = .ok v w ∧ (results fn tmps).events P w #[] = #[]
theorem plainRes1 {fn : Func} {t : Tmp} (h : fn.results = #[.tmp t]) : PlainRes P fn := fun tmps => ⟨_, fun w => ⟨results_tmp h _ _ _, events_results_tmp h _ _⟩⟩
theorem plainRes2 {fn : Func} {t u : Tmp} (h : fn.results = #[.tmp t, .tmp u]) : PlainRes P fn := fun tmps => ⟨_, fun w => ⟨results_tmp2 h _ _ _, events_results_tmp2 h _ _⟩⟩

/-- A call that comes back when it is alone. -/
theorem call_lift {Q : Part} (hP : Safe P Q) {f : FuncId} {fn : Func} {S : List Tmp} {args : Array Value} {R : Value → World → Prop} (hf : P.funcs[f]? = some fn) (hres : PlainRes P fn) (ho : FrOk Q (Frame.enter P f args .normal) S) (hR : ∀ v w τ d, R v w → R v (sw w τ d))
    (H : ∀ τ d, Calls P f args (sw w τ d) fun e w' => ∃ v, e = .returned v ∧ R v w') (c : Frame) (L : List Frame) : GoesI P (fun g w' => ∃ v, g = G (c.finish v) L ∧ R v w') (G (Frame.enter P f args .normal) (c :: L)) w := by
  have h := lift hP (k' := []) (k := []) (L := c :: L) (R := fun fr w => ∃ v, R v w ∧ fr.fn = f ∧ fr.mode = .returning ∧ fr.defers = [] ∧ fr.kind = .normal ∧ ∀ w, (results fn fr.tmps).run P w = .ok v w ∧ (results fn fr.tmps).events P w #[] = #[]) (vA := true) (by simp) (by simp) (by simp)
    (fun fr w τ d ⟨v, h1, h2⟩ => ⟨v, hR _ _ τ d h1, h2⟩) (f := Frame.enter P f args .normal) (w := w) ⟨⟨S, ho⟩, by simp⟩
    (fun τ d => by
      obtain ⟨e, w', fr, ⟨v, rfl, hv⟩, hc, hfn, hm, hd, hkd, fn', hf', hrun⟩ := H τ d [trap P]
      obtain ⟨n, hn⟩ := (hc : Steps P _ _)
      rw [hfn, hf] at hf'
      cases hf'
      obtain ⟨v', hv'⟩ := hres fr.tmps
      have e1 := (hv' w').1
      rw [hrun] at e1
      cases e1
      refine ⟨n, fr, w', ?_, v, hv, hfn, hm, hd, hkd, hv'⟩
      show runN P n (solo (G (tail (Frame.enter P f args .normal) []) [trap P]) (sw w τ d)) = .next (solo (G (tail fr []) [trap P]) w')
      rw [tail_nil, tail_nil]
      exact hn)
  rw [show MG [] (c :: L) (Frame.enter P f args .normal) [] = G (Frame.enter P f args .normal) (c :: L) by show G (tail _ []) _ = _; rw [tail_nil]] at h
  refine GoesI.bind (GoesI.mono ?_ h)
  rintro g w1 ⟨fr, rfl, ⟨v, hv, h1, h2, h3, h4, h5⟩, _⟩
  show GoesI P _ (G (tail fr []) (c :: L)) w1
  rw [tail_nil]
  refine GoesI.ctl (g' := G (c.finish v) L) rfl (fun w2 => ?_) (.stop fun d => ⟨v, rfl, hR v w1 w1.tape d hv⟩)
  have hf1 : P.funcs[fr.fn]? = some fn := by rw [h1]; exact hf
  simp [G, stepG, unwind, doReturn, h2, h3, h4, hf1, (h5 w2).1, (h5 w2).2, seen_none, GStep.after]
end

set_option maxRecDepth 100000 in
/-- The end of Spread. -/
theorem spread_leave {n room sb tb ob : Nat} {own : Value} {T : Nat → Value} {c : Frame} {cs : List Frame} {w : World} {cap s r : Nat} {tm : Bool} (hsb : w.heap[sb]? = some (.chan cap #[] false s r tm)) :
    GoesI Try.prog (fun g w' => g = G (c.finish (.tuple #[.slice (some ⟨ob, 0, none⟩) n n, .int .i64 0])) cs ∧ ∃ d, w' = (w.setChan sb cap #[] true s r tm).at d) (atE n room sb tb ob own T (c :: cs)) w := by
  simp only [atE, from19, from14, from13, from6, from5, body7, Try.f7, Option.getD_some]
  refine GoesI.ctl rfl (fun w => stepG_seq) ?_
  refine GoesI.ctl rfl (fun w => stepG_region) ?_
  simp only [List.size_toArray, List.length_cons, List.length_nil, Nat.reduceAdd, Nat.zero_add, List.range, List.range.loop]
  refine GoesI.val (.slice (some ⟨ob, 0, none⟩) n n) rfl rfl (by decide) (fun w => by go_simp) (fun w => by simp [go_sem]) ?_
  walk_nrm
  refine GoesI.val (.slice (some ⟨ob, 0, none⟩) n n) rfl rfl (by decide) (fun w => by go_simp) (fun w => by simp [go_sem]) ?_
  walk_nrm
  refine GoesI.val (.int .i64 0) rfl rfl (by decide) (fun w => by go_simp) (fun w => by simp [go_sem]) ?_
  walk_nrm
  refine GoesI.ctl rfl (fun w => stepG_region_end) ?_
  refine GoesI.ctl rfl (fun w => stepG_ret') ?_
  refine GoesI.step rfl (fun _ => G { (base 7).at ⟨_, []⟩ [.code .ret] with mode := .returning } (c :: cs)) (fun d => (w.at d).setChan sb cap #[] true s r tm) (fun _ => #[⟨.obj sb, false, true⟩, ⟨.obj sb, true, true⟩])
    (fun d => stepG_unwind_close (t := 42) rfl (by kernel_rfl) hsb) (fun d => ⟨by rw [setChan_size']; exact Nat.le_refl _, fun e he => ?_⟩) (fun d => ?_)
  · have hlt := lt_of_heap hsb
    simp only [List.mem_toArray, List.mem_cons, List.not_mem_nil, or_false] at he
    rw [setChan_size']
    rcases he with rfl | rfl <;> exact hlt
  · refine GoesI.ctl rfl (fun w => stepG_leave rfl rfl Try.func7 (results_tmp2 rfl _ _ _) (events_results_tmp2 rfl _ _)) (.stop fun d' => ⟨rfl, d', rfl⟩)
end Go.Proofs.Ytofoplpnpfaofaa
