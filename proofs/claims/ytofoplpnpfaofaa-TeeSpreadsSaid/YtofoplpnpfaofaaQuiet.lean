/- What is proved here: a region that draws its order, beside goroutines that only leave: one walk in the text's order; slices of lists. Conditions: its operations are quiet in a class of worlds. -/
import Derived.Test.YtofoplpnpfaofaaOwnStart
import Derived.BigQuiet
set_option linter.unusedSimpArgs false
set_option linter.unusedVariables false
namespace Go.Proofs.Ytofoplpnpfaofaa
open Go Go.Conc Go.RowKit

section
variable {P : Program} {ops : Array Oper} {C : World → Prop} {Q : Act → Prop} {a : Act} {o : Oper} {rest : List Oper}

theorem wpQuiet_val (v : Value) (hw : Region.wanted o (yielded ops a.tmps) = true) (hr : ∀ w, C w → (execOp a.eval o).run P w = .ok (.value v) w) (h : wpQuiet P ops C Q rest (a.put o.dst v)) : wpQuiet P ops C Q (o :: rest) a :=
  BigFrame.wpQuiet_want hw fun K hK => ⟨v, fun w hC => by unfold Oper.quietAt; rw [hr w hC]; exact ⟨rfl, rfl⟩, hK _ h⟩

theorem wpQuiet_call (v : Value) {f : FuncId} {args : Array Value} (hw : Region.wanted o (yielded ops a.tmps) = true) (hr : ∀ w, C w → (execOp a.eval o).run P w = .ok (.enter f args) w) (hc : ∀ w, C w → Calls P f args w (fun e w' => e = .returned v ∧ C w'))
    (h : wpQuiet P ops C Q rest (a.put o.dst v)) : wpQuiet P ops C Q (o :: rest) a :=
  BigFrame.wpQuiet_want hw fun K hK => ⟨v, fun w hC => by unfold Oper.quietAt; rw [hr w hC]; exact ⟨rfl, hc w hC⟩, hK _ h⟩

theorem wpQuiet_mono' {Q' : Act → Prop} (hq : ∀ a, Q a → Q' a) : ∀ (l : List Oper) (a : Act), wpQuiet P ops C Q l a → wpQuiet P ops C Q' l a
  | [], a, h => hq _ h
  | o :: l, a, h => by
    unfold wpQuiet at h ⊢
    split
    · rename_i hw
      rw [if_pos hw] at h
      exact Oper.quiet_mono (fun a' h' => wpQuiet_mono' hq l a' h') h
    · rename_i hw
      rw [if_neg hw] at h
      exact wpQuiet_mono' hq l _ h

theorem GoesI.quiet {Part' : Part} (hP : Safe P Part') (hm : P.follows .mixedOrders = true) {Stop : Goroutine → World → Prop} {id : Nat} {b : Frame} {k : List Item} {L : List Frame} {w : World} (hCsw : ∀ w τ d, C w → C (sw w τ d)) (ho : OKs Part' (b.at a [.code (.region id ops true)]) [])
    (hB : Region.lexB .any ops = true) (hC : C w) (a1 : Act) (h : wpQuiet P ops C (fun a' => a' = a1) ops.toList a) (hg : ∀ w', C w' → GoesI P Stop (G (b.at a1 k) L) w') : GoesI P Stop (G (b.at a (.code (.region id ops true) :: k)) L) w := by
  refine GoesI.bind (GoesI.mono ?_ (piece hP (R := fun a' w' => a' = a1 ∧ C w') (fun a' w' τ d ⟨h1, h2⟩ => ⟨h1, hCsw _ _ _ h2⟩) ho (fun τ d => ?_) k L))
  · rintro g w' ⟨a', rfl, ⟨rfl, hC'⟩, _⟩
    exact hg w' hC'
  · refine wp_region_quiet (C := C) hm hB (hCsw w τ (d + 1) hC) ?_
    exact wpQuiet_mono' (fun a' e w' hC' => ⟨rfl, e, hC'⟩) _ _ h
end

theorem OKs.mk' {Q : Part} {f : FuncId} {T : Array Value} {c : Code} {S : List Tmp} (hb : Q.base f = some S) (hfv : ∀ t ∈ S, FV Q (T.getD t undef)) (hc : codeOk Q S c = true) : OKs Q ((base f).at ⟨T, []⟩ [.code c]) [] := by
  refine ⟨⟨S, hb, rfl, rfl, rfl, hfv, fun it hit => ?_⟩, by simp⟩
  have : it = .code c := List.mem_singleton.1 hit
  subst this
  exact hc

theorem addr_zero (g o : Nat) : Addr.add ⟨g, o, none⟩ 0 = ⟨g, o, none⟩ := rfl

/-- 'l[:h]' -/
theorem run_slice_to {o : Oper} {a : Act} {w : World} {x y : Operand} {base : Option Addr} {n cap h : Nat} (hop : o.op = .slice 22 x none (some y) none) (hx : a.eval x = .slice base n cap) (hy : a.eval y = .int .i64 ((h : Nat) : Int)) (hle : h ≤ cap) (hb : base = none ∨ ∃ g o, base = some ⟨g, o, none⟩) :
    (execOp a.eval o).run Try.prog w = .ok (.value (.slice base h cap)) w := by
  obtain ⟨i27, hi, hz, hs27, hb27⟩ := info_parts info27
  unfold execOp
  simp [hop, hx, hy, Instr.sliceAt, Instr.slice, Instr.sliceBounds, Instr.sliceBound, run_underlying Try.underlying22, asIntOf, hle, sizeOf, typeInfo, hi]
  rcases hb with rfl | ⟨g, o, rfl⟩ <;> simp [addr_zero]

/-- 'l[1:]' -/
theorem run_slice_from {o : Oper} {a : Act} {w : World} {x y : Operand} {base : Option Addr} {n cap : Nat} (hop : o.op = .slice 22 x (some y) none none) (hx : a.eval x = .slice base n cap) (hy : a.eval y = .int .i64 1) (hle : 1 ≤ n) (hnc : n ≤ cap) :
    (execOp a.eval o).run Try.prog w = .ok (.value (.slice (if cap = 1 then base else base.map (·.add 12)) (n - 1) (cap - 1))) w := by
  obtain ⟨i27, hi, hz, hs27, hb27⟩ := info_parts info27
  have h1 : (1 : Int) ≤ (n : Int) := by omega
  unfold execOp
  simp [hop, hx, hy, Instr.sliceAt, Instr.slice, Instr.sliceBounds, Instr.sliceBound, run_underlying Try.underlying22, asIntOf, h1, sizeOf, typeInfo, hi, hs27]
end Go.Proofs.Ytofoplpnpfaofaa
