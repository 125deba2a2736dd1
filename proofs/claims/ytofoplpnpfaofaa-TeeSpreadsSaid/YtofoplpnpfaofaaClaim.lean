/- What is proved here: from a law's run to what its claim asks. Conditions: none beside those that the statements write out. -/
import Derived.Test.YtofoplpnpfaofaaU2
import Derived.Test.YtofoplpnpfaofaaGoes
import Derived.Test.YtofoplpnpfaofaaRows
import Derived.Carry
import Derived.OpenShut
set_option linter.unusedSimpArgs false
set_option linter.unusedVariables false
namespace Go.Proofs.Ytofoplpnpfaofaa
open Go Go.Conc Go.RowKit Go.ChangeShapes Go.WideShapes Go.ChangeAt Go.Deep

theorem own : ownKnob Try.prog.godebug = none := by kernel_rfl
theorem laidOut : laidOutB Try.prog = true := by kernel_rfl
theorem noInits (f : FuncId) (h : Try.prog.inits.idxOf? f = none) : Try.prog.inits.idxOf? f = none := h

section
variable {H : Type} {enc : TypeId × Value → H}

theorem args_on {W w' : World} (hb : Below W.heap.size W w') : ∀ {ts : List TypeId} {vs : List Value} {ds : List (DataW H)} {ps : List MemPlace}, (∀ t ∈ ts, Try.prog.readableRec t = true ∧ t < Try.prog.types.size) → DataW.TrodAll enc Try.prog W 0 (fun _ => true) true ts vs ds ps →
    (∀ x ∈ ps, x.block < W.heap.size) → DataW.TrodAll enc Try.prog w' 0 (fun b => decide (b < W.heap.size)) true ts vs ds ps
  | [], _, _, _, _, h, _ => by
    obtain ⟨rfl, rfl, rfl⟩ := trodAll_nil h
    exact trodAll_mk0
  | t :: ts, vs, ds, ps, hts, h, hlt => by
    obtain ⟨v, vs', d, ds', p, p', rfl, rfl, rfl, h1, h2⟩ := trodAll_cons h
    exact trodAll_cons_mk (Below.trod laidOut (hts t (by simp)).1 (hts t (by simp)).2 h1 hb (fun x hx => hlt x (by simp [hx]))) (args_on hb (fun t ht => hts t (by simp [ht])) h2 (fun x hx => hlt x (by simp [hx])))

/-- ████ The law answered true, and what came in stands. ████ -/
theorem post_true {s : ChangeSpec} {fn : Func} {W w' : World} {args : Array Value} {ds gs : List (DataW H)} {before : List MemPlace} (hW : DataW.Whole enc Try.prog fn.params.toList s.vars false W args.toList ds gs before) (hvs : s.vars = []) (hres : (s.fn H (ds ++ gs)).results = [.lit (.bool true)]) (hargs : (s.fn H (ds ++ gs)).args = ds) (hvars : (s.fn H (ds ++ gs)).vars = [])
    (hrt : fn.resultTypes = #[4]) (hts : ∀ t ∈ fn.params.toList, Try.prog.readableRec t = true ∧ t < Try.prog.types.size) (ho : Old W w' (fun _ => False)) : s.post enc Try.prog fn false true false false W args (.bool true) w' := by
  have hW' := hW
  obtain ⟨p, q, hA, hV, rfl, _, _⟩ := hW
  have hlt : ∀ x ∈ p, x.block < W.heap.size := fun x hx => hW'.lt x (by simp [hx])
  let w2 : World := { w' with tape := W.tape }
  have hb : Below W.heap.size W w2 := ⟨ho.os, rfl, ho.output, ho.size, fun k hk => ho.block k hk id⟩
  refine ⟨ds, gs, p ++ q, [], p, [], hW', ?_, ?_, ?_, ?_, fun h => by cases h⟩
  · rw [hres, hrt]
    exact trodAll_mk1 ⟨1, by simp [DataW.trod, Try.underlying4, Value.cells]⟩
  · rw [hargs]
    exact (args_on hb hts hA hlt).of_heap (by rfl)
  · rw [hvars, hvs]
    rfl
  · have h := hb.frame (fun p_1 => p_1 ∈ p ++ q ∧ (p_1 ∈ ([] : List MemPlace) ∨ p_1 ∈ p ∨ p_1 ∈ ([] : List MemPlace)))
    exact h

/-- ████ A list of records that came in, its room too. ████ -/
theorem open_arg {W : World} {base j : Nat} {v0 : Value} {d0 : DataW H} {p : List MemPlace} {ts : List TypeId} {ds : List (DataW H)} (hval : Value.okWide Try.prog W .any base 22 v0) (h : DataW.Trod enc Try.prog W 0 (fun _ => true) true 22 v0 d0 p)
    (hsz : (DataW.weightsEach Try.prog ts ds).all (· ≤ reachBytes) = true) (ht : ts[j]? = some 22) (hd : ds[j]? = some d0) :
    ∃ b1 n c1 vs, v0 = .slice b1 n c1 ∧ In4 W b1 n c1 vs := by
  obtain ⟨a0, len, cap, rfl⟩ := okWide_slice Try.underlying22 hval
  obtain ⟨fuel, hf⟩ := h
  have hf' : DataW.trod enc Try.prog W 0 (fun _ => true) true fuel 22 [.slice a0 len cap] = some (d0, p) := by simpa [Value.cells] using hf
  obtain ⟨h1, h2, h3, vs, h4, h5, h6⟩ := open_recs hf' (has_spot hval)
  refine ⟨a0, len, cap, vs, rfl, h4, h5, h6, ?_, h1, h3⟩
  rcases open_slice Try.underlying22 hf' with ⟨h0, _⟩ | ⟨a, len', cap', m, n, D, Pl, hcs, _, _, _, _, hx, _⟩
  · simp at h0
    omega
  · simp at hcs
    obtain ⟨rfl, rfl, rfl⟩ := hcs
    obtain ⟨rfl, _⟩ := Prod.mk.inj hx
    have := sized_slice hsz ht hd Try.underlying22
    rw [bytes27] at this
    simp only [List.length_map, List.length_range, reachBytes] at this
    omega
end
end Go.Proofs.Ytofoplpnpfaofaa
