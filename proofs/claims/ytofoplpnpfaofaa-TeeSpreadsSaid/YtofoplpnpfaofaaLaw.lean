/- What is proved here: how a law's walk becomes its run; how a list that came in reads. Conditions: none beside those that the statements write out. -/
import Derived.Test.YtofoplpnpfaofaaMerge
import Derived.Conc.LeavingOf
import Derived.Deep.Slices
import Derived.ChangeSame
set_option linter.unusedSimpArgs false
set_option linter.unusedVariables false
namespace Go.Proofs.Ytofoplpnpfaofaa
open Go Go.Conc Go.RowKit Go.ChangeShapes Go.WideShapes Go.ChangeAt Go.Deep

section
variable {P : Program}

/-- At its end: the value is handed out. -/
def AtDone (P : Program) (v : Value) (g : Goroutine) : Prop := g.status = .running ∧ ∀ w, stepG P true g w = .ended (.done v) w #[]

theorem atDone {f : FuncId} {fn : Func} {t : Tmp} (hin : P.inits.idxOf? f = none) (hf : P.funcs[f]? = some fn) (hr : fn.results = #[.tmp t]) {a : Act} (hd : a.defers = []) {todo : List Item} :
    AtDone P (a.tmps.getD t undef) (G { (base f).at a todo with mode := .returning } []) := by
  refine ⟨rfl, fun w => ?_⟩
  have hrun := results_tmp hr a.tmps P w
  have hev := events_results_tmp (P := P) (w := w) hr a.tmps
  simp [G, stepG, unwind, doReturn, Frame.at, Go.Conc.base, hd, hf, hrun, hev, seen, GStep.after, hin]

theorem good_of_reach {g : Goroutine} {w : World} {v : Value} {Post : Value → World → Prop} (h : Reach P g w fun g' w' => AtDone P v g' ∧ ∀ d, Post v (w'.at d)) :
    ∃ M last o w' t', runNT P (M + 1) (solo g w) #[] = (.ended o w', t') ∧ runN P M (solo g w) = .next last ∧ step P last = .ended o w' ∧ Go.Conc.Good P Post last o w' t' := by
  obtain ⟨N, gs, w1, sl, t1, g1, e1, ⟨h0, ⟨q, hL⟩, hP⟩, hd, hp⟩ := h #[g] none #[] ⟨rfl, ⟨_, lv_one P g⟩, past0_nil _⟩
  obtain ⟨N2, last, o, w2, t2, f1, f2, f3, f4⟩ := ends0 (Post := Post) (sl := sl) (GoesI.stop (P := P) fun d => ⟨hd.1, v, #[], hd.2 _, by simp, hp d⟩) h0 hL hP
  refine ⟨N + N2, last, o, w2, t2, ?_, ?_, f3, f4⟩
  · rw [solo_eq_crowd, show N + N2 + 1 = N + (N2 + 1) by omega, runNT_add, e1]
    exact f1
  · rw [solo_eq_crowd, runN_add, ← runNT_fst P N _ #[], e1]
    exact f2
end

/-- A piece of code, and what is behind it. -/
theorem GoesI.pc {P : Program} {Q : Part} (hP : Safe P Q) {Stop : Goroutine → World → Prop} {c : Code} {f : FuncId} {a : Act} {w : World} {R : Act → World → Prop} {k : List Item} {L : List Frame} {S : List Tmp} (hR : ∀ a w τ d, R a w → R a (sw w τ d))
    (hb : Q.base f = some S) (hd : a.defers = []) (hfv : ∀ t ∈ S, FV Q (a.tmps.getD t undef)) (hc : codeOk Q S c = true) (H : ∀ τ d, c.wp P (fun e a' w' => e = .normal ∧ R a' w') a (sw w τ d))
    (hg : ∀ a' w', R a' w' → a'.defers = [] → (∀ t ∈ S, FV Q (a'.tmps.getD t undef)) → GoesI P Stop (G ((base f).at a' k) L) w') : GoesI P Stop (G ((base f).at a (.code c :: k)) L) w := by
  have ho : OKs Q ((base f).at a [.code c]) [] := by
    refine ⟨⟨S, hb, hd, rfl, rfl, hfv, fun it hit => ?_⟩, by simp⟩
    have : it = .code c := List.mem_singleton.1 hit
    subst this
    exact hc
  refine GoesI.bind (GoesI.mono ?_ (piece hP hR ho H k L))
  rintro g w' ⟨a', rfl, hr, ⟨⟨S', hok⟩, _⟩⟩
  have e : S' = S := Option.some.inj (hok.slots.symm.trans hb)
  subst e
  exact hg a' w' hr hok.defers hok.fv

/-- What lies in a frame's slots. -/
def SlotsL : List (Nat × Value) → Array Value → Prop
  | [], _ => True
  | (i, v) :: l, t => t.getD i undef = v ∧ SlotsL l t

theorem arr_full {n : Nat} {t : Array Value} (h : t.size = n) : t = ((List.range n).map (fun i => t.getD i undef)).toArray := by
  subst h
  apply Array.ext
  · simp
  · intro i h1 h2
    simp [h1]

/-! ### What came in -/
section
variable {H : Type} {enc : TypeId × Value → H} {w : World} {base : Nat} {spare : Nat → Bool} {held : Bool}

theorem cells27 : Try.prog.cellsOf 27 = 12 := by kernel_rfl
theorem bytes27 : Try.prog.bytesOf 27 = 88 := by kernel_rfl
theorem cells24 : Try.prog.cellsOf 24 = 1 := by kernel_rfl
theorem cells25 : Try.prog.cellsOf 25 = 1 := by kernel_rfl
theorem cells4 : Try.prog.cellsOf 4 = 1 := by kernel_rfl
theorem cells3 : Try.prog.cellsOf 3 = 1 := by kernel_rfl

theorem take_one {cs : List Value} {j : Nat} {v : Value} (h : (cs.drop j).take 1 = [v]) : cs[j]? = some v := by
  cases hd : cs.drop j with
  | nil => rw [hd] at h; simp at h
  | cons x l =>
    rw [hd] at h
    simp at h
    subst h
    have := congrArg (fun l => l[0]?) hd
    simpa using this

theorem one_int {t : TypeId} {k : IntKind} {n j : Nat} {cs : List Value} {y : DataW H × List MemPlace} (hu : Try.prog.underlying t = some (.int k)) (hc : Try.prog.cellsOf t = 1) (h : DataW.trod enc Try.prog w base spare held n t ((cs.drop j).take (Try.prog.cellsOf t)) = some y) : ∃ a : Int, cs[j]? = some (.int k a) := by
  rw [hc] at h
  obtain ⟨m, e, _⟩ := DataW.trod_int hu h
  exact ⟨m, take_one e⟩
theorem one_bool {t : TypeId} {n j : Nat} {cs : List Value} {y : DataW H × List MemPlace} (hu : Try.prog.underlying t = some .bool) (hc : Try.prog.cellsOf t = 1) (h : DataW.trod enc Try.prog w base spare held n t ((cs.drop j).take (Try.prog.cellsOf t)) = some y) : ∃ b : Bool, cs[j]? = some (.bool b) := by
  rw [hc] at h
  obtain ⟨m, e, _⟩ := DataW.trod_bool hu h
  exact ⟨m, take_one e⟩

theorem rec_of {cs : List Value} {fuel : Nat} {x : DataW H × List MemPlace} (h : DataW.trod enc Try.prog w base spare held fuel 27 cs = some x) : RecT (.agg cs.toArray) := by
  obtain ⟨xs, n, _, _, hlen, hx, hf⟩ := DataW.trod_struct Try.underlying27 h
  rw [cells27] at hlen
  have hxs : xs.length = 12 := hx
  have hat : ∀ i, i < 12 → ∃ y, xs[i]? = some y := fun i hi => ⟨xs[i]'(by omega), List.getElem?_eq_getElem _⟩
  obtain ⟨y0, g0⟩ := hat 0 (by omega)
  obtain ⟨y1, g1⟩ := hat 1 (by omega)
  obtain ⟨y2, g2⟩ := hat 2 (by omega)
  obtain ⟨y3, g3⟩ := hat 3 (by omega)
  obtain ⟨y4, g4⟩ := hat 4 (by omega)
  obtain ⟨y5, g5⟩ := hat 5 (by omega)
  obtain ⟨y6, g6⟩ := hat 6 (by omega)
  obtain ⟨y7, g7⟩ := hat 7 (by omega)
  obtain ⟨y8, g8⟩ := hat 8 (by omega)
  obtain ⟨y9, g9⟩ := hat 9 (by omega)
  obtain ⟨y10, g10⟩ := hat 10 (by omega)
  obtain ⟨y11, g11⟩ := hat 11 (by omega)
  obtain ⟨a0, c0⟩ := one_int (enc := enc) Try.underlying24 cells24 ((hf 0 _ rfl).trans g0)
  obtain ⟨a1, c1⟩ := one_int (enc := enc) Try.underlying24 cells24 ((hf 1 _ rfl).trans g1)
  obtain ⟨a2, c2⟩ := one_int (enc := enc) Try.underlying25 cells25 ((hf 2 _ rfl).trans g2)
  obtain ⟨a3, c3⟩ := one_bool (enc := enc) Try.underlying4 cells4 ((hf 3 _ rfl).trans g3)
  obtain ⟨a4, c4⟩ := one_int (enc := enc) Try.underlying24 cells24 ((hf 4 _ rfl).trans g4)
  obtain ⟨a5, c5⟩ := one_int (enc := enc) Try.underlying24 cells24 ((hf 5 _ rfl).trans g5)
  obtain ⟨a6, c6⟩ := one_int (enc := enc) Try.underlying3 cells3 ((hf 6 _ rfl).trans g6)
  obtain ⟨a7, c7⟩ := one_int (enc := enc) Try.underlying24 cells24 ((hf 7 _ rfl).trans g7)
  obtain ⟨a8, c8⟩ := one_int (enc := enc) Try.underlying3 cells3 ((hf 8 _ rfl).trans g8)
  obtain ⟨a9, c9⟩ := one_int (enc := enc) Try.underlying24 cells24 ((hf 9 _ rfl).trans g9)
  obtain ⟨a10, c10⟩ := one_int (enc := enc) Try.underlying3 cells3 ((hf 10 _ rfl).trans g10)
  obtain ⟨a11, c11⟩ := one_int (enc := enc) Try.underlying24 cells24 ((hf 11 _ rfl).trans g11)
  match cs, hlen with
  | [_, _, _, _, _, _, _, _, _, _, _, _], _ =>
    cases c0; cases c1; cases c2; cases c3; cases c4; cases c5; cases c6; cases c7; cases c8; cases c9; cases c10; cases c11
    exact ⟨a0, a1, a2, a3, a4, a5, a6, a7, a8, a9, a10, a11, rfl⟩

/-- ████ A list of records that came in. ████ -/
theorem open_recs {fuel len cap : Nat} {a0 : Option Addr} {x : DataW H × List MemPlace} (h : DataW.trod enc Try.prog w 0 spare held fuel 22 [.slice a0 len cap] = some x) (hsp : ∀ a, a0 = some a → a.spot = none) :
    len ≤ cap ∧ cap ≤ maxLen ∧ (a0 = none ∨ ∃ g o, a0 = some ⟨g, o, none⟩) ∧ ∃ vs : List Value, vs.length = len ∧ (∀ v ∈ vs, RecT v) ∧ RowAt w a0 vs := by
  rcases open_slice Try.underlying22 h with ⟨h0, _⟩ | ⟨a, len', cap', m, n, D, Pl, hcs, hb, hl, hm, hmm, hx, hi⟩
  · simp at h0
    obtain ⟨rfl, rfl, rfl⟩ := h0
    exact ⟨Nat.le_refl _, Nat.zero_le _, .inl rfl, [], rfl, by simp, RowAt.nil⟩
  · simp at hcs
    obtain ⟨rfl, rfl, rfl⟩ := hcs
    obtain ⟨b, o, spot⟩ := a
    obtain rfl : spot = none := hsp _ rfl
    refine ⟨hl, hm, .inr ⟨b, o, rfl⟩, ?_⟩
    have hlm : len ≤ m := by rw [hmm]; split <;> omega
    have key : ∀ k, k ≤ len → ∃ vs : List Value, vs.length = k ∧ (∀ v ∈ vs, RecT v) ∧ RowAt w (some ⟨b, o, none⟩) vs := by
      intro k
      induction k with
      | zero => intro _; exact ⟨[], rfl, by simp, RowAt.nil⟩
      | succ k ih =>
        intro hk
        obtain ⟨vs, h1, h2, h3⟩ := ih (by omega)
        obtain ⟨cs', hc, ht⟩ := hi k (by omega)
        rw [cells27] at hc
        obtain ⟨_, hlen, hat⟩ := World.cells?_some hc
        have hrec := rec_of ht
        have hcell : ∀ j u, cs'[j]? = some u → w.cell? ⟨b, o + k * 12 + j, none⟩ = some u := by
          intro j u hj
          have hj12 : j < 12 := by have := (List.getElem?_eq_some_iff.1 hj).1; omega
          have := hat j hj12
          rw [hj, Addr.add_mid, Addr.add_mid] at this
          exact this
        have hlt : b < w.heap.size := by
          have h0 := hcell 0 (cs'[0]'(by omega)) (List.getElem?_eq_getElem _)
          unfold World.cell? at h0
          split at h0
          · rename_i e; exact lt_of_heap e
          · cases h0
        refine ⟨vs ++ [.agg cs'.toArray], by simp [h1], fun v hv => ?_, fun i v hv => ?_⟩
        · rcases List.mem_append.1 hv with hv | hv
          · exact h2 v hv
          · rw [List.mem_singleton.1 hv]; exact hrec
        · rcases Nat.lt_or_ge i vs.length with hlt' | hge
          · rw [List.getElem?_append_left hlt'] at hv
            exact h3 i v hv
          · rw [List.getElem?_append_right hge] at hv
            have hi0 : i - vs.length = 0 := by
              have := (List.getElem?_eq_some_iff.1 hv).1
              simp at this
              omega
            rw [hi0] at hv
            simp at hv
            subst hv
            obtain rfl : i = k := by omega
            exact ⟨b, o, rfl, hlt, fun j u hj => hcell j u (by simpa [Value.cells] using hj)⟩
    exact key len (Nat.le_refl _)
end

theorem has_spot {W : World} {base len cap : Nat} {a0 : Option Addr} (h : Value.okWide Try.prog W .any base 22 (.slice a0 len cap)) : ∀ a, a0 = some a → a.spot = none := by
  rintro a rfl
  simp only [Value.okWide, Try.underlying22, Cell.okWide, Cell.ok] at h
  exact h.2.2.2.1
end Go.Proofs.Ytofoplpnpfaofaa
