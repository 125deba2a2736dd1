/- What is proved here: how what came in reads. Conditions: none beside those that the statements write out. -/
import Derived.Test.YtnpgjecifllnaaaT3
import Derived.Test.YtnpgjecifllnaaaRows
import Derived.Carry
import Derived.OpenShut
import Derived.ProofKit
set_option linter.unusedSimpArgs false
set_option linter.unusedVariables false
namespace Go.Proofs.Ytnpgjecifllnaaa
open Go Go.RowKit Go.ChangeShapes Go.WideShapes Go.ChangeAt Go.Deep

theorem own : ownKnob Try.prog.godebug = none := by kernel_rfl
theorem laidOut : laidOutB Try.prog = true := by kernel_rfl

section
variable {H : Type} {enc : TypeId × Value → H}

theorem args_on {W w' : World} (hb : Below W.heap.size W w') : ∀ {ts : List TypeId} {vs : List Value} {ds : List (DataW H)} {ps : List MemPlace}, (∀ t ∈ ts, Try.prog.readableRec t = true ∧ t < Try.prog.types.size) → DataW.TrodAll enc Try.prog W 0 (fun _ => true) true ts vs ds ps →
    (∀ x ∈ ps, x.block < W.heap.size) → DataW.TrodAll enc Try.prog w' 0 (fun b => decide (b < W.heap.size)) true ts vs ds ps
  | [], _, _, _, _, h, _ => by
    obtain ⟨rfl, rfl, rfl⟩ := trodAll_nil h
    exact trodAll_mk0
  | t :: ts, vs, ds, ps, hts, h, hlt => by
    obtain ⟨v, vs', d, ds', p, p', rfl, rfl, rfl, h1, h2⟩ := trodAll_cons h
    exact trodAll_cons_mk (Below.trod laidOut (hts t (by simp)).1 (hts t (by simp)).2 h1 hb (fun x hx => hlt x (by simp [hx]))) (args_on hb (fun t ht => hts t (by simp [ht])) h2 (fun x hx => hlt x (by simp [hx])))

/-- The law answered true, and what came in stands. -/
theorem post_true {s : ChangeSpec} {fn : Func} {W w' : World} {args : Array Value} {ds gs : List (DataW H)} {before : List MemPlace} (hW : DataW.Whole enc Try.prog fn.params.toList s.vars false W args.toList ds gs before) (hvs : s.vars = []) (hres : (s.fn H (ds ++ gs)).results = [.lit (.bool true)]) (hargs : (s.fn H (ds ++ gs)).args = ds) (hvars : (s.fn H (ds ++ gs)).vars = [])
    (hrt : fn.resultTypes = #[4]) (hts : ∀ t ∈ fn.params.toList, Try.prog.readableRec t = true ∧ t < Try.prog.types.size) (ho : Old W w' No) : s.post enc Try.prog fn false true false false W args (.bool true) w' := by
  have hW' := hW
  obtain ⟨p, q, hA, hV, rfl, _, _⟩ := hW
  have hlt : ∀ x ∈ p, x.block < W.heap.size := fun x hx => hW'.lt x (by simp [hx])
  let w2 : World := { w' with tape := W.tape }
  have hb : Below W.heap.size W w2 := ⟨ho.os, rfl, ho.output, ho.size, fun k hk => ho.block k hk id⟩
  refine ⟨ds, gs, p ++ q, [], p, [], hW', ?_, ?_, ?_, ?_, fun h => by cases h⟩
  · rw [hres, hrt]
    exact trodAll_mk1 ⟨1, by simp [DataW.trod, Try.underlying4, Value.cells]⟩
  · rw [hargs]
    exact (args_on hb hts hA hlt).of_heap (by rfl)
  · rw [hvars, hvs]
    rfl
  · have h := hb.frame (fun p_1 => p_1 ∈ p ++ q ∧ (p_1 ∈ ([] : List MemPlace) ∨ p_1 ∈ p ∨ p_1 ∈ ([] : List MemPlace)))
    exact h

variable {W : World} {spare : Nat → Bool} {held : Bool}
theorem lt_of_cell {w : World} {o q : Nat} {u : Value} (h : w.cell? ⟨o, q, none⟩ = some u) : o < w.heap.size := by
  unfold World.cell? at h
  split at h
  · rename_i e; exact lt_of_heap e
  · cases h
theorem add_zero (a : Addr) : a.add 0 = a := by unfold Addr.add; rfl
theorem plain_of {a : Addr} (h : a.spot = none) : ∃ o q, a = ⟨o, q, none⟩ := by
  obtain ⟨b, o, spot⟩ := a
  simp only at h
  subst h
  exact ⟨b, o, rfl⟩
theorem addr_of {w : World} {a : Addr} {u : Value} (h : w.cell? (a.add 0) = some u) : ∃ o q, a = ⟨o, q, none⟩ := plain_of (by rw [add_zero] at h; exact World.cell?_spot h)
/-- A slice of one-cell values that came in. -/
theorem rd_of {t e : TypeId} {n : Nat} {u : Value} {y : DataW H × List MemPlace} (hu : Try.prog.underlying t = some (.slice e)) (hc : Try.prog.cellsOf e = 1) (hone : ∀ n u y, DataW.trod enc Try.prog W 0 spare held n e [u] = some y → u.oneCell' = true) (h : DataW.trod enc Try.prog W 0 spare held n t [u] = some y) : ∃ b l c, u = .slice b l.length c ∧ Rd W (.slice b l.length c) l ∧ Ones l := by
  rcases open_slice1 hu hc h with ⟨h0, _⟩ | ⟨a, len, cap, m, n', V, D, Pl, hcs, hb, hl, hm, hmm, hx, hi⟩
  · simp at h0
    subst h0
    exact ⟨none, [], 0, rfl, ⟨none, 0, rfl, Nat.le_refl _, .inl rfl, fun i u h => by simp at h⟩, fun u hu => by simp at hu⟩
  · simp at hcs
    subst hcs
    have hlm : len ≤ m := by rw [hmm]; split <;> omega
    have hlen : ((List.range len).map V).length = len := by simp
    refine ⟨some a, (List.range len).map V, cap, by rw [hlen], ⟨some a, cap, rfl, by rw [hlen]; exact hl, .inr ⟨a, rfl⟩, fun i u hiu => ?_⟩, fun u hu => ?_⟩
    · have hil : i < len := by have := (List.getElem?_eq_some_iff.1 hiu).1; rw [hlen] at this; exact this
      have hcell := (hi i (by omega)).1
      obtain ⟨o, q, rfl⟩ := addr_of (hi 0 (by omega)).1
      rw [add_mid] at hcell
      have : u = V i := by simp [hil] at hiu; exact hiu.symm
      subst this
      exact ⟨o, q, rfl, lt_of_cell hcell, hcell⟩
    · simp only [List.mem_map, List.mem_range] at hu
      obtain ⟨i, hil, rfl⟩ := hu
      exact hone _ _ _ (hi i (by omega)).2
theorem cells35 : Try.prog.cellsOf 35 = 8 := by kernel_rfl
theorem cells40 : Try.prog.cellsOf 40 = 4 := by kernel_rfl
theorem cells31 : Try.prog.cellsOf 31 = 1 := by kernel_rfl
theorem cells32 : Try.prog.cellsOf 32 = 1 := by kernel_rfl
theorem cells33 : Try.prog.cellsOf 33 = 1 := by kernel_rfl
theorem cells3 : Try.prog.cellsOf 3 = 1 := by kernel_rfl
theorem cells4 : Try.prog.cellsOf 4 = 1 := by kernel_rfl
theorem cells5 : Try.prog.cellsOf 5 = 1 := by kernel_rfl
theorem bytes35 : Try.prog.bytesOf 35 = 96 := by kernel_rfl

theorem take_one {cs : List Value} {j : Nat} {v : Value} (h : (cs.drop j).take 1 = [v]) : cs[j]? = some v := by
  cases hd : cs.drop j with
  | nil => rw [hd] at h; simp at h
  | cons x l =>
    rw [hd] at h
    simp at h
    subst h
    have := congrArg (fun l => l[0]?) hd
    simpa using this
theorem one_int {t : TypeId} {k : IntKind} {n j : Nat} {cs : List Value} {y : DataW H × List MemPlace} (hu : Try.prog.underlying t = some (.int k)) (hc : Try.prog.cellsOf t = 1) (h : DataW.trod enc Try.prog W 0 spare held n t ((cs.drop j).take (Try.prog.cellsOf t)) = some y) : ∃ a : Int, cs[j]? = some (.int k a) ∧ (Lit.int k a).wf = true := by
  rw [hc] at h
  obtain ⟨m, e, _, hw⟩ := DataW.trod_int hu h
  exact ⟨m, take_one e, hw⟩
theorem one_any {t : TypeId} {n j : Nat} {cs : List Value} {y : DataW H × List MemPlace} (hj : j < cs.length) (hc : Try.prog.cellsOf t = 1) (h : DataW.trod enc Try.prog W 0 spare held n t ((cs.drop j).take (Try.prog.cellsOf t)) = some y) : ∃ u, cs[j]? = some u ∧ DataW.trod enc Try.prog W 0 spare held n t [u] = some y := by
  rw [hc] at h
  have e : (cs.drop j).take 1 = [cs[j]] := by
    rw [List.drop_eq_getElem_cons hj]
    rfl
  rw [e] at h
  exact ⟨_, List.getElem?_eq_getElem hj, h⟩
theorem one8 : ∀ n u y, DataW.trod enc Try.prog W 0 spare held n 5 [u] = some y → u.oneCell' = true := fun n u y h => by
  obtain ⟨m, e, _⟩ := DataW.trod_int Try.underlying5 h
  simp at e
  subst e
  rfl
theorem oneB : ∀ n u y, DataW.trod enc Try.prog W 0 spare held n 4 [u] = some y → u.oneCell' = true := fun n u y h => by
  obtain ⟨m, e, _⟩ := DataW.trod_bool Try.underlying4 h
  simp at e
  subst e
  rfl
/-- A transaction that came in. -/
def RowA (W : World) (a : AskA) (cs : List Value) : Prop := ∃ db dc sb sc, cs = [.int .i64 a.port, .int .i64 a.id, .int .i64 a.kind, .int .u64 a.addr, .int .i64 a.beats, .slice db a.ds.length dc, .slice sb a.ss.length sc, .int .i64 a.size] ∧ Rd W (.slice db a.ds.length dc) a.ds ∧ Rd W (.slice sb a.ss.length sc) a.ss ∧ 0 ≤ a.addr ∧ a.addr < 18446744073709551616 ∧ Ones a.ds ∧ Ones a.ss
set_option maxRecDepth 100000 in
theorem ask_of {cs : List Value} {fuel : Nat} {x : DataW H × List MemPlace} (h : DataW.trod enc Try.prog W 0 spare held fuel 35 cs = some x) : ∃ a, RowA W a cs := by
  obtain ⟨xs, n, _, _, hlen, hx, hf⟩ := DataW.trod_struct Try.underlying35 h
  rw [cells35] at hlen
  have hxs : xs.length = 8 := hx
  have hat : ∀ i, i < 8 → ∃ y, xs[i]? = some y := fun i hi => ⟨xs[i]'(by omega), List.getElem?_eq_getElem _⟩
  obtain ⟨y0, g0⟩ := hat 0 (by omega)
  obtain ⟨y1, g1⟩ := hat 1 (by omega)
  obtain ⟨y2, g2⟩ := hat 2 (by omega)
  obtain ⟨y3, g3⟩ := hat 3 (by omega)
  obtain ⟨y4, g4⟩ := hat 4 (by omega)
  obtain ⟨y5, g5⟩ := hat 5 (by omega)
  obtain ⟨y6, g6⟩ := hat 6 (by omega)
  obtain ⟨y7, g7⟩ := hat 7 (by omega)
  obtain ⟨a0, c0, _⟩ := one_int (enc := enc) Try.underlying3 cells3 ((hf 0 _ rfl).trans g0)
  obtain ⟨a1, c1, _⟩ := one_int (enc := enc) Try.underlying3 cells3 ((hf 1 _ rfl).trans g1)
  obtain ⟨a2, c2, _⟩ := one_int (enc := enc) Try.underlying3 cells3 ((hf 2 _ rfl).trans g2)
  obtain ⟨a3, c3, w3⟩ := one_int (enc := enc) Try.underlying31 cells31 ((hf 3 _ rfl).trans g3)
  obtain ⟨a4, c4, _⟩ := one_int (enc := enc) Try.underlying3 cells3 ((hf 4 _ rfl).trans g4)
  obtain ⟨u5, c5, h5⟩ := one_any (enc := enc) (j := 5) (by rw [hlen]; decide) cells32 ((hf 5 _ rfl).trans g5)
  obtain ⟨u6, c6, h6⟩ := one_any (enc := enc) (j := 6) (by rw [hlen]; decide) cells33 ((hf 6 _ rfl).trans g6)
  obtain ⟨a7, c7, _⟩ := one_int (enc := enc) Try.underlying3 cells3 ((hf 7 _ rfl).trans g7)
  obtain ⟨db, ds, dc, rfl, hd, o1⟩ := rd_of Try.underlying32 cells5 one8 h5
  obtain ⟨sb, ss, sc, rfl, hs, o2⟩ := rd_of Try.underlying33 cells4 oneB h6
  match cs, hlen with
  | [_, _, _, _, _, _, _, _], _ =>
    cases c0; cases c1; cases c2; cases c3; cases c4; cases c5; cases c6; cases c7
    have hw : 0 ≤ a3 ∧ a3 < 18446744073709551616 := by
      simp only [Lit.wf, Bool.and_eq_true, decide_eq_true_eq] at w3
      have e1 : IntKind.u64.min = 0 := by decide
      have e2 : IntKind.u64.max = 18446744073709551615 := by decide
      rw [e1, e2] at w3
      omega
    exact ⟨⟨a0, a1, a2, a3, a4, a7, ds, ss⟩, db, dc, sb, sc, rfl, hd, hs, hw.1, hw.2, o1, o2⟩
instance : Inhabited AskA := ⟨first0⟩
instance : Inhabited InA := ⟨⟨0, 0, 0, 0⟩⟩
/-- A list of transactions that came in. -/
theorem askl_of {n : Nat} {u : Value} {y : DataW H × List MemPlace} (h : DataW.trod enc Try.prog W 0 spare held n 22 [u] = some y) : ∃ l, AskL W u l ∧ ((y = (.nil, []) ∧ l = []) ∨ ∃ el sp pl, y = (.slice el sp, pl) ∧ el.length = l.length) := by
  rcases open_slice Try.underlying22 h with ⟨h0, hy⟩ | ⟨a, len, cap, m, n', D, Pl, hcs, hb, hl, hm, hmm, hx, hi⟩
  · simp at h0
    subst h0
    exact ⟨[], ⟨none, 0, rfl, fun i a h => by simp at h⟩, .inl ⟨hy, rfl⟩⟩
  · simp at hcs
    subst hcs
    have hlm : len ≤ m := by rw [hmm]; split <;> omega
    obtain ⟨F, hF⟩ := choose_lt (n := len) (p := fun i (a0 : AskA) => ∃ cs, (∀ j, j < 8 → W.cell? ((a.add (i * 8)).add j) = cs[j]?) ∧ RowA W a0 cs) (fun i hil => by
      obtain ⟨cs', hc, ht⟩ := hi i (by omega)
      rw [cells35] at hc
      obtain ⟨_, hlen, hat⟩ := World.cells?_some hc
      obtain ⟨a0, ha⟩ := ask_of ht
      exact ⟨a0, cs', hat, ha⟩)
    have hlen : ((List.range len).map F).length = len := by simp
    refine ⟨(List.range len).map F, ⟨some a, cap, by rw [hlen], fun i a0 hi0 => ?_⟩, .inr ⟨_, _, _, hx, by simp⟩⟩
    have hil : i < len := by have := (List.getElem?_eq_some_iff.1 hi0).1; rw [hlen] at this; exact this
    have e : a0 = F i := by simp [hil] at hi0; exact hi0.symm
    subst e
    obtain ⟨cs, hcell, db, dc, sb, sc, rfl, h1, h2, h3⟩ := hF i hil
    have hc0 := hcell 0 (by omega)
    have hsp : ∃ o q, a = ⟨o, q, none⟩ := by
      obtain ⟨cs2, hcell2, _, _, _, _, rfl, _⟩ := hF 0 (by omega)
      have h2 := hcell2 0 (by omega)
      rw [Nat.zero_mul, add_zero] at h2
      exact addr_of h2
    obtain ⟨o, q, rfl⟩ := hsp
    rw [add_mid, add_mid] at hc0
    refine ⟨o, q, db, dc, sb, sc, rfl, lt_of_cell hc0, fun j v hj => ?_, h1, h2, h3⟩
    have hj8 : j < 8 := by have := (List.getElem?_eq_some_iff.1 hj).1; simpa using this
    have := hcell j hj8
    rw [hj, add_mid, add_mid] at this
    exact this
set_option maxRecDepth 100000 in
/-- An input that came in. -/
theorem in_of {cs : List Value} {fuel : Nat} {x : DataW H × List MemPlace} (h : DataW.trod enc Try.prog W 0 spare held fuel 40 cs = some x) : ∃ a : InA, cs = a.cells := by
  obtain ⟨xs, n, _, _, hlen, hx, hf⟩ := DataW.trod_struct Try.underlying40 h
  rw [cells40] at hlen
  have hxs : xs.length = 4 := hx
  have hat : ∀ i, i < 4 → ∃ y, xs[i]? = some y := fun i hi => ⟨xs[i]'(by omega), List.getElem?_eq_getElem _⟩
  obtain ⟨y0, g0⟩ := hat 0 (by omega)
  obtain ⟨y1, g1⟩ := hat 1 (by omega)
  obtain ⟨y2, g2⟩ := hat 2 (by omega)
  obtain ⟨y3, g3⟩ := hat 3 (by omega)
  obtain ⟨a0, c0, _⟩ := one_int (enc := enc) Try.underlying3 cells3 ((hf 0 _ rfl).trans g0)
  obtain ⟨a1, c1, _⟩ := one_int (enc := enc) Try.underlying3 cells3 ((hf 1 _ rfl).trans g1)
  obtain ⟨a2, c2, _⟩ := one_int (enc := enc) Try.underlying3 cells3 ((hf 2 _ rfl).trans g2)
  obtain ⟨a3, c3, _⟩ := one_int (enc := enc) Try.underlying3 cells3 ((hf 3 _ rfl).trans g3)
  match cs, hlen with
  | [_, _, _, _], _ =>
    cases c0; cases c1; cases c2; cases c3
    exact ⟨⟨a0, a1, a2, a3⟩, rfl⟩
/-- A list of inputs that came in. -/
theorem inl_of {n : Nat} {u : Value} {y : DataW H × List MemPlace} (h : DataW.trod enc Try.prog W 0 spare held n 23 [u] = some y) : ∃ l, InL W u l := by
  rcases open_slice Try.underlying23 h with ⟨h0, hy⟩ | ⟨a, len, cap, m, n', D, Pl, hcs, hb, hl, hm, hmm, hx, hi⟩
  · simp at h0
    subst h0
    exact ⟨[], none, 0, rfl, fun i a h => by simp at h⟩
  · simp at hcs
    subst hcs
    have hlm : len ≤ m := by rw [hmm]; split <;> omega
    obtain ⟨F, hF⟩ := choose_lt (n := len) (p := fun i (a0 : InA) => ∀ j, j < 4 → W.cell? ((a.add (i * 4)).add j) = a0.cells[j]?) (fun i hil => by
      obtain ⟨cs', hc, ht⟩ := hi i (by omega)
      rw [cells40] at hc
      obtain ⟨_, hlen, hat⟩ := World.cells?_some hc
      obtain ⟨a0, rfl⟩ := in_of ht
      exact ⟨a0, hat⟩)
    have hlen : ((List.range len).map F).length = len := by simp
    refine ⟨(List.range len).map F, some a, cap, by rw [hlen], fun i a0 hi0 => ?_⟩
    have hil : i < len := by have := (List.getElem?_eq_some_iff.1 hi0).1; rw [hlen] at this; exact this
    have e : a0 = F i := by simp [hil] at hi0; exact hi0.symm
    subst e
    have hcell := hF i hil
    have hc0 := hcell 0 (by omega)
    have hsp : ∃ o q, a = ⟨o, q, none⟩ := by
      have h2 := hF 0 (by omega) 0 (by omega)
      rw [Nat.zero_mul, add_zero] at h2
      exact addr_of h2
    obtain ⟨o, q, rfl⟩ := hsp
    rw [add_mid, add_mid] at hc0
    refine ⟨o, q, rfl, lt_of_cell hc0, fun j v hj => ?_⟩
    have hj8 : j < 4 := by have := (List.getElem?_eq_some_iff.1 hj).1; simpa [InA.cells] using this
    have := hcell j hj8
    rw [hj, add_mid, add_mid] at this
    exact this
end
end Go.Proofs.Ytnpgjecifllnaaa
