/- What is proved here: a walk of goroutine 0 beside goroutines that only leave is carried out by the machine, on whatever tape, with no data race; goroutine 0 knows all that was touched. Conditions: the walk lists plain accesses alone. -/
import Derived.Test.YtofoplpnpfaofaaLift
import Derived.Conc.Pipeline3
set_option linter.unusedSimpArgs false
set_option linter.unusedVariables false
namespace Go.Proofs.Ytofoplpnpfaofaa
open Go Go.Conc
open Go.ConcN (sumTo upd sumTo_upd upd_ne upd_same)

/-- Between two phases. -/
structure Past0 (B : Nat) (t : Trace) : Prop where
  clean : ∀ said, ¬ Race said t
  known : ∀ i a, touchAt t i = some a → a.loc.isMemory = true → Knows t 0 i
  wordless : Wordless t
  low : ∀ op ∈ t, op.act.low B

/-- All but goroutine 0 only leave: number i within q i steps. -/
def LV (P : Program) (gs : Array Goroutine) (q : Nat → Nat) : Prop := ∀ i g, 0 < i → gs[i]? = some g → QuitsIn P (q i) g

section
variable {P : Program}

theorem ofEvent_ok {B : Nat} {e : Event} (h : evOk B e) : (MemAct.ofEvent e).low B ∧ ∀ m, MemAct.ofEvent e = .mark m → Neutral m := by
  obtain ⟨loc, wr, sy⟩ := e
  unfold evOk at h
  cases loc with
  | cell a => exact ⟨h, fun m hm => by cases wr <;> cases sy <;> simp [MemAct.ofEvent] at hm⟩
  | obj r =>
    simp only at h
    cases wr <;> cases sy <;> exact ⟨h, fun m hm => by simp [MemAct.ofEvent] at hm⟩
  | mark m =>
    simp only at h
    subst h
    cases wr <;> cases sy <;> exact ⟨trivial, fun m hm => by simp [MemAct.ofEvent] at hm; exact hm.symm ▸ rfl⟩
  | output => exact h.elim
  | goroutines => exact h.elim

theorem evs_ok {B g : Nat} {fn : FuncId} {pos : String} {es : Array Event} (h : ∀ e ∈ es, evOk B e) :
    (∀ op ∈ MemOp.ofEvents g fn pos es, op.act.low B) ∧ Wordless (MemOp.ofEvents g fn pos es) ∧ ∀ op ∈ MemOp.ofEvents g fn pos es, op.g = g := by
  refine ⟨fun op hop => ?_, fun op hop => ?_, fun op hop => ?_⟩ <;> obtain ⟨e, he, rfl⟩ := Go.Conc.mem_ofEvents hop
  · exact (ofEvent_ok (h e he)).1
  · exact (ofEvent_ok (h e he)).2
  · rfl

theorem Past0.own {B B' : Nat} {t u : Trace} (h : Past0 B t) (hB : B ≤ B') (hu : ∀ op ∈ u, op.g = 0) (hl : ∀ op ∈ u, op.act.low B') (hw : Wordless u) : Past0 B' (t ++ u) := by
  refine ⟨fun said => noRace_append (h.clean said) hu fun i a ha op hop b hb hc => h.known i a ha hc.2.1, fun i a ha hm => ?_, h.wordless.append hw, seen_app (fun op hop => MemAct.low_mono hB (h.low op hop)) hl⟩
  obtain ⟨x, hx, hxa⟩ := touch_of ha
  rcases getElem?_append_cases hx with ⟨_, hx'⟩ | ⟨_, hxu⟩
  · exact (h.known i a (by rw [touchAt_of hx']; exact hxa) hm).app u
  · have := knows_own hx
    rw [hu x hxu] at this
    exact this

theorem Past0.mono {B B' : Nat} {t : Trace} (h : Past0 B t) (hB : B ≤ B') : Past0 B' t := ⟨h.clean, h.known, h.wordless, fun op hop => MemAct.low_mono hB (h.low op hop)⟩

theorem past0_nil (B : Nat) : Past0 B #[] :=
  ⟨fun said => by rintro ⟨i, j, _, ⟨a, b, ha, _⟩, _⟩; simp [Trace.act?] at ha, fun i a ha => by simp [touchAt, Trace.act?] at ha, fun op hop => by simp at hop, by simp⟩

theorem lv_one (P : Program) (a : Goroutine) : LV P #[a] (fun _ => 0) := by
  intro i g hi hg
  have : i < 1 := by simpa using (Array.getElem?_eq_some_iff.1 hg).1
  omega

theorem ofEvents_nil (g : Nat) (fn : FuncId) (pos : String) : MemOp.ofEvents g fn pos #[] = #[] := rfl

theorem quits_awake {n : Nat} {g : Goroutine} (h : QuitsIn P n g) : g.status = .running ∨ g.status = .finished := h.status

theorem quits_woken {g g' b : Goroutine} {w' : World} {k : Nat} (hB : QuitsIn P k b) : woken P g g' w' b = b := by
  unfold woken
  split
  · exact again_running w' hB.status
  · rfl

theorem awake_status {g : Goroutine} (h : g.status = .running ∨ g.status = .finished ∨ g.status = .blocked) : awake g := by
  intro t e
  rw [e] at h
  rcases h with h | h | h <;> cases h

/-- A leaver's turn. -/
theorem leaver_turn {gs : Array Goroutine} {w : World} {sl : Option (Nat × Nat)} {q : Nat → Nat} {i : Nat} {g : Goroutine} (hL : LV P gs q) (hpos : 0 < i) (hi : gs[i]? = some g) (hg : g.status = .running) :
    ∃ gs' k, runT P (crowd gs w sl) i = (.next (crowd gs' w sl), #[]) ∧ gs'.size = gs.size ∧ k + 1 = q i ∧ LV P gs' (upd q i k) ∧ (∀ a, gs[0]? = some a → a.status = .running → gs'[0]? = some a) := by
  have hq := hL i g hpos hi
  have hi0 : (i == 0) = false := by simp; omega
  have hlt : i < gs.size := (Array.getElem?_eq_some_iff.1 hi).1
  cases hqi : q i with
  | zero => rw [hqi] at hq; rw [show g.status = .finished from hq] at hg; cases hg
  | succ k =>
    rw [hqi] at hq
    rcases hq with hf | ⟨_, g', hstp, hq'⟩
    · rw [hf] at hg; cases hg
    have hrunT := runT_crowd_go (P := P) (sl := sl) (i := i) hi (by rw [hi0]; exact hstp w)
    refine ⟨_, k, by rw [hrunT]; rfl, by simp, rfl, fun j x hj hx => ?_, fun a ha hr => ?_⟩
    · by_cases hji : i = j
      · subst hji
        rw [Array.getElem?_setIfInBounds_self_of_lt (by simpa using hlt)] at hx
        obtain rfl := Option.some.inj hx
        rw [upd_same]
        exact hq'
      · rw [Array.getElem?_setIfInBounds_ne hji, Array.getElem?_map] at hx
        obtain ⟨y, hy, rfl⟩ := Option.map_eq_some_iff.1 hx
        have hqj := hL j y hj hy
        rw [quits_woken hqj, upd_ne q k (Ne.symm hji)]
        exact hqj
    · have hne : i ≠ 0 := by omega
      rw [Array.getElem?_setIfInBounds_ne hne, Array.getElem?_map, ha]
      simp [woken_run hr]

/-- Whoever is picked: goroutine 0, behind some turns of leavers. -/
theorem till_own : ∀ (M : Nat) (gs : Array Goroutine) (a : Goroutine) (w : World) (sl : Option (Nat × Nat)) (t : Trace) (q : Nat → Nat), sumTo gs.size q ≤ M → gs[0]? = some a → a.status = .running → LV P gs q →
    ∃ (N : Nat) (gs' : Array Goroutine) (w' : World) (sl' : Option (Nat × Nat)) (q' : Nat → Nat) (d : Nat) (sl'' : Option (Nat × Nat)),
      runNT P N (crowd gs w sl) t = (.next (crowd gs' w' sl'), t) ∧ gs'.size = gs.size ∧ gs'[0]? = some a ∧ LV P gs' q' ∧ (∃ d0, w' = w.at d0) ∧ stepT P (crowd gs' w' sl') = runT P (crowd gs' (w.at d) sl'') 0 := by
  intro M
  induction M with
  | zero =>
    intro gs a w sl t q hM h0 hr hL
    have haw : ∀ g ∈ gs, awake g := by
      intro g hg
      obtain ⟨i, hi, rfl⟩ := Array.mem_iff_getElem.1 hg
      rcases Nat.eq_zero_or_pos i with rfl | hpos
      · have : gs[0] = a := by simpa [Array.getElem?_eq_getElem hi] using h0
        rw [this]; exact awake_status (.inl hr)
      · exact awake_status ((hL i _ hpos (Array.getElem?_eq_getElem hi)).status.elim .inl fun x => .inr (.inl x))
    obtain ⟨i, g, d, sl', hi, hg, hst⟩ := crowd_pick (P := P) (w := w) (sl := sl) haw ⟨0, a, h0, hr⟩
    rcases Nat.eq_zero_or_pos i with rfl | hpos
    · exact ⟨0, gs, w, sl, q, d, sl', rfl, rfl, h0, hL, ⟨w.drawn, rfl⟩, hst⟩
    · exfalso
      obtain ⟨gs', k, _, _, hk, _⟩ := leaver_turn (w := w) (sl := sl) hL hpos hi hg
      have := Go.ConcN.le_sumTo (f := q) (Array.getElem?_eq_some_iff.1 hi).1
      omega
  | succ M ih =>
    intro gs a w sl t q hM h0 hr hL
    have haw : ∀ g ∈ gs, awake g := by
      intro g hg
      obtain ⟨i, hi, rfl⟩ := Array.mem_iff_getElem.1 hg
      rcases Nat.eq_zero_or_pos i with rfl | hpos
      · have : gs[0] = a := by simpa [Array.getElem?_eq_getElem hi] using h0
        rw [this]; exact awake_status (.inl hr)
      · exact awake_status ((hL i _ hpos (Array.getElem?_eq_getElem hi)).status.elim .inl fun x => .inr (.inl x))
    obtain ⟨i, g, d, sl', hi, hg, hst⟩ := crowd_pick (P := P) (w := w) (sl := sl) haw ⟨0, a, h0, hr⟩
    rcases Nat.eq_zero_or_pos i with rfl | hpos
    · exact ⟨0, gs, w, sl, q, d, sl', rfl, rfl, h0, hL, ⟨w.drawn, rfl⟩, hst⟩
    · obtain ⟨gs', k, hrun, hsz, hk, hL', h0'⟩ := leaver_turn (w := w.at d) (sl := sl') hL hpos hi hg
      have hlt := (Array.getElem?_eq_some_iff.1 hi).1
      have hsum : sumTo gs.size (upd q i k) + (k + 1) = sumTo gs.size q + k := by
        have := sumTo_upd q k id hlt
        rw [hk]
        simpa using this
      obtain ⟨N, gs2, w2, sl2, q2, d2, sl3, e1, e2, e3, e4, ⟨d0, e5⟩, e6⟩ := ih gs' a (w.at d) sl' t (upd q i k) (by rw [hsz]; omega) (h0' a h0 hr) hr hL'
      exact ⟨N + 1, gs2, w2, sl2, q2, d2, sl3, by simp only [runNT, hst, hrun, Array.append_empty]; exact e1, e2.trans hsz, e3, e4, ⟨d0, e5⟩, e6⟩

theorem own_turn {gs : Array Goroutine} {a a' : Goroutine} {w w' : World} {sl : Option (Nat × Nat)} {q : Nat → Nat} {es : Array Event} (h0 : gs[0]? = some a) (hL : LV P gs q) (h : stepG P true a w = .go a' w' es) :
    ∃ gs', runT P (crowd gs w sl) 0 = (.next (crowd gs' w' sl), MemOp.ofEvents 0 a.frame.fn a.frame.place es) ∧ gs'.size = gs.size ∧ gs'[0]? = some a' ∧ LV P gs' q := by
  have hrunT := runT_crowd_go (P := P) (sl := sl) (i := 0) h0 (show stepG P (0 == 0) a w = _ from h)
  have hlt : 0 < gs.size := (Array.getElem?_eq_some_iff.1 h0).1
  refine ⟨_, hrunT, by simp, by simp [hlt], fun j x hj hx => ?_⟩
  have hne : 0 ≠ j := by omega
  rw [Array.getElem?_setIfInBounds_ne hne, Array.getElem?_map] at hx
  obtain ⟨y, hy, rfl⟩ := Option.map_eq_some_iff.1 hx
  have hq := hL j y hj hy
  rw [quits_woken hq]
  exact hq

/-- ████ The walk beside leavers. ████ -/
theorem walk0 {Stop : Goroutine → World → Prop} {a : Goroutine} {w : World} (hG : GoesI P Stop a w) : ∀ (gs : Array Goroutine) (sl : Option (Nat × Nat)) (t : Trace) (q : Nat → Nat), gs[0]? = some a → LV P gs q → Past0 w.heap.size t →
    ∃ (N : Nat) (gs' : Array Goroutine) (a' : Goroutine) (w' : World) (sl' : Option (Nat × Nat)) (t' : Trace) (q' : Nat → Nat),
      runNT P N (crowd gs w sl) t = (.next (crowd gs' w' sl'), t') ∧ gs'.size = gs.size ∧ gs'[0]? = some a' ∧ (∀ d, Stop a' (w'.at d)) ∧ LV P gs' q' ∧ Past0 w'.heap.size t' ∧ w.heap.size ≤ w'.heap.size := by
  induction hG with
  | stop h => intro gs sl t q h0 hL hP; exact ⟨0, gs, _, _, sl, t, q, rfl, rfl, h0, h, hL, hP, Nat.le_refl _⟩
  | @step g w hr ng nw ne h he hn ih =>
    intro gs sl t q h0 hL hP
    obtain ⟨N, gs1, w1, sl1, q1, d, sl2, e1, e2, e3, e4, ⟨d0, e5⟩, e6⟩ := till_own _ gs g w sl t q (Nat.le_refl _) h0 hr hL
    obtain ⟨gs2, f1, f2, f3, f4⟩ := own_turn (sl := sl2) e3 e4 (h d)
    obtain ⟨o1, o2, o3⟩ := evs_ok (g := 0) (fn := g.frame.fn) (pos := g.frame.place) (he d).2
    have hP' := hP.own (he d).1 o3 o1 o2
    obtain ⟨N2, gs3, a3, w3, sl3, t3, q3, g1, g2, g3, g4, g5, g6, g7⟩ := ih d gs2 sl2 _ q1 f3 f4 hP'
    refine ⟨N + (1 + N2), gs3, a3, w3, sl3, t3, q3, ?_, g2.trans (f2.trans e2), g3, g4, g5, g6, Nat.le_trans (he d).1 g7⟩
    rw [runNT_add, e1]
    show runNT P (1 + N2) _ _ = _
    rw [Nat.add_comm 1 N2]
    simp only [runNT, e6, f1]
    exact g1

/-- Goroutine 0 stands at the step that ends the run. -/
def AtEnd0 (P : Program) (Post : Value → World → Prop) (g : Goroutine) (w : World) : Prop :=
  g.status = .running ∧ ∃ v es, stepG P true g w = .ended (.done v) w es ∧ (∀ e ∈ es, evOk w.heap.size e) ∧ Post v w

/-- ████ The last walk: the run ends. ████ -/
theorem ends0 {Post : Value → World → Prop} {a : Goroutine} {w : World} (hG : GoesI P (AtEnd0 P Post) a w) {gs : Array Goroutine} {sl : Option (Nat × Nat)} {t : Trace} {q : Nat → Nat} (h0 : gs[0]? = some a) (hL : LV P gs q) (hP : Past0 w.heap.size t) :
    ∃ N last o w' t', runNT P (N + 1) (crowd gs w sl) t = (.ended o w', t') ∧ runN P N (crowd gs w sl) = .next last ∧ step P last = .ended o w' ∧ Good P Post last o w' t' := by
  obtain ⟨N, gs1, a1, w1, sl1, t1, q1, e1, e2, e3, e4, e5, e6, e7⟩ := walk0 hG gs sl t q h0 hL hP
  have hr : a1.status = .running := (e4 0).1
  obtain ⟨N2, gs2, w2, sl2, q2, d, sl3, f1, f2, f3, f4, ⟨d0, f5⟩, f6⟩ := till_own _ gs1 a1 w1 sl1 t1 q1 (Nat.le_refl _) e3 hr e5
  obtain ⟨_, v, es, hend, hes, hpost⟩ := e4 d
  have hrunT := runT_many_ended (P := P) (sl := sl3) (i := 0) f3 (show stepG P (0 == 0) a1 (w1.at d) = _ from hend)
  obtain ⟨o1, o2, o3⟩ := evs_ok (g := 0) (fn := a1.frame.fn) (pos := a1.frame.place) hes
  have hP' := e6.own (Nat.le_refl _) o3 o1 o2
  have hst := f6.trans hrunT
  refine ⟨N + N2, crowd gs2 w2 sl2, _, _, _, ?_, ?_, by simp [step, hst], v, rfl, hpost, hP'.clean, ?_, ⟨fun x hx => ?_, rfl⟩, fun j x hx hj => ?_⟩
  · rw [show N + N2 + 1 = N + (N2 + 1) by omega, runNT_add, e1]
    show runNT P (N2 + 1) _ _ = _
    rw [runNT_add, f1]
    simp only [runNT, hst]
  · rw [runN_add, ← runNT_fst P N _ t, e1]
    show runN P N2 _ = _
    rw [← runNT_fst P N2 _ t1, f1]
  · intro i g hg hne hc
    obtain ⟨x, hx, hm, _⟩ := hc
    obtain ⟨qq, z, h1, h2, h3⟩ := hP'.known i x hx hm
    rcases h3 with rfl | h3
    · exfalso
      have : Trace.g? (t1 ++ MemOp.ofEvents 0 a1.frame.fn a1.frame.place es) i = some z.g := by simp [Trace.g?, h1]
      rw [hg] at this
      exact hne ((Option.some.inj this).trans h2)
    · exact ⟨qq, by simp [Trace.g?, h1, h2], h3⟩
  · obtain ⟨j, hj⟩ := List.mem_iff_getElem?.1 hx
    rw [List.getElem?_drop] at hj
    exact ⟨_, (f4 (1 + j) x (by omega) (by simpa [crowd] using hj)).leaves⟩
  · have hq := f4 j x (by omega) hx
    refine ⟨q2 j, ?_⟩
    rw [hP'.wordless.deaf j]
    exact hq.hears _ _
end
end Go.Proofs.Ytofoplpnpfaofaa
