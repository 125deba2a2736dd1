/- What is proved here: what a plain part of a program comes to when its goroutine is alone, on whatever tape, it comes to beside goroutines that only leave
   (whose turns draw from the tape between its own steps). Conditions: the part is plain (Safe). -/
import Derived.Test.YtofoplpnpfaofaaStep
set_option linter.unusedSimpArgs false
set_option linter.unusedVariables false
namespace Go.Proofs.Ytofoplpnpfaofaa
open Go Go.Conc

/-- On its way to a stop; ahead of each of its steps the count of draws may have turned. -/
inductive GoesI (P : Program) (Stop : Goroutine → World → Prop) : Goroutine → World → Prop
  | stop {g : Goroutine} {w : World} (h : ∀ d, Stop g (w.at d)) : GoesI P Stop g w
  | step {g : Goroutine} {w : World} (hr : g.status = .running) (ng : Nat → Goroutine) (nw : Nat → World) (ne : Nat → Array Event)
      (h : ∀ d, stepG P true g (w.at d) = .go (ng d) (nw d) (ne d)) (he : ∀ d, w.heap.size ≤ (nw d).heap.size ∧ ∀ e ∈ ne d, evOk (nw d).heap.size e)
      (hn : ∀ d, GoesI P Stop (ng d) (nw d)) : GoesI P Stop g w

def ext (k : List Item) : List Frame → List Frame
  | [] => []
  | [f] => [tail f k]
  | f :: g :: r => f :: ext k (g :: r)

def MG (k : List Item) (L : List Frame) (f : Frame) (up : List Frame) : Goroutine :=
  match up with
  | [] => G (tail f k) L
  | g :: r => G f (ext k (g :: r) ++ L)

def OKs (Q : Part) (f : Frame) (up : List Frame) : Prop := (∃ S, FrOk Q f S) ∧ ∀ g ∈ up, ∃ S, CallerOk Q g S

/-- Whoever comes back to this frame is at its end. -/
def trap (P : Program) : Frame := { fn := P.funcs.size, tmps := #[], todo := [.call default false "fmt's doorzz" #[]], defers := [], mode := .run, kind := .normal }

def Dead (P : Program) (k : List Item) (f : Frame) (up : List Frame) (w : World) : Prop :=
  ∀ n gl w', runN P (n + 1) (solo (MG k [trap P] f up) w) = .next (solo gl w') → gl.callers = []

inductive Stp (P : Program) (Q : Part) (k' : List Item) (vA : Bool) (f : Frame) (up : List Frame) (w : World) : Prop
  | next (f' : Frame) (up' : List Frame) (w' : World) (es : Array Event) (c : Nat) (ho : OKs Q f' up') (hw : WOK w w' es c)
      (h : ∀ k L τ d, (vA = true → k = []) → Agree τ d w c → stepG P true (MG k L f up) (sw w τ d) = .go (MG k L f' up') (sw w' τ (d + c)) es)
  | dead (c : Nat) (h : ∀ τ d, Agree τ d w c → Dead P k' f up (sw w τ d))

section
variable {P : Program} {Q : Part}

theorem tail_nil (f : Frame) : tail f [] = f := by simp [tail]

theorem step_solo_go {fr fr' : Frame} {cs cs' : List Frame} {w w' : World} {es : Array Event} (h : stepG P true (G fr cs) w = .go (G fr' cs') w' es) :
    step P (solo (G fr cs) w) = .next (solo (G fr' cs') w') :=
  step_lone_go (fr := fr) (cs := cs) (fr' := fr') (cs' := cs') (by rw [show ({ frame := fr, callers := cs, status := .running, dying := none } : Goroutine) = G fr cs from rfl, h]; rfl)

theorem step_solo_ended {fr : Frame} {cs : List Frame} {w w' : World} {o : Outcome} {es : Array Event} (h : stepG P true (G fr cs) w = .ended o w' es) :
    step P (solo (G fr cs) w) = .ended o w' :=
  step_lone_ended (fr := fr) (cs := cs) (by rw [show ({ frame := fr, callers := cs, status := .running, dying := none } : Goroutine) = G fr cs from rfl, h]; rfl)

theorem MG_form (k : List Item) (L : List Frame) (f : Frame) (up : List Frame) : ∃ fr cs, MG k L f up = G fr cs := by
  cases up <;> exact ⟨_, _, rfl⟩

theorem dead_ended {k : List Item} {f : Frame} {up : List Frame} {w : World} {o : Outcome} {w' : World} {es : Array Event} (h : stepG P true (MG k [trap P] f up) w = .ended o w' es) : Dead P k f up w := by
  intro n gl w2 hr
  obtain ⟨fr, cs, e⟩ := MG_form k [trap P] f up
  rw [e] at h hr
  simp [runN, step_solo_ended h] at hr

theorem trap_next : Extern.next "fmt's doorzz" = none := by rfl

theorem dead_pop {k : List Item} {f : Frame} {up : List Frame} {w w1 : World} {fr : Frame} {es : Array Event} (h : stepG P true (MG k [trap P] f up) w = .go (G fr []) w1 es)
    (hfr : (∃ v, fr = (trap P).finish v) ∨ ∃ c, fr = (trap P).raise c) : Dead P k f up w := by
  intro n gl w2 hr
  obtain ⟨fr0, cs, e⟩ := MG_form k [trap P] f up
  rw [e] at h hr
  simp only [runN, step_solo_go h] at hr
  cases n with
  | zero =>
    simp only [runN, Stepped.next.injEq, solo, Machine.mk.injEq] at hr
    have := hr.2.1
    simp at this
    rw [← this]; rfl
  | succ n =>
    exfalso
    have hend : ∃ o w3 es, stepG P true (G fr []) w1 = .ended o w3 es := by
      rcases hfr with ⟨v, rfl⟩ | ⟨c, rfl⟩
      · simp only [trap, Frame.finish, G, stepG, stepG.exec, trap_next, Option.elim_none]
        exact ⟨_, _, _, rfl⟩
      · have hc : Frame.catches P ((trap P).raise c) = true := by
          simp [Frame.catches, trap, Frame.raise]
        have : stepG P true (G ((trap P).raise c) []) w1 = unwind P true ((trap P).raise c) [] none w1 := rfl
        rw [this]
        unfold unwind
        have hd : ((trap P).raise c).defers = [] := rfl
        have hm : ((trap P).raise c).mode = .panicking c := rfl
        simp only [hd, hm, hc, if_true]
        exact ⟨_, _, _, rfl⟩
    obtain ⟨o, w3, es, he⟩ := hend
    simp [runN, step_solo_ended he] at hr

theorem finish_tail {g : Frame} {S : List Tmp} (hg : CallerOk Q g S) (v : Value) (k : List Item) : (tail g k).finish v = tail (g.finish v) k := by
  obtain ⟨ops, i, rest, k0, ht, _⟩ := hg.head
  unfold Frame.finish tail
  simp only [ht, List.cons_append]

theorem finish_ok {g : Frame} {S : List Tmp} (hg : CallerOk Q g S) (v : Value) : FrOk Q (g.finish v) S := by
  obtain ⟨ops, i, rest, k0, ht, hfree⟩ := hg.head
  have hf := hg.ok
  have e : g.finish v = { g with tmps := match (ops[i]?).bind (·.dst) with | some d => g.tmps.setIfInBounds d v | none => g.tmps, todo := .inRegion ops rest :: k0 } := by
    unfold Frame.finish
    simp only [ht]
    cases (ops[i]?).bind (·.dst) <;> rfl
  rw [e]
  refine ⟨hf.slots, hf.defers, hf.round, hf.kind, ?_, ?_⟩
  · show ∀ t ∈ S, FV Q ((match (ops[i]?).bind (·.dst) with | some d => g.tmps.setIfInBounds d v | none => g.tmps).getD t undef)
    cases ho : ops[i]? with
    | none => exact hf.fv
    | some o =>
      have := hfree o ho
      simp only [Option.bind_some]
      unfold freeOp at this
      cases hd : o.dst with
      | none => exact hf.fv
      | some d =>
        simp only [hd] at this
        exact fv_put hf.fv (.inl (by simpa using this))
  · intro x hx
    simp only [List.mem_cons] at hx
    have hin := hf.items (.inRegion ops (i :: rest)) (by rw [ht]; simp)
    rcases hx with rfl | hx
    · exact fun j hj => hin j (by simp [hj])
    · exact hf.items x (by rw [ht]; simp [hx])

theorem raise_tail (g : Frame) (c : List PanicEntry) (k : List Item) : (tail g k).raise c = tail (g.raise c) k := by
  unfold Frame.raise tail
  cases g.mode <;> rfl

theorem raise_ok {g : Frame} {S : List Tmp} (hf : FrOk Q g S) (c : List PanicEntry) : FrOk Q (g.raise c) S := by
  have e : g.raise c = { g with mode := (g.raise c).mode } := by unfold Frame.raise; cases g.mode <;> rfl
  rw [e]
  exact ⟨hf.slots, hf.defers, hf.round, hf.kind, hf.fv, hf.items⟩

theorem caller_ok {g : Frame} {S : List Tmp} (hg : CallerOk Q g S) : FrOk Q g S := hg.ok

theorem stp_all (hP : Safe P Q) {k' : List Item} {vA : Bool} (hk : vA = true → k' = []) (hk2 : vA = false → k' = [.code (.refuse "")]) {f : Frame} {up : List Frame} (ho : OKs Q f up) (w : World) : Stp P Q k' vA f up w := by
  obtain ⟨⟨S, hf⟩, hup⟩ := ho
  have hkk : k' = [] ∨ k' = [.code (.refuse "")] := by cases vA; exact .inr (hk2 rfl); exact .inl (hk rfl)
  have hedge : f.mode = .run → f.todo = [] → ∀ L w, stepG P true (G f L) w = .go (G { f with mode := .returning } L) w := by
    intro hm ht L w
    obtain ⟨fn, tmps, todo, defers, mode, kind, ro⟩ := f
    have hro : ro = none := hf.round
    simp only at hm ht
    subst hm ht hro
    simp [G, stepG, stepG.exec]
  have hret : FrOk Q { f with mode := .returning } S := ⟨hf.slots, hf.defers, hf.round, hf.kind, hf.fv, hf.items⟩
  cases up with
  | nil =>
    cases head_all hP hf w with
    | stay f' w' es c hf' hn hw h => exact .next f' [] w' es c ⟨⟨S, hf'⟩, by simp⟩ hw fun k L τ d _ ha => h k L τ d ha
    | enter g args Sg w' es c hf' hc hw h => exact .next _ [f] w' es c ⟨⟨Sg, hf'⟩, by intro x hx; simp at hx; subst hx; exact ⟨S, hc⟩⟩ hw fun k L τ d _ ha => h k L τ d ha
    | ret v w' es c hw h => exact .dead c fun τ d ha => dead_pop (h k' (trap P) [] τ d ha) (.inl ⟨v, rfl⟩)
    | raise chain h => exact .dead 0 fun τ d ha => dead_pop (h k' (trap P) [] τ d) (.inr ⟨chain, rfl⟩)
    | stop c h => exact .dead c fun τ d ha => by obtain ⟨o, w', es, e⟩ := h k' [trap P] τ d ha hkk; exact dead_ended e
    | edge hm ht =>
      cases vA with
      | true =>
        refine .next { f with mode := .returning } [] w #[] 0 ⟨⟨S, hret⟩, by simp⟩ (WOK.still w) fun k L τ d hk0 _ => ?_
        rw [hk0 rfl]
        show stepG P true (G (tail f []) L) _ = .go (G (tail _ []) L) _ _
        rw [tail_nil, tail_nil]
        exact hedge hm ht L _
      | false =>
        refine .dead 0 fun τ d _ => ?_
        have hk3 := hk2 rfl
        subst hk3
        obtain ⟨fn, tmps, todo, defers, mode, kind, ro⟩ := f
        simp only at hm ht
        subst hm ht
        exact dead_ended (es := #[]) (by simp only [MG, G, tail, stepG, stepG.exec, List.nil_append]; rfl)
  | cons g r =>
    have hg := hup g (by simp)
    have hr' : ∀ x ∈ r, ∃ S, CallerOk Q x S := fun x hx => hup x (by simp [hx])
    obtain ⟨Sg, hg⟩ := hg
    cases head_all hP hf w with
    | stay f' w' es c hf' hn hw h =>
      refine .next f' (g :: r) w' es c ⟨⟨S, hf'⟩, hup⟩ hw fun k L τ d _ ha => ?_
      have := h [] (ext k (g :: r) ++ L) τ d ha
      rw [tail_nil, tail_nil] at this
      exact this
    | enter gg args Sgg w' es c hf' hc hw h =>
      refine .next _ (f :: g :: r) w' es c ⟨⟨Sgg, hf'⟩, ?_⟩ hw fun k L τ d _ ha => ?_
      · intro x hx
        rcases List.mem_cons.1 hx with rfl | hx
        · exact ⟨S, hc⟩
        · exact hup x hx
      · have := h [] (ext k (g :: r) ++ L) τ d ha
        rw [tail_nil] at this
        exact this
    | ret v w' es c hw h =>
      refine .next (g.finish v) r w' es c ⟨⟨Sg, finish_ok hg v⟩, hr'⟩ hw fun k L τ d _ ha => ?_
      cases r with
      | nil =>
        have := h [] (tail g k) L τ d ha
        rw [tail_nil, finish_tail hg] at this
        exact this
      | cons x t =>
        have := h [] g (ext k (x :: t) ++ L) τ d ha
        rw [tail_nil] at this
        exact this
    | raise chain h =>
      refine .next (g.raise chain) r w #[] 0 ⟨⟨Sg, raise_ok hg.ok chain⟩, hr'⟩ (WOK.still w) fun k L τ d _ ha => ?_
      cases r with
      | nil =>
        have := h [] (tail g k) L τ d
        rw [tail_nil, raise_tail] at this
        exact this
      | cons x t =>
        have := h [] g (ext k (x :: t) ++ L) τ d
        rw [tail_nil] at this
        exact this
    | stop c h =>
      refine .dead c fun τ d ha => ?_
      obtain ⟨o, w', es, e⟩ := h [] (ext k' (g :: r) ++ [trap P]) τ d ha (.inl rfl)
      rw [tail_nil] at e
      exact dead_ended e
    | edge hm ht =>
      refine .next { f with mode := .returning } (g :: r) w #[] 0 ⟨⟨S, hret⟩, hup⟩ (WOK.still w) fun k L τ d _ _ => ?_
      exact hedge hm ht _ _


theorem tail_inj {k : List Item} {f f' : Frame} (h : tail f k = tail f' k) : f = f' := by
  obtain ⟨fn, tmps, todo, defers, mode, kind, ro⟩ := f
  obtain ⟨fn', tmps', todo', defers', mode', kind', ro'⟩ := f'
  simp only [tail, Frame.mk.injEq, List.append_cancel_right_eq] at h
  simp [h]

theorem ext_ne (k : List Item) (g : Frame) (r : List Frame) : ∃ x l, ext k (g :: r) = x :: l := by
  cases r <;> exact ⟨_, _, rfl⟩

theorem MG_inj {k : List Item} {L : List Frame} {f f' : Frame} {up : List Frame} (h : MG k L f' [] = MG k L f up) : up = [] ∧ f' = f := by
  cases up with
  | nil =>
    refine ⟨rfl, ?_⟩
    simp only [MG, G, Goroutine.mk.injEq] at h
    exact tail_inj h.1
  | cons g r =>
    exfalso
    simp only [MG, G, Goroutine.mk.injEq] at h
    obtain ⟨x, l, e⟩ := ext_ne k g r
    have := congrArg List.length h.2.1
    rw [e] at this
    simp at this
    omega

/-- A state of the walk that was not brought to its stop. -/
structure Bad (P : Program) (Q : Part) (k : List Item) (L : List Frame) (R : Frame → World → Prop) (wt : Nat → Question → Nat) where
  f : Frame
  up : List Frame
  w : World
  ok : OKs Q f up
  tape : w.tape = wt
  not : ¬ GoesI P (fun g w => ∃ f', g = MG k L f' [] ∧ R f' w ∧ OKs Q f' []) (MG k L f up) w

/-- From one to the next: at count e, c draws. -/
def Nxt (P : Program) (Q : Part) (k' k : List Item) (L : List Frame) (R : Frame → World → Prop) (wt : Nat → Question → Nat) (x y : Bad P Q k L R wt) (e c : Nat) : Prop :=
  (∀ τ d, (∀ i, i < c → τ (d + i) = wt (e + i)) → step P (solo (MG k' [trap P] x.f x.up) (sw x.w τ d)) = .next (solo (MG k' [trap P] y.f y.up) (sw y.w τ (d + c)))) ∨
  (∀ τ d, (∀ i, i < c → τ (d + i) = wt (e + i)) → Dead P k' x.f x.up (sw x.w τ d))

theorem sw_at (w : World) (e : Nat) (τ : Nat → Question → Nat) (d : Nat) : sw (w.at e) τ d = sw w τ d := rfl

theorem bad_next (hP : Safe P Q) {k' k : List Item} {L : List Frame} {R : Frame → World → Prop} {wt : Nat → Question → Nat} {vA : Bool} (hk' : vA = true → k' = []) (hk2 : vA = false → k' = [.code (.refuse "")]) (hk : vA = true → k = [])
    (x : Bad P Q k L R wt) : ∃ y e c, Nxt P Q k' k L R wt x y e c := by
  obtain ⟨fr, cs, eM⟩ := MG_form k L x.f x.up
  have hrun : (MG k L x.f x.up).status = .running := by rw [eM]; rfl
  -- where no good step can be taken
  have key : ∃ e, (∃ (f' : Frame) (up' : List Frame) (w' : World) (es : Array Event) (c : Nat), OKs Q f' up' ∧ WOK (x.w.at e) w' es c ∧
      (∀ k L τ d, (vA = true → k = []) → Agree τ d (x.w.at e) c → stepG P true (MG k L x.f x.up) (sw (x.w.at e) τ d) = .go (MG k L f' up') (sw w' τ (d + c)) es) ∧
      ¬ GoesI P (fun g w => ∃ f', g = MG k L f' [] ∧ R f' w ∧ OKs Q f' []) (MG k L f' up') w') ∨
      ∃ c, ∀ τ d, Agree τ d (x.w.at e) c → Dead P k' x.f x.up (sw (x.w.at e) τ d) := by
    refine Classical.byContradiction fun hno => x.not ?_
    have hall : ∀ e, ∃ (f' : Frame) (up' : List Frame) (w' : World) (es : Array Event) (c : Nat), WOK (x.w.at e) w' es c ∧ stepG P true (MG k L x.f x.up) (x.w.at e) = .go (MG k L f' up') w' es ∧
        GoesI P (fun g w => ∃ f', g = MG k L f' [] ∧ R f' w ∧ OKs Q f' []) (MG k L f' up') w' := by
      intro e
      cases stp_all hP (vA := vA) hk' hk2 x.ok (x.w.at e) with
      | dead c h => exact absurd ⟨e, .inr ⟨c, h⟩⟩ hno
      | next f' up' w' es c ho hw h =>
        refine ⟨f', up', w', es, c, hw, ?_, ?_⟩
        · have := h k L (x.w.at e).tape (x.w.at e).drawn hk (fun i _ => rfl)
          have e1 : sw (x.w.at e) (x.w.at e).tape (x.w.at e).drawn = x.w.at e := rfl
          have e2 : sw w' (x.w.at e).tape ((x.w.at e).drawn + c) = w' := by
            rw [← hw.drawn, ← hw.tape]; rfl
          rw [e1, e2] at this
          exact this
        · exact Classical.byContradiction fun hn => hno ⟨e, .inl ⟨f', up', w', es, c, ho, hw, h, hn⟩⟩
    refine GoesI.step hrun (fun e => MG k L (hall e).choose (hall e).choose_spec.choose) (fun e => (hall e).choose_spec.choose_spec.choose) (fun e => (hall e).choose_spec.choose_spec.choose_spec.choose) (fun e => ?_) (fun e => ?_) (fun e => ?_)
    · exact (hall e).choose_spec.choose_spec.choose_spec.choose_spec.choose_spec.2.1
    · have := (hall e).choose_spec.choose_spec.choose_spec.choose_spec.choose_spec.1
      exact ⟨this.size, this.evs⟩
    · exact (hall e).choose_spec.choose_spec.choose_spec.choose_spec.choose_spec.2.2
  obtain ⟨e, ⟨f', up', w', es, c, ho, hw, h, hn⟩ | ⟨c, h⟩⟩ := key
  · refine ⟨⟨f', up', w', ho, hw.tape.trans x.tape, hn⟩, e, c, .inl fun τ d ha => ?_⟩
    have hst := h k' [trap P] τ d hk' (fun i hi => by rw [ha i hi]; show _ = x.w.tape _; rw [x.tape]; rfl)
    obtain ⟨fr1, cs1, e1⟩ := MG_form k' [trap P] x.f x.up
    obtain ⟨fr2, cs2, e2⟩ := MG_form k' [trap P] f' up'
    rw [e1, e2] at hst
    simp only [e1, e2]
    exact step_solo_go hst
  · refine ⟨x, e, c, .inr fun τ d ha => ?_⟩
    exact h τ d (fun i hi => by rw [ha i hi]; show _ = x.w.tape _; rw [x.tape]; rfl)

/-- ████ What it comes to alone, on whatever tape, it comes to beside leavers. ████ -/
theorem lift (hP : Safe P Q) {k' k : List Item} {L : List Frame} {R : Frame → World → Prop} {vA : Bool} (hk' : vA = true → k' = []) (hk2 : vA = false → k' = [.code (.refuse "")]) (hk : vA = true → k = [])
    (hR : ∀ f w τ d, R f w → R f (sw w τ d)) {f : Frame} {w : World} (ho : OKs Q f [])
    (H : ∀ τ d, ∃ n f' w', runN P n (solo (MG k' [trap P] f []) (sw w τ d)) = .next (solo (MG k' [trap P] f' []) w') ∧ R f' w') :
    GoesI P (fun g w => ∃ f', g = MG k L f' [] ∧ R f' w ∧ OKs Q f' []) (MG k L f []) w := by
  refine Classical.byContradiction fun hnot => ?_
  let x0 : Bad P Q k L R w.tape := ⟨f, [], w, ho, rfl, hnot⟩
  have hnx : ∀ x : Bad P Q k L R w.tape, ∃ y e c, Nxt P Q k' k L R w.tape x y e c := fun x => bad_next hP hk' hk2 hk x
  let nx : Bad P Q k L R w.tape → Bad P Q k L R w.tape := fun x => (hnx x).choose
  let ex : Bad P Q k L R w.tape → Nat := fun x => (hnx x).choose_spec.choose
  let cx : Bad P Q k L R w.tape → Nat := fun x => (hnx x).choose_spec.choose_spec.choose
  have hx : ∀ x, Nxt P Q k' k L R w.tape x (nx x) (ex x) (cx x) := fun x => (hnx x).choose_spec.choose_spec.choose_spec
  let X : Nat → Bad P Q k L R w.tape := fun j => Nat.rec x0 (fun _ x => nx x) j
  have hX : ∀ j, X (j + 1) = nx (X j) := fun j => rfl
  let D : Nat → Nat := fun j => Nat.rec 0 (fun j d => d + cx (X j)) j
  have hD : ∀ j, D (j + 1) = D j + cx (X j) := fun j => rfl
  have hmono : ∀ i j, i ≤ j → D i ≤ D j := by
    intro i j hij
    induction hij with
    | refl => exact Nat.le_refl _
    | step _ ih => exact Nat.le_trans ih (by rw [hD]; omega)
  -- the tape of the run alone
  let pt : Nat → Nat → Prop := fun m j => D j ≤ m ∧ m < D (j + 1)
  open Classical in
  let τ : Nat → Question → Nat := fun m => if h : ∃ j, pt m j then w.tape (ex (X h.choose) + (m - D h.choose)) else w.tape 0
  have huniq : ∀ m i j, pt m i → pt m j → i = j := by
    intro m i j ⟨h1, h2⟩ ⟨h3, h4⟩
    rcases Nat.lt_trichotomy i j with h | h | h
    · have := hmono (i + 1) j h; omega
    · exact h
    · have := hmono (j + 1) i h; omega
  have hτ : ∀ j i, i < cx (X j) → τ (D j + i) = w.tape (ex (X j) + i) := by
    intro j i hi
    have hp : pt (D j + i) j := ⟨by omega, by rw [hD]; omega⟩
    have hex : ∃ j', pt (D j + i) j' := ⟨j, hp⟩
    have e : hex.choose = j := huniq _ _ _ hex.choose_spec hp
    show (if h : ∃ j', pt (D j + i) j' then w.tape (ex (X h.choose) + (D j + i - D h.choose)) else w.tape 0) = _
    rw [dif_pos hex, e]
    congr 2
    omega
  obtain ⟨n, f', w', hrun, hRf⟩ := H τ 0
  -- how far it goes
  have hgo : ∀ j, j ≤ n → runN P j (solo (MG k' [trap P] f []) (sw w τ 0)) = .next (solo (MG k' [trap P] (X j).f (X j).up) (sw (X j).w τ (D j))) := by
    intro j
    induction j with
    | zero => intro _; rfl
    | succ j ih =>
      intro hj
      have hr := ih (by omega)
      have hst := hx (X j)
      rcases hst with hst | hst
      · have := hst τ (D j) (hτ j)
        have e : j + 1 = j + 1 := rfl
        rw [runN_add, hr]
        simp only [runN, this]
        rfl
      · exfalso
        have hdead := hst τ (D j) (hτ j)
        obtain ⟨m, hm⟩ : ∃ m, n = j + (m + 1) := ⟨n - j - 1, by omega⟩
        rw [hm, runN_add, hr] at hrun
        have := hdead m _ _ hrun
        simp [MG, G] at this
  have hn := hgo n (Nat.le_refl _)
  rw [hrun] at hn
  simp only [Stepped.next.injEq, solo, Machine.mk.injEq] at hn
  obtain ⟨e1, e2, _⟩ := hn
  have e2' : MG k' [trap P] f' [] = MG k' [trap P] (X n).f (X n).up := by simpa using e2
  obtain ⟨hup, hf'⟩ := MG_inj e2'
  refine (X n).not (GoesI.stop fun d => ⟨(X n).f, ?_, ?_, ?_⟩)
  · rw [hup]
  · rw [hf', e1] at hRf
    exact hR _ (sw (X n).w τ (D n)) (X n).w.tape d hRf
  · have := (X n).ok
    rw [hup] at this
    exact this

end
end Go.Proofs.Ytofoplpnpfaofaa
