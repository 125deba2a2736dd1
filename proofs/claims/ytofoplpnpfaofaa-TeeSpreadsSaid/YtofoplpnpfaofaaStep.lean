/- What is proved here: one step of a goroutine that walks in a plain part of a program, told for whatever lies beneath that part and for whatever tape.
   Conditions: the part's code is of plain operations alone; values of function type in it come from listed functions (checked on the code). -/
import Derived.Test.YtofoplpnpfaofaaOps
import Derived.Conc.Beside
set_option linter.unusedSimpArgs false
set_option linter.unusedVariables false
namespace Go.Proofs.Ytofoplpnpfaofaa
open Go Go.Conc

/-- A plain part: its functions (slots), whose whole code is plain, and those that may lie at its bottom (base), of which pieces are; for each the slots that may hold function values; which functions such values may be of. -/
structure Part where
  base : FuncId → Option (List Tmp)
  slots : FuncId → Option (List Tmp)
  dyn : FuncId → Bool

def FV (Q : Part) (v : Value) : Prop := v = .nilFunc ∨ v = undef ∨ ∃ f cap, v = .func (.func f) #[] cap ∧ Q.dyn f = true

def fvOp (Q : Part) (S : List Tmp) : Operand → Bool
  | .tmp t => S.contains t
  | .const .nilFunc => true
  | .func f => Q.dyn f
  | _ => false

def freeOp (S : List Tmp) (o : Oper) : Bool :=
  match o.dst with
  | some d => !S.contains d
  | none => true

def calleeOk (Q : Part) (S : List Tmp) (c : Call) : Bool :=
  match c.callee with
  | .builtin .len | .builtin .cap | .builtin .append => true
  | .value (.func g) =>
    match Q.slots g with
    | some Sg => Sg.all fun j => match c.args[j]? with | some x => fvOp Q S x | none => true
    | none => false
  | .value (.tmp t) => S.contains t
  | _ => false

def opOk (Q : Part) (S : List Tmp) (o : Oper) : Bool :=
  match o.op with
  | .move x | .assign x => freeOp S o || fvOp Q S x
  | .makeFunc (.func f) first _ => freeOp S o || (first.isEmpty && Q.dyn f)
  | .pick _ _ _ | .alloc _ | .box _ _ | .build _ _ | .buildSlice _ _ _ | .load _ _ | .store _ _ _ | .makeSlice _ _ _ | .makeChan _ _ | .slice _ _ _ _ _ | .fieldAddr _ _ _ | .indexAddr _ _ _ | .extract _ _ => freeOp S o
  | .binOp op _ _ _ _ => freeOp S o && (match op with | .add | .eql | .neq | .lss | .leq | .gtr | .geq => true | _ => false)
  | .unOp .not _ _ => freeOp S o
  | .call c => freeOp S o && calleeOk Q S c
  | _ => false

def codeOk (Q : Part) (S : List Tmp) : Code → Bool
  | .skip => true
  | .region _ ops _ => ops.all (opOk Q S)
  | .seq a b => codeOk Q S a && codeOk Q S b
  | .cond _ a b => codeOk Q S a && codeOk Q S b
  | .block _ c => codeOk Q S c
  | .loop c => codeOk Q S c
  | .exit _ => true
  | .scope c => codeOk Q S c
  | .label _ => true
  | .ret => true
  | .refuse _ => true
  | _ => false

def itemOk (Q : Part) (S : List Tmp) : Item → Prop
  | .code c => codeOk Q S c = true
  | .inBlock _ => True
  | .inLoop c => codeOk Q S c = true
  | .inScope c => codeOk Q S c = true
  | .inRegion ops todo => ∀ i ∈ todo, ∀ o, ops[i]? = some o → opOk Q S o = true
  | _ => False

/-- What is asked of the program. -/
structure Safe (P : Program) (Q : Part) : Prop where
  base : ∀ f S, Q.base f = some S → ∃ fn, P.funcs[f]? = some fn
  code : ∀ f S, Q.slots f = some S → Q.base f = some S ∧ ∃ fn c, P.funcs[f]? = some fn ∧ fn.body = some c ∧ codeOk Q S c = true ∧ (fn.name == "runtime.NumGoroutine") = false
  dyn : ∀ f, Q.dyn f = true → Q.slots f = some []
  noStep : ∀ g, P.stepOf g = none
  ahead : P.follows .staticDataAhead = true

structure FrOk (Q : Part) (fr : Frame) (S : List Tmp) : Prop where
  slots : Q.base fr.fn = some S
  defers : fr.defers = []
  round : fr.roundOf = none
  kind : fr.kind = .normal
  fv : ∀ t ∈ S, FV Q (fr.tmps.getD t undef)
  items : ∀ it ∈ fr.todo, itemOk Q S it

structure CallerOk (Q : Part) (fr : Frame) (S : List Tmp) : Prop where
  ok : FrOk Q fr S
  mode : fr.mode = .run
  head : ∃ ops i rest k, fr.todo = .inRegion ops (i :: rest) :: k ∧ ∀ o, ops[i]? = some o → freeOp S o = true

section
variable {P : Program} {Q : Part} {S : List Tmp}

theorem fv_eval {fr : Frame} (hfv : ∀ t ∈ S, FV Q (fr.tmps.getD t undef)) {x : Operand} (h : fvOp Q S x = true) : FV Q (fr.eval x) := by
  cases x with
  | tmp t => exact hfv t (by simpa [fvOp] using h)
  | const v => cases v <;> simp [fvOp] at h; exact .inl rfl
  | global g => simp [fvOp] at h
  | func f => exact .inr (.inr ⟨f, #[], rfl, by simpa [fvOp] using h⟩)

/-- What an operation may yield. -/
def NK (Q : Part) (S : List Tmp) (o : Oper) : Next → Prop
  | .value v => freeOp S o = true ∨ FV Q v
  | .skip => True
  | .enter g args => freeOp S o = true ∧ ∃ Sg, Q.slots g = some Sg ∧ ∀ t ∈ Sg, FV Q (args.getD t undef)
  | _ => False

theorem fine_value {o : Oper} {s : Sem Value} (hs : Fine P (fun _ => True) s) (hf : freeOp S o = true) : Fine P (NK Q S o) (do pure (.value (← s))) :=
  fine_bindT hs fun _ => fine_pure (.inl hf)

theorem fine_callFunc (hP : Safe P Q) {o : Oper} {g : FuncId} {args : Array Value} {Sg : List Tmp} (hf : freeOp S o = true) (hg : Q.slots g = some Sg) (ha : ∀ t ∈ Sg, FV Q (args.getD t undef)) :
    Fine P (NK Q S o) (callFunc g args) := by
  obtain ⟨_, fn, c, h1, h2, _, h4⟩ := hP.code g Sg hg
  unfold callFunc
  refine fine_bind (K := fun p => p = P) (by rfl) ?_
  rintro _ rfl
  rw [h1]
  simp only [h4, Bool.false_eq_true, if_false, h2, Option.isNone_some]
  exact fine_pure ⟨hf, Sg, hg, ha⟩

theorem fine_op (hP : Safe P Q) {fr : Frame} (hfv : ∀ t ∈ S, FV Q (fr.tmps.getD t undef)) {o : Oper} (h : opOk Q S o = true) : Fine P (NK Q S o) (execOp fr.eval o) := by
  obtain ⟨dst, op, type, pos, after, guard⟩ := o
  cases op
  case move x =>
    simp only [opOk, Bool.or_eq_true] at h
    exact fine_pure (h.imp id fun h => fv_eval hfv h)
  case assign x =>
    simp only [opOk, Bool.or_eq_true] at h
    exact fine_pure (h.imp id fun h => fv_eval hfv h)
  case makeFunc fn first cap =>
    cases fn with
    | func f =>
      simp only [opOk, Bool.or_eq_true, Bool.and_eq_true] at h
      refine fine_bind (K := fun v => v = .func (.func f) (first.map fr.eval) (cap.map fr.eval)) (fine_pure rfl) ?_
      rintro _ rfl
      refine fine_pure (h.imp id fun ⟨h1, h2⟩ => .inr (.inr ⟨f, cap.map fr.eval, ?_, h2⟩))
      have : first = #[] := Array.isEmpty_iff.1 h1
      subst this
      simp
    | _ => simp [opOk] at h
  case pick c a b =>
    simp only [opOk] at h
    exact fine_bindT (f_asBool _) fun _ => fine_pure (.inl h)
  case alloc e => exact fine_value (f_alloc _ _ _) h
  case box e v => exact fine_value (f_box _ _) h
  case build t ps => exact fine_value (f_build _ _) h
  case buildSlice t n ps => exact fine_value (f_buildSlice _ _ _) h
  case load t a => exact fine_value (f_loadAt _ _) h
  case store t a x => exact fine_bindT (f_storeAt _ _ _) fun _ => fine_pure trivial
  case makeSlice t a b => exact fine_value (f_makeSlice _ _ _) h
  case makeChan t a => exact fine_value (f_makeChan _ _) h
  case slice t x a b c => exact fine_value (f_sliceAt _ _ _ _ _) h
  case fieldAddr t x n => exact fine_value (f_fieldAt _ _ _) h
  case indexAddr t x i => exact fine_value (f_indexAt _ _ _) h
  case extract x n => exact fine_value (f_extract _ _) h
  case unOp op t x =>
    cases op with
    | not => exact fine_value (f_not _) h
    | _ => simp [opOk] at h
  case binOp op t x y u =>
    simp only [opOk, Bool.and_eq_true] at h
    refine fine_value (fine_bindT (f_eqGuard _ _ _ _ _ _) fun _ => f_binOp _ _ _ _ ?_) h.1
    have h2 := h.2
    cases op <;> simp at h2 ⊢
  case call c =>
    simp only [opOk, Bool.and_eq_true] at h
    obtain ⟨h1, h2⟩ := h
    obtain ⟨callee, args, argTypes⟩ := c
    have hargs : ∀ (Sg : List Tmp) (cap : Array Value), (∀ j ∈ Sg, match args[j]? with | some x => fvOp Q S x = true | none => cap = #[]) → ∀ t ∈ Sg, FV Q ((args.map fr.eval ++ cap).getD t undef) := by
      intro Sg cap hS t ht
      have := hS t ht
      cases hx : args[t]? with
      | some x =>
        rw [hx] at this
        have hlt : t < args.size := (Array.getElem?_eq_some_iff.1 hx).1
        have : (args.map fr.eval ++ cap).getD t undef = fr.eval x := by
          have hxe : args[t] = x := (Array.getElem?_eq_some_iff.1 hx).2
          simp [Array.getD, Array.getElem_append_left, hlt, hxe, Nat.lt_of_lt_of_le hlt (Nat.le_add_right _ _)]
        rw [this]
        exact fv_eval hfv ‹_›
      | none =>
        rw [hx] at this
        subst this
        have hge : args.size ≤ t := by simpa using hx
        have : (args.map fr.eval ++ #[]).getD t undef = undef := by
          simp [Array.getD, Nat.not_lt.2 hge]
        rw [this]
        exact .inr (.inl rfl)
    cases callee with
    | invoke r m => simp [calleeOk] at h2
    | builtin b =>
      cases b <;> simp only [calleeOk, Bool.false_eq_true] at h2
      · exact fine_bind (K := fun d => d = { target := .builtin .append argTypes type (args.map fun | .const _ => true | _ => false), args := args.map fr.eval }) (fine_pure rfl) (by rintro _ rfl; exact fine_value (f_append _ _ _) h1)
      · exact fine_bind (K := fun d => d = { target := .builtin .cap argTypes type (args.map fun | .const _ => true | _ => false), args := args.map fr.eval }) (fine_pure rfl) (by rintro _ rfl; exact fine_value (f_cap _ _ _) h1)
      · exact fine_bind (K := fun d => d = { target := .builtin .len argTypes type (args.map fun | .const _ => true | _ => false), args := args.map fr.eval }) (fine_pure rfl) (by rintro _ rfl; exact fine_value (f_len _ _ _) h1)
    | value f =>
      cases f with
      | const v => simp [calleeOk] at h2
      | global g => simp [calleeOk] at h2
      | func g =>
        simp only [calleeOk] at h2
        cases hg : Q.slots g with
        | none => rw [hg] at h2; cases h2
        | some Sg =>
          rw [hg] at h2
          refine fine_bind (K := fun d => d = { target := .fn (.func g) #[], args := #[] ++ args.map fr.eval }) (fine_pure rfl) ?_
          rintro _ rfl
          refine fine_callFunc hP h1 hg ?_
          have := hargs Sg #[] (fun j hj => by
            have := List.all_eq_true.1 h2 j hj
            revert this
            cases args[j]? <;> simp)
          simpa using this
      | tmp t =>
        simp only [calleeOk] at h2
        have hv := hfv t (by simpa using h2)
        have hres : ∀ v, fr.tmps.getD t undef = v → Fine P (NK Q S { dst := dst, op := .call { callee := .value (.tmp t), args := args, argTypes := argTypes }, type := type, pos := pos, after := after, guard := guard })
            (do let d ← Deferred.ofValue v (args.map fr.eval); invoke d.target d.args) := by
          intro v hv'
          rw [hv'] at hv
          rcases hv with rfl | rfl | ⟨f, cap, rfl, hd⟩
          · refine fine_bind (K := fun d => d = { target := .nil, args := args.map fr.eval }) (fine_pure rfl) ?_
            rintro _ rfl
            exact (f_runtimePanic .nilDeref : Fine P _ (runtimePanic .nilDeref : Sem Next))
          · exact fine_bind (K := fun _ => False) (f_stuck _) fun _ h => h.elim
          · refine fine_bind (K := fun d => d = { target := .fn (.func f) cap, args := #[] ++ args.map fr.eval }) (fine_pure rfl) ?_
            rintro _ rfl
            exact fine_callFunc hP h1 (hP.dyn f hd) (by simp)
        exact hres _ rfl
  all_goals simp [opOk] at h


/-- What a step leaves of the world: c draws; no smaller; what it lists lies in it. -/
structure WOK (w w' : World) (es : Array Event) (c : Nat) : Prop where
  drawn : w'.drawn = w.drawn + c
  tape : w'.tape = w.tape
  size : w.heap.size ≤ w'.heap.size
  evs : ∀ e ∈ es, evOk w'.heap.size e

theorem WOK.still (w : World) : WOK w w #[] 0 := ⟨rfl, rfl, Nat.le_refl _, by simp⟩

/-- A frame over more to do. -/
def tail (f : Frame) (k : List Item) : Frame := { f with todo := f.todo ++ k }

theorem eval_tail (f : Frame) (k : List Item) (x : Operand) : (tail f k).eval x = f.eval x := by cases x <;> rfl
theorem evalf_tail (f : Frame) (k : List Item) : (tail f k).eval = f.eval := funext (eval_tail f k)

inductive Head (P : Program) (Q : Part) (S : List Tmp) (f : Frame) (w : World) : Prop
  | stay (f' : Frame) (w' : World) (es : Array Event) (c : Nat) (hf : FrOk Q f' S) (hn : f'.fn = f.fn) (hw : WOK w w' es c)
      (h : ∀ k L τ d, Agree τ d w c → stepG P true (G (tail f k) L) (sw w τ d) = .go (G (tail f' k) L) (sw w' τ (d + c)) es)
  | enter (g : FuncId) (args : Array Value) (Sg : List Tmp) (w' : World) (es : Array Event) (c : Nat) (hf : FrOk Q (Frame.enter P g args .normal) Sg) (hc : CallerOk Q f S) (hw : WOK w w' es c)
      (h : ∀ k L τ d, Agree τ d w c → stepG P true (G (tail f k) L) (sw w τ d) = .go (G (Frame.enter P g args .normal) (tail f k :: L)) (sw w' τ (d + c)) es)
  | ret (v : Value) (w' : World) (es : Array Event) (c : Nat) (hw : WOK w w' es c)
      (h : ∀ k cl L τ d, Agree τ d w c → stepG P true (G (tail f k) (cl :: L)) (sw w τ d) = .go (G (cl.finish v) L) (sw w' τ (d + c)) es)
  | raise (chain : List PanicEntry)
      (h : ∀ k cl L τ d, stepG P true (G (tail f k) (cl :: L)) (sw w τ d) = .go (G (cl.raise chain) L) (sw w τ d) #[])
  | stop (c : Nat)
      (h : ∀ k L τ d, Agree τ d w c → (k = [] ∨ k = [.code (.refuse "")]) → ∃ o w' es, stepG P true (G (tail f k) L) (sw w τ d) = .ended o w' es)
  | edge (hm : f.mode = .run) (ht : f.todo = [])

theorem exitTo_app {id : Nat} : ∀ {l r : List Item} (k : List Item), exitTo id l = some r → exitTo id (l ++ k) = some (r ++ k) := by
  intro l
  induction l with
  | nil => intro r k h; cases h
  | cons a l ih =>
    intro r k h
    cases a with
    | inBlock i =>
      simp only [exitTo, List.cons_append] at h ⊢
      split at h
      · cases h; rw [if_pos ‹_›]
      · rw [if_neg ‹_›]; exact ih k h
    | _ => simp only [exitTo, List.cons_append] at h ⊢; exact ih k h

theorem exitTo_none {id : Nat} : ∀ {l : List Item} {k : List Item}, exitTo id l = none → exitTo id (l ++ k) = exitTo id k := by
  intro l
  induction l with
  | nil => intro k _; rfl
  | cons a l ih =>
    intro k h
    cases a with
    | inBlock i =>
      simp only [exitTo, List.cons_append] at h ⊢
      split at h
      · cases h
      · rw [if_neg ‹_›]; exact ih h
    | _ => simp only [exitTo, List.cons_append] at h ⊢; exact ih h

theorem exitTo_sub {id : Nat} : ∀ {l r : List Item}, exitTo id l = some r → ∀ x ∈ r, x ∈ l := by
  intro l
  induction l with
  | nil => intro r h; cases h
  | cons a l ih =>
    intro r h x hx
    cases a with
    | inBlock i =>
      simp only [exitTo] at h
      split at h
      · cases h; exact List.mem_cons_of_mem _ hx
      · exact List.mem_cons_of_mem _ (ih h x hx)
    | _ => simp only [exitTo] at h; exact List.mem_cons_of_mem _ (ih h x hx)

theorem fine_results {fn : Func} {tmps : Array Value} : Fine P (fun _ => True) (results fn tmps) := by
  unfold results
  refine fine_bindT (f_mapM _ (fun r => ?_) _) fun vs => fine_pure trivial
  cases r with
  | tmp t => exact fine_pure trivial
  | cell a t => exact fine_bindT (f_asAddr _) fun _ => f_loadVar _ _

theorem evs_seen {fn : FuncId} {es : Array Event} {B : Nat} (h : ∀ e ∈ es, evOk B e) : ∀ e ∈ seen P fn es, evOk B e := fun e he => h e (mem_seen he)

theorem fv_put {tmps : Array Value} {v : Value} {d : Nat} (hfv : ∀ t ∈ S, FV Q (tmps.getD t undef)) (h : S.contains d = false ∨ FV Q v) : ∀ t ∈ S, FV Q ((tmps.setIfInBounds d v).getD t undef) := by
  intro t ht
  have e : (tmps.setIfInBounds d v).getD t undef = if d = t ∧ t < tmps.size then v else tmps.getD t undef := by
    simp only [Array.getD_eq_getD_getElem?, Array.getElem?_setIfInBounds]
    by_cases hd : d = t
    · subst hd
      by_cases hlt : d < tmps.size
      · simp [hlt]
      · simp [hlt]
    · simp [hd]
  rw [e]
  split
  · rename_i hh
    obtain ⟨rfl, _⟩ := hh
    rcases h with h | h
    · exact absurd ht (by simpa using h)
    · exact h
  · exact hfv t ht

theorem fr_enter (hP : Safe P Q) {g : FuncId} {args : Array Value} {Sg : List Tmp} (hg : Q.slots g = some Sg) (ha : ∀ t ∈ Sg, FV Q (args.getD t undef)) : FrOk Q (Frame.enter P g args .normal) Sg := by
  obtain ⟨h0, fn, c, h1, h2, h3, _⟩ := hP.code g Sg hg
  refine ⟨h0, rfl, rfl, rfl, fun t ht => ?_, fun it hit => ?_⟩
  · have e : (args ++ Array.replicate (((P.funcs[g]?).map (·.ntmps)).getD 0 - args.size) undef).getD t undef = args.getD t undef := by
      simp only [Array.getD_eq_getD_getElem?, Array.getElem?_append]
      split
      · rfl
      · rename_i hlt
        rw [Array.getElem?_eq_none (by omega : args.size ≤ t)]
        simp only [Array.getElem?_replicate]
        split <;> rfl
    show FV Q ((args ++ Array.replicate (((P.funcs[g]?).map (·.ntmps)).getD 0 - args.size) undef).getD t undef)
    rw [e]
    exact ha t ht
  · simp only [Frame.enter, h1, h2, Option.bind_some, Option.getD_some, List.mem_singleton] at hit
    subst hit
    exact h3


theorem early_ended (hP : Safe P Q) (fr : Frame) (L : List Frame) (g : Nat) (w : World) : early P fr L none g w = .ended (.unsupported (.initOrder g) (fr.pos P)) w := by
  unfold early
  simp [hP.ahead, hP.noStep g]

/-- A wanted operation of a plain part. -/
theorem head_oper (hP : Safe P Q) {fn : FuncId} {tmps : Array Value} {ops : Array Oper} {i : Nat} {rest : List Nat} {k₀ : List Item} {o : Oper} {f : Frame}
    (hfe : f = { fn, tmps, todo := .inRegion ops (i :: rest) :: k₀, defers := [], mode := .run, kind := .normal, roundOf := none })
    (hf : FrOk Q f S) (ho : ops[i]? = some o) (hw : Region.wanted o (yielded ops tmps) = true) (w : World) : Head P Q S f w := by
  have hok : opOk Q S o = true := by
    have := hf.items (.inRegion ops (i :: rest)) (by rw [hfe]; simp)
    exact this i (by simp) o ho
  obtain ⟨c, h1, h2, h3, h4, h5, h6⟩ := local_of_fine (fine_op hP hf.fv hok) w #[]
  have hstep : ∀ k L τ d, stepG P true (G (tail f k) L) (sw w τ d) = stepG.apply P true (tail f k) L none (execOp f.eval o) (sw w τ d) := by
    intro k L τ d
    have he := evalf_tail f k
    subst hfe
    simp only [tail, List.cons_append] at he
    simp [G, tail, stepG, stepG.exec, stepG.oper, Frame.oper?, ho, hw, he]
  have hek : (f.kind == CallKind.early) = false := by rw [hf.kind]; rfl
  have hfn : f.fn = fn := by rw [hfe]
  generalize hr : (execOp f.eval o).runT P w #[] = r at h1 h2 h3 h4 h5 h6
  obtain ⟨r, es⟩ := r
  have hev : ∀ e ∈ seen P fn es, evOk (rworld r).heap.size e := evs_seen fun e he => (h4 e he).resolve_left (by simp)
  have hput : ∀ v, (freeOp S o = true ∨ FV Q v) → ∀ t ∈ S, FV Q ((match o.dst with | some d => tmps.setIfInBounds d v | none => tmps).getD t undef) := by
    intro v hv
    have hfv : ∀ t ∈ S, FV Q (tmps.getD t undef) := by have := hf.fv; rw [hfe] at this; exact this
    unfold freeOp at hv
    cases hd : o.dst with
    | none => exact hfv
    | some d =>
      simp only [hd] at hv
      exact fv_put hfv (by simpa using hv)
  have hitems : ∀ it ∈ (Item.inRegion ops rest :: k₀), itemOk Q S it := by
    intro it hit
    rcases List.mem_cons.1 hit with rfl | hit
    · intro j hj
      have := hf.items (.inRegion ops (i :: rest)) (by rw [hfe]; simp)
      exact this j (by simp [hj])
    · exact hf.items it (by rw [hfe]; simp [hit])
  have hslots := hf.slots
  have hrounds := hf.round
  have stayv : ∀ v w', r = .ok (.value v) w' ∨ (r = .ok .skip w' ∧ v = undef) → (freeOp S o = true ∨ FV Q v) → Head P Q S f w := by
    intro v w' hrv hv
    refine .stay { fn, tmps := (match o.dst with | some d => tmps.setIfInBounds d v | none => tmps), todo := .inRegion ops rest :: k₀, defers := [], mode := .run, kind := .normal, roundOf := none } w' (seen P fn es) c
      ⟨by rw [← hfn]; exact hslots, rfl, rfl, rfl, hput v hv, hitems⟩ (by rw [hfe]) ?_ ?_
    · rcases hrv with rfl | ⟨rfl, _⟩ <;> exact ⟨h1, h2, h3, hev⟩
    · intro k L τ d ha
      have h6' := h6 τ d ha
      have hfin : ∀ u, (tail f k).finish u = tail { fn, tmps := (match o.dst with | some d => tmps.setIfInBounds d u | none => tmps), todo := .inRegion ops rest :: k₀, defers := [], mode := .run, kind := .normal, roundOf := none } k := by
        intro u
        rw [hfe]
        simp only [tail, Frame.finish, List.cons_append, ho, Option.bind_some]
        cases o.dst <;> rfl
      have hkind : ((tail f k).kind == CallKind.early) = false := hek
      rw [hstep]
      simp only [stepG.apply, if_true, h6', hkind, Bool.false_eq_true, if_false]
      rcases hrv with rfl | ⟨rfl, rfl⟩
      · simp only [rsw, hfin, GStep.after, G]
        rw [show (tail f k).fn = fn from hfn]
        simp
      · simp only [rsw, hfin, GStep.after, G]
        rw [show (tail f k).fn = fn from hfn]
        simp
  cases r with
  | ok n w' =>
    cases n with
    | value v => exact stayv v w' (.inl rfl) h5
    | skip => exact stayv undef w' (.inr ⟨rfl, rfl⟩) (.inr (.inr (.inl rfl)))
    | enter g args =>
      obtain ⟨hfree, Sg, hSg, hargs⟩ := h5
      refine .enter g args Sg w' (seen P fn es) c (fr_enter hP hSg hargs) ⟨hf, by rw [hfe], ops, i, rest, k₀, by rw [hfe], fun o' ho' => ?_⟩ ⟨h1, h2, h3, hev⟩ ?_
      · rw [ho] at ho'; cases ho'; exact hfree
      · intro k L τ d ha
        have h6' := h6 τ d ha
        have hkind : ((tail f k).kind == CallKind.early) = false := hek
        rw [hstep]
        simp only [stepG.apply, if_true, h6', hkind, Bool.false_eq_true, if_false]
        have ht : (tail f k).todo = .inRegion ops (i :: rest) :: (k₀ ++ k) := by rw [hfe]; rfl
        simp only [rsw, GStep.after, G, ht]
        rw [show (tail f k).fn = fn from hfn]
        simp
    | _ => exact h5.elim
  | halt x w' =>
    have hend : ∀ k L τ d, Agree τ d w c → stepG P true (G (tail f k) L) (sw w τ d) = stepG.apply P true (tail f k) L none (execOp f.eval o) (sw w τ d) := fun k L τ d _ => hstep k L τ d
    cases x with
    | panic v =>
      have hmode : f.mode = .run := by rw [hfe]
      refine .stay (f.raise [{ v, recovered := false }]) w' (seen P fn es) c ?_ ?_ ⟨h1, h2, h3, hev⟩ ?_
      · subst hfe
        exact ⟨hf.slots, rfl, rfl, rfl, hf.fv, hf.items⟩
      · subst hfe; rfl
      · intro k L τ d ha
        have h6' := h6 τ d ha
        have hkind : ((tail f k).kind == CallKind.early) = false := hek
        rw [hstep]
        simp only [stepG.apply, if_true, h6', hkind, Bool.false_eq_true, if_false]
        have hra : (tail f k).raise [{ v, recovered := false }] = tail (f.raise [{ v, recovered := false }]) k := by subst hfe; rfl
        simp only [rsw, GStep.after, G, hra]
        rw [show (tail f k).fn = fn from hfn]
        simp
    | stuck s =>
      refine .stop c fun k L τ d ha _ => ?_
      have hkind : ((tail f k).kind == CallKind.early) = false := hek
      rw [hstep]
      simp only [stepG.apply, if_true, h6 τ d ha, hkind, Bool.false_eq_true, if_false, rsw, GStep.after]
      exact ⟨_, _, _, rfl⟩
    | unsupported u =>
      refine .stop c fun k L τ d ha _ => ?_
      have hkind : ((tail f k).kind == CallKind.early) = false := hek
      rw [hstep]
      cases u with
      | initOrder g =>
        simp only [stepG.apply, if_true, h6 τ d ha, hkind, Bool.false_eq_true, if_false, rsw, early_ended hP, GStep.after]
        exact ⟨_, _, _, rfl⟩
      | _ =>
        simp only [stepG.apply, if_true, h6 τ d ha, hkind, Bool.false_eq_true, if_false, rsw, GStep.after]
        exact ⟨_, _, _, rfl⟩
    | _ => cases h5


/-- A move of control: the world stands. -/
theorem head_move {f f' : Frame} {w : World} (hf : FrOk Q f S) (hitems : ∀ it ∈ f'.todo, itemOk Q S it) (hfe : f' = { f with todo := f'.todo })
    (h : ∀ k L (w : World), stepG P true (G (tail f k) L) w = .go (G (tail f' k) L) w) : Head P Q S f w := by
  refine .stay f' w #[] 0 ?_ (by rw [hfe]) (WOK.still w) fun k L τ d _ => h k L _
  rw [hfe]
  exact ⟨hf.slots, hf.defers, hf.round, hf.kind, hf.fv, hitems⟩

theorem items1 {a : Item} {l : List Item} (ha : itemOk Q S a) (h : ∀ x ∈ l, itemOk Q S x) : ∀ x ∈ a :: l, itemOk Q S x := by
  intro x hx
  rcases List.mem_cons.1 hx with rfl | hx
  · exact ha
  · exact h x hx
theorem items2 {a b : Item} {l : List Item} (ha : itemOk Q S a) (hb : itemOk Q S b) (h : ∀ x ∈ l, itemOk Q S x) : ∀ x ∈ a :: b :: l, itemOk Q S x := items1 ha (items1 hb h)

theorem head_all (hP : Safe P Q) {f : Frame} (hf : FrOk Q f S) (w : World) : Head P Q S f w := by
  have hf' := hf
  obtain ⟨fn, tmps, todo, defers, mode, kind, roundOf⟩ := f
  obtain ⟨hslots, hd, hro, hk, hfv, hit⟩ := hf
  simp only at hslots hd hro hk hfv hit
  subst hd hro hk
  obtain ⟨fd, hfd⟩ := hP.base fn S hslots
  cases mode with
  | panicking chain =>
    refine .raise chain fun k cl L τ d => ?_
    simp [G, tail, stepG, unwind, Frame.catches, hfd]
  | returning =>
    obtain ⟨c, h1, h2, h3, h4, h5, h6⟩ := local_of_fine (fine_results (P := P) (fn := fd) (tmps := tmps)) w #[]
    generalize hr : (results fd tmps).runT P w #[] = r at h1 h2 h3 h4 h5 h6
    obtain ⟨r, es⟩ := r
    have hev : ∀ e ∈ seen P fn es, evOk (rworld r).heap.size e := evs_seen fun e he => (h4 e he).resolve_left (by simp)
    cases r with
    | ok v w' =>
      refine .ret v w' (seen P fn es) c ⟨h1, h2, h3, hev⟩ fun k cl L τ d ha => ?_
      have h6' := h6 τ d ha
      simp only [G, tail, stepG, unwind, hfd, h6', rsw, GStep.after, doReturn]
      simp
    | halt x w' =>
      refine .stop c fun k L τ d ha _ => ?_
      have h6' := h6 τ d ha
      simp only [G, tail, stepG, unwind, hfd, h6', rsw]
      cases x <;> simp only [GStep.after] <;> exact ⟨_, _, _, rfl⟩
  | run =>
    cases todo with
    | nil => exact .edge rfl rfl
    | cons it rest =>
      have hi0 := hit it (by simp)
      have hrest : ∀ x ∈ rest, itemOk Q S x := fun x hx => hit x (by simp [hx])
      cases it with
      | code c =>
        cases c with
        | skip => exact head_move hf' (f' := { fn, tmps, todo := rest, defers := [], mode := .run, kind := .normal }) hrest rfl (fun k L w => by simp [G, tail, stepG, stepG.exec])
        | label l => exact head_move hf' (f' := { fn, tmps, todo := rest, defers := [], mode := .run, kind := .normal }) hrest rfl (fun k L w => by simp [G, tail, stepG, stepG.exec])
        | seq a b =>
          simp only [itemOk, codeOk, Bool.and_eq_true] at hi0
          exact head_move hf' (f' := { fn, tmps, todo := .code a :: .code b :: rest, defers := [], mode := .run, kind := .normal })
            (items2 hi0.1 hi0.2 hrest) rfl (fun k L w => by simp [G, tail, stepG, stepG.exec])
        | block id a =>
          exact head_move hf' (f' := { fn, tmps, todo := .code a :: .inBlock id :: rest, defers := [], mode := .run, kind := .normal })
            (items2 hi0 trivial hrest) rfl (fun k L w => by simp [G, tail, stepG, stepG.exec])
        | loop a =>
          exact head_move hf' (f' := { fn, tmps, todo := .code a :: .inLoop a :: rest, defers := [], mode := .run, kind := .normal })
            (items2 hi0 hi0 hrest) rfl (fun k L w => by simp [G, tail, stepG, stepG.exec])
        | scope a =>
          exact head_move hf' (f' := { fn, tmps, todo := .code a :: .inScope a :: rest, defers := [], mode := .run, kind := .normal })
            (items2 hi0 hi0 hrest) rfl (fun k L w => by simp [G, tail, stepG, stepG.exec])
        | cond c a b =>
          simp only [itemOk, codeOk, Bool.and_eq_true] at hi0
          have hev : ∀ k : List Item, Frame.eval { fn, tmps, todo := Item.code (.cond c a b) :: (rest ++ k), defers := [], mode := .run, kind := .normal } c = Frame.eval { fn, tmps, todo := Item.code (.cond c a b) :: rest, defers := [], mode := .run, kind := .normal } c := fun k => by cases c <;> rfl
          generalize hv : Frame.eval { fn, tmps, todo := Item.code (.cond c a b) :: rest, defers := [], mode := .run, kind := .normal } c = v at hev
          by_cases hb : ∃ t, v = .bool t
          · obtain ⟨t, rfl⟩ := hb
            exact head_move hf' (f' := { fn, tmps, todo := .code (if t then a else b) :: rest, defers := [], mode := .run, kind := .normal })
              (items1 (show codeOk Q S (if t then a else b) = true by cases t; exact hi0.2; exact hi0.1) hrest) rfl (fun k L w => by simp [G, tail, stepG, stepG.exec, hev])
          · refine .stop 0 fun k L τ d _ _ => ?_
            simp only [G, tail, stepG, stepG.exec, List.cons_append, hev]
            cases v <;> first | exact absurd ⟨_, rfl⟩ hb | exact ⟨_, _, _, rfl⟩
        | exit id =>
          cases hx : exitTo id rest with
          | some r =>
            exact head_move hf' (f' := { fn, tmps, todo := r, defers := [], mode := .run, kind := .normal }) (fun x hxr => hrest x (exitTo_sub hx x hxr)) rfl
              (fun k L w => by simp [G, tail, stepG, stepG.exec, exitTo_app k hx])
          | none =>
            refine .stop 0 fun k L τ d _ hk => ?_
            have hn : exitTo id (rest ++ k) = none := by
              rw [exitTo_none hx]
              rcases hk with rfl | rfl <;> rfl
            simp only [G, tail, stepG, stepG.exec, List.cons_append, hn, Option.elim_none]
            exact ⟨_, _, _, rfl⟩
        | ret =>
          refine .stay { fn, tmps, todo := .code .ret :: rest, defers := [], mode := .returning, kind := .normal } w #[] 0 ⟨hslots, rfl, rfl, rfl, hfv, hit⟩ rfl (WOK.still w) fun k L τ d _ => ?_
          simp [G, tail, stepG, stepG.exec]
        | refuse why =>
          refine .stop 0 fun k L τ d _ _ => ?_
          simp only [G, tail, stepG, stepG.exec, List.cons_append]
          exact ⟨_, _, _, rfl⟩
        | region id ops draw =>
          have hops : ∀ (i : Nat) (o : Oper), ops[i]? = some o → opOk Q S o = true := by
            intro i o ho
            have := Array.all_eq_true_iff_forall_mem.1 (show ops.all (opOk Q S) = true from hi0)
            exact this o (Array.mem_of_getElem? ho)
          cases draw with
          | false =>
            exact head_move hf' (f' := { fn, tmps, todo := .inRegion ops (List.range ops.size) :: rest, defers := [], mode := .run, kind := .normal })
              (items1 (fun i _ o ho => hops i o ho) hrest) rfl (fun k L w => by simp [G, tail, stepG, stepG.exec])
          | true =>
            refine .stay { fn, tmps, todo := .inRegion ops (Region.schedule (P.follows .mixedOrders) ops (w.tape w.drawn (.order fn id))) :: rest, defers := [], mode := .run, kind := .normal } { w with drawn := w.drawn + 1 } #[] 1
              ⟨hslots, rfl, rfl, rfl, hfv, ?_⟩ rfl ⟨rfl, rfl, Nat.le_refl _, by simp⟩ fun k L τ d ha => ?_
            · intro x hx
              simp only [List.mem_cons] at hx
              rcases hx with rfl | hx
              · exact fun i _ o ho => hops i o ho
              · exact hrest x hx
            · have e0 : τ d (.order fn id) = w.tape w.drawn (.order fn id) := congrFun (ha 0 (by omega)) _
              have e1 : (choose (.order fn id)).run P (sw w τ d) = .ok (w.tape w.drawn (.order fn id)) (sw { w with drawn := w.drawn + 1 } τ (d + 1)) := by
                simp only [choose, Sem.run, Question.forced, Question.cut]
                show Result.ok (τ d (.order fn id)) _ = _
                rw [e0]
                rfl
              simp [G, tail, stepG, stepG.exec, e1]
        | _ => simp [itemOk, codeOk] at hi0
      | inBlock id => exact head_move hf' (f' := { fn, tmps, todo := rest, defers := [], mode := .run, kind := .normal }) hrest rfl (fun k L w => by simp [G, tail, stepG, stepG.exec])
      | inScope c => exact head_move hf' (f' := { fn, tmps, todo := rest, defers := [], mode := .run, kind := .normal }) hrest rfl (fun k L w => by simp [G, tail, stepG, stepG.exec])
      | inLoop a =>
        exact head_move hf' (f' := { fn, tmps, todo := .code a :: .inLoop a :: rest, defers := [], mode := .run, kind := .normal })
          (items2 hi0 hi0 hrest) rfl (fun k L w => by simp [G, tail, stepG, stepG.exec])
      | inRegion ops todo =>
        cases todo with
        | nil => exact head_move hf' (f' := { fn, tmps, todo := rest, defers := [], mode := .run, kind := .normal }) hrest rfl (fun k L w => by simp [G, tail, stepG, stepG.exec])
        | cons i todo =>
          by_cases hw : ((ops[i]?).map (Region.wanted · (yielded ops tmps))).getD false = true
          · cases ho : ops[i]? with
            | none => rw [ho] at hw; cases hw
            | some o => exact head_oper hP (o := o) rfl hf' ho (by simpa [ho] using hw) w
          · have hput : ∀ t ∈ S, FV Q ((match (ops[i]?).bind (·.dst) with | some d => tmps.setIfInBounds d undef | none => tmps).getD t undef) := by
              cases (ops[i]?).bind (·.dst) with
              | none => exact hfv
              | some d => exact fv_put hfv (.inr (.inr (.inl rfl)))
            refine .stay { fn, tmps := (match (ops[i]?).bind (·.dst) with | some d => tmps.setIfInBounds d undef | none => tmps), todo := .inRegion ops todo :: rest, defers := [], mode := .run, kind := .normal } w #[] 0
              ⟨hslots, rfl, rfl, rfl, hput, ?_⟩ rfl (WOK.still w) fun k L τ d _ => ?_
            · intro x hx
              simp only [List.mem_cons] at hx
              rcases hx with rfl | hx
              · exact fun j hj => hi0 j (by simp [hj])
              · exact hrest x hx
            · have hw' : ((ops[i]?).map (Region.wanted · (yielded ops tmps))).getD false = false := by simpa using hw
              simp only [G, tail, stepG, stepG.exec, List.cons_append, hw', Bool.false_eq_true, if_false, Frame.finish]
              cases (ops[i]?).bind (·.dst) <;> rfl
      | _ => exact hi0.elim

end
end Go.Proofs.Ytofoplpnpfaofaa
