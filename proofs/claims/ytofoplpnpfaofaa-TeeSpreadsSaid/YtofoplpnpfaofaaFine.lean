/- What is proved here: laws on the model's own step, for whichever program: a part of it whose operations are plain ones
   (no communication, no go statement, no library call) lists plain accesses alone, draws from the tape in order, and
   looks at nothing else of the tape. Conditions: stated at each law. -/
import Derived.Control
import Derived.Laws.Sem
set_option linter.unusedSimpArgs false
namespace Go.Proofs.Ytofoplpnpfaofaa
open Go

/-- The world with another tape, another count of draws. -/
def sw (w : World) (τ : Nat → Question → Nat) (d : Nat) : World := { w with tape := τ, drawn := d }

/-- The next c answers of (τ, d) are those that w is about to hear. -/
def Agree (τ : Nat → Question → Nat) (d : Nat) (w : World) (c : Nat) : Prop := ∀ i, i < c → τ (d + i) = w.tape (w.drawn + i)

def rsw {α : Type} (r : Result α) (τ : Nat → Question → Nat) (d : Nat) : Result α :=
  match r with
  | .ok a w => .ok a (sw w τ d)
  | .halt h w => .halt h (sw w τ d)
def rworld {α : Type} : Result α → World
  | .ok _ w => w
  | .halt _ w => w

/-- A halt that a plain operation may come to. -/
def haltOk : Halt → Bool
  | .panic _ | .unsupported (.initOrder _) => true
  | .unsupported _ => true
  | .stuck _ => true
  | _ => false

/-- Plain: no word of the library's but 'no room', nothing asked of the outside world; what it yields satisfies K. -/
def Fine (P : Program) {α : Type} (K : α → Prop) : Sem α → Prop
  | .pure a => K a
  | .load _ _ k => ∀ v, Fine P K (k v)
  | .store _ _ _ k => Fine P K k
  | .new _ k => ∀ n, Fine P K (k n)
  | .shape _ k => ∀ s, Fine P K (k s)
  | .freeze _ _ k => Fine P K k
  | .frozen _ k => ∀ b, Fine P K (k b)
  | .getObj _ k => ∀ o, Fine P K (k o)
  | .setObj _ _ k => Fine P K k
  | .choose _ k => ∀ n, Fine P K (k n)
  | .sys _ _ => False
  | .program k => Fine P K (k P)
  | .mark m k => m = .noRoom ∧ Fine P K k
  | .halt h => haltOk h = true

section
variable {P : Program} {α β : Type}

theorem Fine.mono {K K' : α → Prop} (hK : ∀ a, K a → K' a) : ∀ {s : Sem α}, Fine P K s → Fine P K' s
  | .pure a, h => hK a h
  | .load _ _ _, h => fun v => Fine.mono hK (h v)
  | .store _ _ _ k, h => Fine.mono (s := k) hK h
  | .new _ _, h => fun n => Fine.mono hK (h n)
  | .shape _ _, h => fun n => Fine.mono hK (h n)
  | .freeze _ _ k, h => Fine.mono (s := k) hK h
  | .frozen _ _, h => fun n => Fine.mono hK (h n)
  | .getObj _ _, h => fun n => Fine.mono hK (h n)
  | .setObj _ _ k, h => Fine.mono (s := k) hK h
  | .choose _ _, h => fun n => Fine.mono hK (h n)
  | .sys _ _, h => h.elim
  | .program k, h => Fine.mono (s := k P) hK h
  | .mark _ k, h => ⟨h.1, Fine.mono (s := k) hK h.2⟩
  | .halt _, h => h

theorem Fine.bind' {K : α → Prop} {K' : β → Prop} {f : α → Sem β} (hf : ∀ a, K a → Fine P K' (f a)) : ∀ {s : Sem α}, Fine P K s → Fine P K' (s.bind f)
  | .pure a, h => hf a h
  | .load _ _ _, h => fun v => Fine.bind' hf (h v)
  | .store _ _ _ k, h => Fine.bind' (s := k) hf h
  | .new _ _, h => fun n => Fine.bind' hf (h n)
  | .shape _ _, h => fun n => Fine.bind' hf (h n)
  | .freeze _ _ k, h => Fine.bind' (s := k) hf h
  | .frozen _ _, h => fun n => Fine.bind' hf (h n)
  | .getObj _ _, h => fun n => Fine.bind' hf (h n)
  | .setObj _ _ k, h => Fine.bind' (s := k) hf h
  | .choose _ _, h => fun n => Fine.bind' hf (h n)
  | .sys _ _, h => h.elim
  | .program k, h => Fine.bind' (s := k P) hf h
  | .mark _ k, h => ⟨h.1, Fine.bind' (s := k) hf h.2⟩
  | .halt _, h => h

theorem fine_bind {K : α → Prop} {K' : β → Prop} {s : Sem α} {f : α → Sem β} (h : Fine P K s) (hf : ∀ a, K a → Fine P K' (f a)) : Fine P K' (s >>= f) := Fine.bind' hf h
theorem fine_bindT {K' : β → Prop} {s : Sem α} {f : α → Sem β} (h : Fine P (fun _ => True) s) (hf : ∀ a, Fine P K' (f a)) : Fine P K' (s >>= f) := Fine.bind' (fun a _ => hf a) h
theorem fine_pure {K : α → Prop} {a : α} (h : K a) : Fine P K (pure a : Sem α) := h

/-- The world that a plain piece leaves: no smaller, the same tape; what it lists names blocks that are there. -/
def evOk (B : Nat) (e : Event) : Prop :=
  match e.loc with
  | .cell a => a.block < B
  | .obj r => r < B
  | .mark m => m = .noRoom
  | _ => False

theorem evOk_mono {B B' : Nat} (h : B ≤ B') {e : Event} (he : evOk B e) : evOk B' e := by
  unfold evOk at *
  cases hl : e.loc <;> simp only [hl] at he ⊢ <;> first | omega | exact he

theorem cell_lt {w : World} {a : Addr} {v : Value} (h : w.cell? a = some v) : a.block < w.heap.size := by
  unfold World.cell? at h
  rcases Nat.lt_or_ge a.block w.heap.size with hl | hl
  · exact hl
  · rw [Array.getElem?_eq_none hl] at h; cases h

theorem farLoad_sw (w : World) (τ : Nat → Question → Nat) (d : Nat) (a : Addr) (b : Bool) : (sw w τ d).farLoad P a b = w.farLoad P a b := rfl


theorem seen_block {w : World} {at_ : Addr} {u : TypeId} {k : Addr} {b : Bool} {r : Array Value × TypeId × (Nat × Nat) × Nat × Value × List (Nat × Nat × List UInt8)}
    (h : w.seen P at_ u k b = .ok r) : at_.block < w.heap.size := by
  rcases Nat.lt_or_ge at_.block w.heap.size with hl | hl
  · exact hl
  · unfold World.seen at h
    simp only [Array.getElem?_eq_none hl, bind, Except.bind, pure, Except.pure, throw, throwThe, MonadExceptOf.throw] at h
    repeat' (split at h <;> try (cases h; done))

theorem viewLoad_block {w : World} {at_ : Addr} {u : TypeId} {k : Addr} {b : Bool} {r : Value × List Addr} (h : w.viewLoad P at_ u k b = .ok r) :
    ∀ a ∈ r.2, a.block < w.heap.size := by
  unfold World.viewLoad at h
  cases hs : w.seen P at_ u k b with
  | error e => rw [hs] at h; cases h
  | ok x =>
    have hb := seen_block hs
    obtain ⟨c, e, fz, first, like, cells⟩ := x
    rw [hs] at h
    simp only [bind, Except.bind, pure, Except.pure, throw, throwThe, MonadExceptOf.throw] at h
    split at h
    · cases h
      intro a ha
      simp only [List.mem_map] at ha
      obtain ⟨x, _, rfl⟩ := ha
      exact hb
    · cases h

theorem farLoad_block {w : World} {a : Addr} {b : Bool} {r : Value × List Addr} (h : w.farLoad P a b = .ok r) : ∀ x ∈ r.2, x.block < w.heap.size := by
  unfold World.farLoad at h
  split at h
  · split at h
    · cases h; exact viewLoad_block (by assumption)
    · cases h
  · cases h

theorem viewStore_sw (w : World) (τ : Nat → Question → Nat) (d : Nat) (at_ : Addr) (u : TypeId) (k : Addr) (v : Value) (b : Bool) :
    (sw w τ d).viewStore P at_ u k v b = (w.viewStore P at_ u k v b).map (fun x => (sw x.1 τ d, x.2)) := by
  unfold World.viewStore
  have hs : (sw w τ d).seen P at_ u k b = w.seen P at_ u k b := rfl
  rw [hs]
  cases w.seen P at_ u k b with
  | error e => simp only [bind, Except.bind, pure, Except.pure, throw, throwThe, MonadExceptOf.throw]; split <;> rfl
  | ok x =>
    obtain ⟨c, e, fz, first, like, cells⟩ := x
    simp only [bind, Except.bind, pure, Except.pure, throw, throwThe, MonadExceptOf.throw]
    split
    · rfl
    · split
      · split
        · rfl
        · split <;> rfl
      · rfl

theorem viewStore_keeps {w : World} {at_ : Addr} {u : TypeId} {k : Addr} {v : Value} {b : Bool} {x : World × List Addr} (h : w.viewStore P at_ u k v b = .ok x) :
    x.1.tape = w.tape ∧ x.1.drawn = w.drawn ∧ x.1.heap.size = w.heap.size ∧ ∀ a ∈ x.2, a.block < w.heap.size := by
  unfold World.viewStore at h
  simp only [bind, Except.bind, pure, Except.pure, throw, throwThe, MonadExceptOf.throw] at h
  split at h
  · cases h
  · cases hs : w.seen P at_ u k b with
    | error e => rw [hs] at h; cases h
    | ok y =>
      have hb := seen_block hs
      obtain ⟨c, e, fz, first, like, cells⟩ := y
      rw [hs] at h
      simp only at h
      split at h
      · split at h
        · cases h
        · split at h
          · cases h
          · cases h
            refine ⟨rfl, rfl, by simp, ?_⟩
            intro a ha
            simp only [List.mem_map] at ha
            obtain ⟨z, _, rfl⟩ := ha
            exact hb
      · cases h

theorem farStore_sw (w : World) (τ : Nat → Question → Nat) (d : Nat) (a : Addr) (v : Value) (b : Bool) :
    (sw w τ d).farStore P a v b = (w.farStore P a v b).map (fun x => (sw x.1 τ d, x.2)) := by
  have hh : (sw w τ d).heap = w.heap := rfl
  unfold World.farStore
  rw [hh]
  split
  · rw [viewStore_sw]
    cases w.viewStore P _ _ a v b <;> rfl
  · rfl

theorem farStore_keeps {w : World} {a : Addr} {v : Value} {b : Bool} {x : World × List Addr} (h : w.farStore P a v b = .ok x) :
    x.1.tape = w.tape ∧ x.1.drawn = w.drawn ∧ x.1.heap.size = w.heap.size ∧ ∀ y ∈ x.2, y.block < w.heap.size := by
  unfold World.farStore at h
  split at h
  · split at h
    · cases h; exact viewStore_keeps (by assumption)
    · cases h
  · cases h

/-- What is said of a plain piece's run from w, with es listed already. -/
def Local (P : Program) {α : Type} (K : α → Prop) (s : Sem α) (w : World) (es : Array Event) : Prop :=
  ∃ c, (rworld (s.runT P w es).1).drawn = w.drawn + c ∧ (rworld (s.runT P w es).1).tape = w.tape ∧ w.heap.size ≤ (rworld (s.runT P w es).1).heap.size ∧
    (∀ e ∈ (s.runT P w es).2, e ∈ es ∨ evOk (rworld (s.runT P w es).1).heap.size e) ∧
    (match (s.runT P w es).1 with | .ok a _ => K a | .halt h _ => haltOk h = true) ∧
    ∀ τ d, Agree τ d w c → s.runT P (sw w τ d) es = (rsw (s.runT P w es).1 τ (d + c), (s.runT P w es).2)

theorem evs_push {B : Nat} {es fs : Array Event} {e : Event} (h : ∀ x ∈ fs, x ∈ es.push e ∨ evOk B x) (he : evOk B e) : ∀ x ∈ fs, x ∈ es ∨ evOk B x := by
  intro x hx
  rcases h x hx with h | h
  · rcases Array.mem_push.1 h with h | rfl
    · exact .inl h
    · exact .inr he
  · exact .inr h

theorem evs_app {B : Nat} {es gs fs : Array Event} (h : ∀ x ∈ fs, x ∈ es ++ gs ∨ evOk B x) (he : ∀ x ∈ gs, evOk B x) : ∀ x ∈ fs, x ∈ es ∨ evOk B x := by
  intro x hx
  rcases h x hx with h | h
  · rcases Array.mem_append.1 h with h | h
    · exact .inl h
    · exact .inr (he x h)
  · exact .inr h

theorem noCell_ok (w : World) (a : Addr) (s : String) : haltOk (w.noCell a s) = true := by
  unfold World.noCell
  split <;> rfl

theorem local_of_fine {K : α → Prop} : ∀ {s : Sem α}, Fine P K s → ∀ (w : World) (es : Array Event), Local P K s w es
  | .pure a, h, w, es => ⟨0, rfl, rfl, Nat.le_refl _, fun e he => .inl he, h, fun τ d _ => rfl⟩
  | .load m a k, h, w, es => by
    unfold Local
    simp only [Sem.runT]
    cases hc : w.cell? a with
    | some v =>
      obtain ⟨c, h1, h2, h3, h4, h5, h6⟩ := local_of_fine (h v) w (es.push ⟨.cell a, false, m == .atomic⟩)
      have hc' : ∀ τ d, (sw w τ d).cell? a = some v := fun _ _ => hc
      refine ⟨c, h1, h2, h3, evs_push h4 (Nat.lt_of_lt_of_le (cell_lt hc) h3), h5, fun τ d ha => ?_⟩
      simp only [hc']
      exact h6 τ d ha
    | none =>
      have hc' : ∀ τ d, (sw w τ d).cell? a = none := fun _ _ => hc
      cases hf : w.farLoad P a (m == .atomic) with
      | ok r =>
        obtain ⟨v, touched⟩ := r
        have hb := farLoad_block hf
        have hf' : ∀ τ d, (sw w τ d).farLoad P a (m == .atomic) = .ok (v, touched) := fun _ _ => hf
        obtain ⟨c, h1, h2, h3, h4, h5, h6⟩ := local_of_fine (h v) w (es ++ touched.toArray.map (⟨.cell ·, false, m == .atomic⟩))
        refine ⟨c, h1, h2, h3, evs_app h4 ?_, h5, fun τ d ha => ?_⟩
        · intro x hx
          simp only [List.map_toArray, List.mem_toArray, List.mem_map] at hx
          obtain ⟨y, hy, rfl⟩ := hx
          exact Nat.lt_of_lt_of_le (hb y hy) h3
        · simp only [hc', hf']
          exact h6 τ d ha
      | error e =>
        have hf' : ∀ τ d, (sw w τ d).farLoad P a (m == .atomic) = .error e := fun _ _ => hf
        refine ⟨0, rfl, rfl, Nat.le_refl _, fun e he => .inl he, ?_, fun τ d _ => by simp only [hc', hf']; rfl⟩
        unfold World.farLoad at hf
        split at hf
        · split at hf <;> cases hf; rfl
        · cases hf; exact noCell_ok _ _ _
  | .store m a v k, h, w, es => by
    by_cases hv : (∃ x, v = .agg x) ∨ (∃ x, v = .tuple x)
    · rcases hv with ⟨x, rfl⟩ | ⟨x, rfl⟩
      · exact ⟨0, rfl, rfl, Nat.le_refl _, fun e he => .inl he, rfl, fun τ d _ => rfl⟩
      · exact ⟨0, rfl, rfl, Nat.le_refl _, fun e he => .inl he, rfl, fun τ d _ => rfl⟩
    have er : ∀ (w : World) (es : Array Event), (Sem.store m a v k).runT P w es = (match w.cell? a with
      | some _ => if w.frozen? a then (.halt (.unsupported (.unsafePointer "a write to bytes that a string shares")) w, es)
        else k.runT P (w.setCell a v) (es.push ⟨.cell a, true, m == .atomic⟩)
      | none => match w.farStore P a v (m == .atomic) with
        | .ok (w, touched) => k.runT P w (es ++ touched.toArray.map (⟨.cell ·, true, m == .atomic⟩))
        | .error h => (.halt h w, es)) := by
      intro w es
      cases v <;> first | rfl | exact absurd (.inl ⟨_, rfl⟩) hv | exact absurd (.inr ⟨_, rfl⟩) hv
    unfold Local
    simp only [er]
    cases hc : w.cell? a with
    | some u =>
      have hc' : ∀ τ d, (sw w τ d).cell? a = some u := fun _ _ => hc
      have hz' : ∀ τ d, (sw w τ d).frozen? a = w.frozen? a := fun _ _ => rfl
      by_cases hz : w.frozen? a = true
      · simp only [hz, if_true]
        refine ⟨0, rfl, rfl, Nat.le_refl _, fun e he => .inl he, rfl, fun τ d _ => ?_⟩
        simp only [hc', hz', hz, if_true]; rfl
      · simp only [hz, if_false, Bool.false_eq_true]
        have hsz : (w.setCell a v).heap.size = w.heap.size := by simp [World.setCell]
        obtain ⟨c, h1, h2, h3, h4, h5, h6⟩ := local_of_fine (s := k) h (w.setCell a v) (es.push ⟨.cell a, true, m == .atomic⟩)
        refine ⟨c, h1, h2, hsz ▸ h3, evs_push h4 (Nat.lt_of_lt_of_le (hsz ▸ cell_lt hc) h3), h5, fun τ d ha => ?_⟩
        simp only [hc', hz', hz, if_false, Bool.false_eq_true]
        exact h6 τ d ha
    | none =>
      have hc' : ∀ τ d, (sw w τ d).cell? a = none := fun _ _ => hc
      simp only [hc', farStore_sw]
      cases hf : w.farStore P a v (m == .atomic) with
      | ok r =>
        obtain ⟨w1, touched⟩ := r
        obtain ⟨e1, e2, e3, e4⟩ := farStore_keeps hf
        obtain ⟨c, h1, h2, h3, h4, h5, h6⟩ := local_of_fine (s := k) h w1 (es ++ touched.toArray.map (⟨.cell ·, true, m == .atomic⟩))
        refine ⟨c, by rw [h1, e2], by rw [h2, e1], by rw [← e3]; exact h3, evs_app h4 ?_, h5, fun τ d ha => ?_⟩
        · intro x hx
          simp only [List.map_toArray, List.mem_toArray, List.mem_map] at hx
          obtain ⟨y, hy, rfl⟩ := hx
          exact Nat.lt_of_lt_of_le (e3 ▸ e4 y hy) h3
        · exact h6 τ d (fun i hi => by rw [e1, e2]; exact ha i hi)
      | error e =>
        refine ⟨0, rfl, rfl, Nat.le_refl _, fun e he => .inl he, ?_, fun τ d _ => rfl⟩
        unfold World.farStore at hf
        split at hf
        · split at hf <;> cases hf; rfl
        · cases hf; exact noCell_ok _ _ _
  | .new o k, h, w, es => by
    obtain ⟨c, h1, h2, h3, h4, h5, h6⟩ := local_of_fine (h w.heap.size) { w with heap := w.heap.push o } es
    refine ⟨c, h1, h2, Nat.le_trans (by simp) h3, h4, h5, fun τ d ha => h6 τ d ha⟩
  | .shape r k, h, w, es => by
    obtain ⟨c, h1, h2, h3, h4, h5, h6⟩ := local_of_fine (h (w.shape? r)) w es
    exact ⟨c, h1, h2, h3, h4, h5, fun τ d ha => h6 τ d ha⟩
  | .freeze a n k, h, w, es => by
    have e1 : (w.freeze a n).tape = w.tape := by unfold World.freeze; split <;> rfl
    have e2 : (w.freeze a n).drawn = w.drawn := by unfold World.freeze; split <;> rfl
    have e3 : (w.freeze a n).heap.size = w.heap.size := by unfold World.freeze; split <;> simp
    have e4 : ∀ τ d, (sw w τ d).freeze a n = sw (w.freeze a n) τ d := fun τ d => by unfold World.freeze; split <;> rfl
    obtain ⟨c, h1, h2, h3, h4, h5, h6⟩ := local_of_fine (s := k) h (w.freeze a n) es
    refine ⟨c, by simp only [Sem.runT]; rw [h1, e2], by simp only [Sem.runT]; rw [h2, e1], by simp only [Sem.runT]; rw [← e3]; exact h3, h4, h5, fun τ d ha => ?_⟩
    simp only [Sem.runT]
    rw [e4]
    exact h6 τ d (fun i hi => by rw [e1, e2]; exact ha i hi)
  | .frozen a k, h, w, es => by
    obtain ⟨c, h1, h2, h3, h4, h5, h6⟩ := local_of_fine (h (w.frozen? a)) w es
    exact ⟨c, h1, h2, h3, h4, h5, fun τ d ha => h6 τ d ha⟩
  | .getObj r k, h, w, es => by
    have hh : ∀ τ d, (sw w τ d).heap[r]? = w.heap[r]? := fun _ _ => rfl
    unfold Local
    simp only [Sem.runT, hh]
    cases hr : w.heap[r]? with
    | none => exact ⟨0, rfl, rfl, Nat.le_refl _, fun e he => .inl he, rfl, fun τ d _ => rfl⟩
    | some o =>
      have hlt : r < w.heap.size := by
        rcases Nat.lt_or_ge r w.heap.size with hl | hl
        · exact hl
        · rw [Array.getElem?_eq_none hl] at hr; cases hr
      cases o with
      | cells cs el fz => exact ⟨0, rfl, rfl, Nat.le_refl _, fun e he => .inl he, rfl, fun τ d _ => rfl⟩
      | _ =>
        obtain ⟨c, h1, h2, h3, h4, h5, h6⟩ := local_of_fine (h _) w (es.push ⟨.obj r, false, Obj.isChan _⟩)
        exact ⟨c, h1, h2, h3, evs_push h4 (Nat.lt_of_lt_of_le hlt h3), h5, fun τ d ha => h6 τ d ha⟩
  | .setObj r o k, h, w, es => by
    have hh : ∀ τ d, (sw w τ d).heap[r]? = w.heap[r]? := fun _ _ => rfl
    unfold Local
    simp only [Sem.runT, hh]
    cases hr : w.heap[r]? with
    | none => exact ⟨0, rfl, rfl, Nat.le_refl _, fun e he => .inl he, rfl, fun τ d _ => rfl⟩
    | some o' =>
      have hlt : r < w.heap.size := by
        rcases Nat.lt_or_ge r w.heap.size with hl | hl
        · exact hl
        · rw [Array.getElem?_eq_none hl] at hr; cases hr
      cases o' with
      | cells cs el fz => exact ⟨0, rfl, rfl, Nat.le_refl _, fun e he => .inl he, rfl, fun τ d _ => rfl⟩
      | _ =>
        obtain ⟨c, h1, h2, h3, h4, h5, h6⟩ := local_of_fine (s := k) h { w with heap := w.heap.setIfInBounds r o } (es.push ⟨.obj r, true, Obj.isChan _⟩)
        have hsz : ({ w with heap := w.heap.setIfInBounds r o } : World).heap.size = w.heap.size := by simp
        exact ⟨c, h1, h2, hsz ▸ h3, evs_push h4 (Nat.lt_of_lt_of_le (hsz ▸ hlt) h3), h5, fun τ d ha => h6 τ d ha⟩
  | .choose q k, h, w, es => by
    unfold Local
    simp only [Sem.runT]
    by_cases hq : q.forced = true
    · simp only [hq, if_true]
      obtain ⟨c, h1, h2, h3, h4, h5, h6⟩ := local_of_fine (h 0) w es
      exact ⟨c, h1, h2, h3, h4, h5, h6⟩
    · simp only [hq, if_false, Bool.false_eq_true]
      obtain ⟨c, h1, h2, h3, h4, h5, h6⟩ := local_of_fine (h (q.cut (w.tape w.drawn q))) { w with drawn := w.drawn + 1 } es
      refine ⟨1 + c, by rw [h1]; show w.drawn + 1 + c = _; omega, h2, h3, h4, h5, fun τ d ha => ?_⟩
      have e0 : (sw w τ d).tape (sw w τ d).drawn = w.tape w.drawn := by
        have := ha 0 (by omega)
        exact this
      rw [e0]
      have := h6 τ (d + 1) (fun i hi => by
        have := ha (i + 1) (by omega)
        show τ (d + 1 + i) = w.tape (w.drawn + 1 + i)
        rw [show d + 1 + i = d + (i + 1) by omega, this, show w.drawn + 1 + i = w.drawn + (i + 1) by omega])
      rw [show d + (1 + c) = d + 1 + c by omega, ← this]
      rfl
  | .sys _ _, h, _, _ => h.elim
  | .program k, h, w, es => by
    obtain ⟨c, h1, h2, h3, h4, h5, h6⟩ := local_of_fine (s := k P) h w es
    exact ⟨c, h1, h2, h3, h4, h5, fun τ d ha => h6 τ d ha⟩
  | .mark m k, h, w, es => by
    obtain ⟨c, h1, h2, h3, h4, h5, h6⟩ := local_of_fine (s := k) h.2 w (es.push ⟨.mark m, false, true⟩)
    exact ⟨c, h1, h2, h3, evs_push h4 (by rw [h.1]; rfl), h5, fun τ d ha => h6 τ d ha⟩
  | .halt x, h, w, es => ⟨0, rfl, rfl, Nat.le_refl _, fun e he => .inl he, h, fun τ d _ => rfl⟩

end
end Go.Proofs.Ytofoplpnpfaofaa
