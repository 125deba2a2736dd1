/- What is proved here: the phase's invariant is kept by the steps of those that leave, and by what a sender does. No condition beside the invariant. -/
import Derived.Test.YtofoplpnpfaofaaPhase4
set_option linter.unusedSimpArgs false
set_option linter.unusedVariables false
namespace Go.Proofs.Ytofoplpnpfaofaa
open Go Go.Conc
open Go.ConcN (sumTo upd sumTo_upd upd_ne upd_same)

section
variable {X : Cx} {σ : Nat → GS} {C own : Nat → Nat} {j : Nat} {gs : Array Goroutine} {w w' : World} {t : Trace}

def GS.reQ : GS → Nat → GS
  | .quit _, k => .quit k
  | .sDone c _, k => .sDone c k
  | .lDone c i sl H _, k => .lDone c i sl H k
  | s, _ => s

def PairR.rqL {c k : Nat} {l s : GS} (h : PairR X w c k l s) (q : Nat) : PairR X w c k (l.reQ q) s :=
  ⟨h.s, h.r, h.buf, h.cl, h.chan, h.le, h.buff, h.room, h.snd, by have := h.lis; cases l <;> exact this⟩

def PairR.rqS {c k : Nat} {l s : GS} (h : PairR X w c k l s) (q : Nat) : PairR X w c k l (s.reQ q) :=
  ⟨h.s, h.r, h.buf, h.cl, h.chan, h.le, h.buff, h.room, by have := h.snd; cases s <;> exact this, by
    have := h.lis
    cases l <;> first | exact this | (obtain ⟨h1, h2, h3, h4, h5, h6⟩ := this; exact ⟨h1, h2, h3, h4, h5, fun a b d e => by cases s <;> simp [GS.reQ] at e <;> exact h6 _ _ _ rfl⟩)⟩

theorem PInv.commG (I : PInv X σ C own j gs w t) {σ' : Nat → GS} {gs' : Array Goroutine} {u : Trace} {cb j' : Nat} (htape : w'.tape = w.tape) (hos : w'.os = w.os) (hout : w'.output = w.output) (hsz : w'.heap.size = w.heap.size)
    (hcb : cb = X.tb ∨ ∃ i, hasC X σ gs.size i ∧ cb = C i) (hsame : ∀ b, b ≠ cb → w'.heap[b]? = w.heap[b]?) (hgs : gs'.size = gs.size) (hloc : ∀ h g, gs'[h]? = some g → GI X (σ' h) g)
    (hhp : ∀ h, h < gs.size → ∀ p ∈ (σ' h).hp, p ∈ (σ h).hp) (hmain : MainR X σ' C gs.size w') (hold : ∀ h, 0 < h → h < X.b0 → ∃ q, σ' h = .quit q) (hunb : ∀ h, gs.size ≤ h → σ' h = σ h) (hC : ∀ i, hasC X σ' gs.size i ↔ hasC X σ gs.size i)
    (hpairs : ∀ i, lisI X i < gs.size → Nonempty (PairR X w' (C i) i (σ' (lisI X i)) (σ' (sndI X i)))) (htb : w'.heap[X.tb]? = some (.chan 0 #[] false j' j' false))
    (hpt : PT X.T0 X.B0 X.b0 own gs.size w.heap.size (t ++ u)) (hq : ∀ h, h < gs.size → (σ h).quits = true → ∀ op ∈ u, op.g = h → op.act.touch? = none)
    (hshut : ∀ i, sndI X i < gs.size → (∃ c q, σ' (sndI X i) = .sDone c q) → (∃ c q, σ (sndI X i) = .sDone c q) ∨ ShutBy (t ++ u) (C i) (sndI X i))
    (hkl : ∀ i, lisI X i < gs.size → (σ' (lisI X i)).shut = true → (σ (lisI X i)).shut = true ∨ KBy (t ++ u) (lisI X i) (sndI X i))
    (hkm : ∀ i, lisI X i < gs.size → (∃ c k sl H q, σ' (lisI X i) = .lDone c k sl H q) → (∃ c k sl H q, σ (lisI X i) = .lDone c k sl H q) ∨ (KBy (t ++ u) 0 (lisI X i) ∧ KBy (t ++ u) 0 (sndI X i))) :
    PInv X σ' C own j' gs' w' (t ++ u) := by
  have hcbB : cb < X.B0 → cb = X.tb := by
    intro h
    rcases hcb with e | ⟨i, hi, e⟩
    · exact e
    · have := (I.cown i hi).1; omega
  refine ⟨⟨by rw [hsz]; exact I.base.size, htape.trans I.base.tape, hos.trans I.base.os, hout.trans I.base.output, fun b hb h1 h2 => ?_⟩, ⟨I.b0.1, by rw [hgs]; exact I.b0.2⟩, hloc, by rw [hgs]; exact hmain, hold, fun i hi => hpairs i (hgs ▸ hi), fun h hh => by rw [hunb h (hgs ▸ hh)]; exact I.unb h (hgs ▸ hh), fun i hi => ?_, fun i i' hi hi' => ?_, htb, ?_, I.tsb, fun h hh p hp => ?_, ?_, fun i hi hs => ?_, fun i hi hs => ?_, fun i hi hs => ?_⟩
  · rw [hsame b (fun e => h2 (e.trans (hcbB (e ▸ hb))))]
    exact I.base.old b hb h1 h2
  · rw [hgs, hC] at hi
    obtain ⟨h1, h2, h3⟩ := I.cown i hi
    exact ⟨h1, h2, by rw [hsz]; exact h3⟩
  · rw [hgs, hC] at hi hi'
    exact I.cinj i i' hi hi'
  · obtain ⟨cap, x, y, tm, e⟩ := I.sb
    refine ⟨cap, x, y, tm, ?_⟩
    rw [hsame]
    · exact e
    · intro e1
      have h1 := I.tsb.2.1
      have := hcbB (e1 ▸ h1)
      exact I.tsb.2.2 (this.symm.trans e1.symm)
  · rw [hgs] at hh
    have hp' := hhp h hh p hp
    obtain ⟨h1, h2, h3⟩ := I.heaps h hh p hp'
    refine ⟨?_, h2, h3⟩
    rw [hsame]
    · exact h1
    · intro e
      have hnk := I.not_key (b := cb) (h := h) (by rcases hcb with e1 | ⟨i, hi, e1⟩; exact .inl e1; exact .inr (.inr ⟨i, hi, e1⟩)) hh
      exact hnk ⟨p, hp', e⟩
  · rw [hgs, hsz]
    exact hpt
  · rw [hgs] at hi
    rcases hshut i hi hs with h | h
    · exact (I.shut i hi h).app (hq _ hi (by obtain ⟨c, q, e⟩ := h; rw [e]; rfl))
    · exact h
  · rw [hgs] at hi
    rcases hkl i hi hs with h | h
    · obtain ⟨c, q, e⟩ := (Classical.choice (I.pairs i hi)).done h
      have hlt : sndI X i < gs.size := by
        rcases Nat.lt_or_ge (sndI X i) gs.size with h' | h'
        · exact h'
        · have := I.unb _ h'; rw [e] at this; cases this
      exact (I.kl i hi h).app (hq _ hlt (by rw [e]; rfl))
    · exact h
  · rw [hgs] at hi
    rcases hkm i hi hs with h | h
    · obtain ⟨k1, k2⟩ := I.km i hi h
      obtain ⟨c', k', sl', H', q', e'⟩ := h
      obtain ⟨c, q, e⟩ := (Classical.choice (I.pairs i hi)).done (by rw [e']; rfl)
      have hlt : sndI X i < gs.size := by
        rcases Nat.lt_or_ge (sndI X i) gs.size with h' | h'
        · exact h'
        · have := I.unb _ h'; rw [e] at this; cases this
      exact ⟨k1.app (hq _ hi (by rw [e']; rfl)), k2.app (hq _ hlt (by rw [e]; rfl))⟩
    · exact h

theorem PInv.comm (I : PInv X σ C own j gs w t) {σ' : Nat → GS} {gs' : Array Goroutine} {u : Trace} {cb j' : Nat} (htape : w'.tape = w.tape) (hos : w'.os = w.os) (hout : w'.output = w.output) (hsz : w'.heap.size = w.heap.size)
    (hcb : cb = X.tb ∨ ∃ i, hasC X σ gs.size i ∧ cb = C i) (hsame : ∀ b, b ≠ cb → w'.heap[b]? = w.heap[b]?) (hgs : gs'.size = gs.size) (hloc : ∀ h g, gs'[h]? = some g → GI X (σ' h) g)
    (hhp : ∀ h, h < gs.size → ∀ p ∈ (σ' h).hp, p ∈ (σ h).hp) (hmain : MainR X σ' C gs.size w') (hold : ∀ h, 0 < h → h < X.b0 → ∃ q, σ' h = .quit q) (hunb : ∀ h, gs.size ≤ h → σ' h = σ h) (hC : ∀ i, hasC X σ' gs.size i ↔ hasC X σ gs.size i)
    (hpairs : ∀ i, lisI X i < gs.size → Nonempty (PairR X w' (C i) i (σ' (lisI X i)) (σ' (sndI X i)))) (htb : w'.heap[X.tb]? = some (.chan 0 #[] false j' j' false))
    (hu : ∀ op ∈ u, op.act.touch? = none) (hw : Wordless u) (hl : ∀ op ∈ u, op.act.low w.heap.size)
    (hshut : ∀ i, sndI X i < gs.size → (∃ c q, σ' (sndI X i) = .sDone c q) → ∃ c q, σ (sndI X i) = .sDone c q)
    (hkl : ∀ i, lisI X i < gs.size → (σ' (lisI X i)).shut = true → (σ (lisI X i)).shut = true ∨ KBy (t ++ u) (lisI X i) (sndI X i))
    (hkm : ∀ i, lisI X i < gs.size → (∃ c k sl H q, σ' (lisI X i) = .lDone c k sl H q) → (∃ c k sl H q, σ (lisI X i) = .lDone c k sl H q) ∨ (KBy (t ++ u) 0 (lisI X i) ∧ KBy (t ++ u) 0 (sndI X i))) :
    PInv X σ' C own j' gs' w' (t ++ u) :=
  I.commG htape hos hout hsz hcb hsame hgs hloc hhp hmain hold hunb hC hpairs htb (I.pt.mute (Nat.le_refl _) hu hw hl) (fun _ _ _ op hop _ => hu op hop) (fun i hi h => .inl (hshut i hi h)) hkl hkm

/-- What main knows hangs on the listeners that have told, and on who waits to tell. -/
theorem mainR_keep {sz : Nat} {σ' : Nat → GS} (hm : MainR X σ C sz w) (h0 : σ' 0 = σ 0) (hld : ∀ k c k' sl H q, σ' k = .lDone c k' sl H q ↔ σ k = .lDone c k' sl H q) (hpt : ∀ k c k' sl H, σ' k = .lPTell c k' sl H → σ k = .lPTell c k' sl H)
    (hst : ∀ c, (∃ p m H, σ 0 = .mMade p c m H) → w'.heap[c]? = w.heap[c]?) : MainR X σ' C sz w' := by
  unfold MainR at hm ⊢
  rw [h0]
  have hboth : ∀ (f : Nat → Option Value) k, (match f k with | none => (∀ c k' sl H q, σ (lisI X k) ≠ .lDone c k' sl H q) | some sl => ∃ c H q, σ (lisI X k) = .lDone c k sl H q) →
      (match f k with | none => (∀ c k' sl H0 q, σ' (lisI X k) ≠ .lDone c k' sl H0 q) | some sl => ∃ c H0 q, σ' (lisI X k) = .lDone c k sl H0 q) := by
    intro f k hk
    cases hf : f k with
    | none => rw [hf] at hk; exact fun c k' sl H q e => hk c k' sl H q ((hld _ _ _ _ _ _).1 e)
    | some sl => rw [hf] at hk; obtain ⟨c, H, q, e⟩ := hk; exact ⟨c, H, q, (hld _ _ _ _ _ _).2 e⟩
  cases e0 : σ 0 with
  | mSpawn p mm HH => rw [e0] at hm; exact ⟨hm.1, fun x c k sl H q e => hm.2 x c k sl H q ((hld _ _ _ _ _ _).1 e)⟩
  | mMade p c mm HH =>
    rw [e0] at hm
    have := hst c ⟨p, mm, HH, e0⟩
    exact ⟨hm.1, hm.2.1, this.trans hm.2.2.1, fun x c k sl H q e => hm.2.2.2 x c k sl H q ((hld _ _ _ _ _ _).1 e)⟩
  | mGone p c mm HH => rw [e0] at hm; exact ⟨hm.1, hm.2.1, fun x c k sl H q e => hm.2.2 x c k sl H q ((hld _ _ _ _ _ _).1 e)⟩
  | mRecv rem mm f HH => rw [e0] at hm; exact ⟨hm.1, hm.2.1, fun k hk => hboth f k (hm.2.2 k hk)⟩
  | mPark rem f HH => rw [e0] at hm; exact ⟨hm.1, hm.2.1, fun k hk => hboth f k (hm.2.2.1 k hk), fun i c k sl H0 e1 => hm.2.2.2 i c k sl H0 (hpt _ _ _ _ _ e1)⟩
  | _ => rw [e0] at hm; exact hm.elim

theorem hasC_keep {sz i : Nat} {σ' : Nat → GS} (h0 : σ' 0 = σ 0) : hasC X σ' sz i ↔ hasC X σ sz i := by unfold hasC; rw [h0]

/-- Who waits to receive at a pair's channel: that pair's listener. -/
theorem PInv.recv_at (I : PInv X σ C own j gs w t) (hF : ∀ f H g, X.Fin f H g → g.status = .running) {x i h k : Nat} (hi : lisI X i < gs.size) (hm : (h, k) ∈ partners (gs.setIfInBounds x dummyG) (C i) false) : h = lisI X i ∧ k = 0 ∧ ∃ c k' r H, σ h = .lPark c k' r H := by
  obtain ⟨hx, g, hg, hc⟩ := part_cases hF I.loc hm
  have hlt : h < gs.size := (Array.getElem?_eq_some_iff.1 hg).1
  have hB := (I.cown i (.inl hi)).1
  simp only [Bool.false_eq_true, if_false] at hc
  rcases hc with ⟨_, _, _, _, e, _⟩ | ⟨c, jj, q, H, e1, e2, e3⟩ | ⟨_, _, _, _, e, _⟩
  · have := I.tsb.2.1; omega
  · obtain ⟨i', hi', rfl⟩ := I.at_l hlt (by rw [e1]; rfl)
    have R := Classical.choice (I.pairs i' hi')
    rw [e1] at R
    have hcc := R.lis.1
    have : i = i' := I.cinj i i' (.inl hi) (.inl hi') (by rw [e2, hcc])
    subst this
    exact ⟨rfl, e3, c, jj, q, H, e1⟩
  · have := I.tsb.1; omega

theorem PInv.send_at (I : PInv X σ C own j gs w t) (hF : ∀ f H g, X.Fin f H g → g.status = .running) {x i h k : Nat} (hi : lisI X i < gs.size) (hm : (h, k) ∈ partners (gs.setIfInBounds x dummyG) (C i) true) : h = sndI X i ∧ k = 0 ∧ ∃ c s H, σ h = .sPark c s H := by
  obtain ⟨hx, g, hg, hc⟩ := part_cases hF I.loc hm
  have hlt : h < gs.size := (Array.getElem?_eq_some_iff.1 hg).1
  have hB := (I.cown i (.inl hi)).1
  simp only [if_true] at hc
  rcases hc with ⟨c, s, H, e1, e2, e3⟩ | ⟨_, _, _, _, _, e, _⟩
  · obtain ⟨i', hi', rfl⟩ := I.at_s hlt (by rw [e1]; rfl)
    have R := Classical.choice (I.pairs i' hi')
    rw [e1] at R
    have hcc := R.snd.1
    have : i = i' := I.cinj i i' (.inl hi) (.inl hi') (by rw [e2, hcc])
    subst this
    exact ⟨rfl, e3, c, s, H, e1⟩
  · have := I.tsb.1; omega

theorem PInv.nobody_sb (I : PInv X σ C own j gs w t) (hF : ∀ f H g, X.Fin f H g → g.status = .running) (x : Nat) : partners (gs.setIfInBounds x dummyG) X.sb true = [] := by
  refine partners_nil fun h k hm => ?_
  obtain ⟨hx, g, hg, hc⟩ := part_cases hF I.loc hm
  have hlt : h < gs.size := (Array.getElem?_eq_some_iff.1 hg).1
  simp only [if_true] at hc
  rcases hc with ⟨c, s, H, e1, e2, e3⟩ | ⟨_, _, _, _, _, e, _⟩
  · obtain ⟨i', hi', rfl⟩ := I.at_s hlt (by rw [e1]; rfl)
    have R := Classical.choice (I.pairs i' hi')
    rw [e1] at R
    have hcc := R.snd.1
    have := (I.cown i' (.inl hi')).1
    have := I.tsb.2.1
    omega
  · exact I.tsb.2.2 e.symm

theorem PInv.tell_at (I : PInv X σ C own j gs w t) (hF : ∀ f H g, X.Fin f H g → g.status = .running) {x h k : Nat} (hm : (h, k) ∈ partners (gs.setIfInBounds x dummyG) X.tb true) : k = 0 ∧ h < gs.size ∧ ∃ c k' sl H, σ h = .lPTell c k' sl H := by
  obtain ⟨hx, g, hg, hc⟩ := part_cases hF I.loc hm
  have hlt : h < gs.size := (Array.getElem?_eq_some_iff.1 hg).1
  simp only [if_true] at hc
  rcases hc with ⟨c, s, H, e1, e2, e3⟩ | ⟨c, k', sl, H, e1, _, e3⟩
  · obtain ⟨i', hi', rfl⟩ := I.at_s hlt (by rw [e1]; rfl)
    have R := Classical.choice (I.pairs i' hi')
    rw [e1] at R
    have hcc := R.snd.1
    have := (I.cown i' (.inl hi')).1
    have := I.tsb.1
    omega
  · exact ⟨e3, hlt, c, k', sl, H, e1⟩

theorem PInv.main_at (I : PInv X σ C own j gs w t) (hF : ∀ f H g, X.Fin f H g → g.status = .running) {x h k : Nat} (hm : (h, k) ∈ partners (gs.setIfInBounds x dummyG) X.tb false) : k = 0 ∧ h = 0 ∧ ∃ rem f H, σ 0 = .mPark rem f H := by
  obtain ⟨hx, g, hg, hc⟩ := part_cases hF I.loc hm
  have hlt : h < gs.size := (Array.getElem?_eq_some_iff.1 hg).1
  simp only [Bool.false_eq_true, if_false] at hc
  rcases hc with ⟨_, _, _, _, e, _⟩ | ⟨c, jj, q, H, e1, e2, e3⟩ | ⟨rem, f, H, e1, _, e3⟩
  · exact absurd e I.tsb.2.2
  · obtain ⟨i', hi', rfl⟩ := I.at_l hlt (by rw [e1]; rfl)
    have R := Classical.choice (I.pairs i' hi')
    rw [e1] at R
    have hcc := R.lis.1
    have := (I.cown i' (.inl hi')).1
    have := I.tsb.1
    omega
  · have h0 := I.at_m hlt (by rw [e1]; rfl)
    subst h0
    exact ⟨e3, rfl, rem, f, H, e1⟩

/-- The sums that fall. -/
def alS (X : Cx) (σ : Nat → GS) (n : Nat) : Nat := sumTo n fun a => (σ a).al X
def beS (σ : Nat → GS) (n : Nat) : Nat := sumTo n fun a => (σ a).be

theorem alS_upd {n h : Nat} (hh : h < n) (x : GS) : alS X (upd σ h x) n + (σ h).al X = alS X σ n + x.al X := sumTo_upd σ x (fun s => s.al X) hh
theorem beS_upd {n h : Nat} (hh : h < n) (x : GS) : beS (upd σ h x) n + (σ h).be = beS σ n + x.be := sumTo_upd σ x (fun s => s.be) hh

/-- One step on. -/
def Falls (X : Cx) (σ : Nat → GS) (gs : Array Goroutine) (t : Trace) (r : Stepped × Array MemOp) : Prop :=
  ∃ σ' C' own' j' gs' w' sl' ops, r = (.next (crowd gs' w' sl'), ops) ∧ PInv X σ' C' own' j' gs' w' (t ++ ops) ∧
    (alS X σ' gs'.size < alS X σ gs.size ∨ (alS X σ' gs'.size = alS X σ gs.size ∧ beS σ' gs'.size < beS σ gs.size))

theorem own_falls (I : PInv X σ C own j gs w t) (hF : ∀ f H g, X.Fin f H g → g.status = .running) {sl : Option (Nat × Nat)} {h m m' : Nat} {g g' : Goroutine} {H' : Hp} {es : Array Event} (hg : gs[h]? = some g) (hr : (σ h).runs = true) (hm : (σ h).be = m' + 2)
    (hst : stepG X.P (h == 0) g w = .go g' w' es) (he : Eff X (σ h).hp H' w w' es) (hgi : GI X ((σ h).reH m' H') g') : Falls X σ gs t (runT X.P (crowd gs w sl) h) := by
  obtain ⟨own', I'⟩ := I.own_step hF hg hr he hgi
  have hlt : h < gs.size := (Array.getElem?_eq_some_iff.1 hg).1
  refine ⟨_, C, own', j, _, w', sl, _, runT_crowd_go hg hst, I', .inr ⟨?_, ?_⟩⟩
  · have := alS_upd (X := X) (σ := σ) hlt ((σ h).reH m' H')
    rw [reH_al] at this
    simp only [Array.size_setIfInBounds, Array.size_map]
    omega
  · have := beS_upd (σ := σ) hlt ((σ h).reH m' H')
    rw [reH_be hr, hm] at this
    simp only [Array.size_setIfInBounds, Array.size_map]
    omega

theorem quit_falls (I : PInv X σ C own j gs w t) (hF : ∀ f H g, X.Fin f H g → g.status = .running) {sl : Option (Nat × Nat)} {h : Nat} {g : Goroutine} (hg : gs[h]? = some g) (hr : (σ h).quits = true) (hrun : g.status = .running) : Falls X σ gs t (runT X.P (crowd gs w sl) h) := by
  have hlt : h < gs.size := (Array.getElem?_eq_some_iff.1 hg).1
  have hgi := I.loc h g hg
  have hq : QuitsIn X.P (σ h).be g := by
    cases e : σ h <;> rw [e] at hgi hr <;> first | exact hgi | exact hgi.1 | cases hr
  have hne0 : (h == 0) = false := by
    have : h ≠ 0 := by
      rintro rfl
      rcases I.isM with ⟨_, _, _, e⟩ | ⟨_, _, _, _, e⟩ | ⟨_, _, _, _, e⟩ | ⟨_, _, _, _, e⟩ | ⟨_, _, _, e⟩ <;> rw [e] at hr <;> cases hr
    simpa using this
  cases hb : (σ h).be with
  | zero => rw [hb] at hq; rw [show g.status = .finished from hq] at hrun; cases hrun
  | succ k =>
    rw [hb] at hq
    rcases hq with hf | ⟨_, g', hstp, hq'⟩
    · rw [hf] at hrun; cases hrun
    have hst : stepG X.P (h == 0) g w = .go g' w #[] := by rw [hne0]; exact hstp w
    have hw : ∀ x y, gs[x]? = some y → Conc.woken X.P g g' w y = y := fun x y hy => I.woken hF (fun b _ => rfl) hy
    have hget : ∀ x, ((gs.map (Conc.woken X.P g g' w)).setIfInBounds h g')[x]? = if x = h then some g' else gs[x]? := by
      intro x
      by_cases hx : x = h
      · subst hx
        rw [if_pos rfl, Array.getElem?_setIfInBounds_self_of_lt (by simpa using hlt)]
      · rw [if_neg hx, Array.getElem?_setIfInBounds_ne (Ne.symm hx), Array.getElem?_map]
        cases hgx : gs[x]? with
        | none => rfl
        | some y => simp only [Option.map_some]; rw [hw x y hgx]
    have hne : ∀ x, x ≠ h → (upd σ h ((σ h).reQ k)) x = σ x := fun x hx => upd_ne σ _ hx
    have hkind : ∀ x, ((upd σ h ((σ h).reQ k)) x).hp = (σ x).hp ∧ ((upd σ h ((σ h).reQ k)) x).shut = (σ x).shut ∧ (∀ c k' sl H, (∃ q, (upd σ h ((σ h).reQ k)) x = .lDone c k' sl H q) ↔ ∃ q, σ x = .lDone c k' sl H q) ∧ (∀ c, (∃ q, (upd σ h ((σ h).reQ k)) x = .sDone c q) ↔ ∃ q, σ x = .sDone c q) ∧ ((∃ q, (upd σ h ((σ h).reQ k)) x = .quit q) ↔ ∃ q, σ x = .quit q) ∧ (∀ c k' sl H, (upd σ h ((σ h).reQ k)) x = .lPTell c k' sl H ↔ σ x = .lPTell c k' sl H) := by
      intro x
      by_cases hx : x = h
      · subst hx
        rw [upd_same]
        cases e : σ x <;> simp [GS.reQ, GS.hp, GS.shut]
      · rw [hne x hx]; simp
    have I' : PInv X (upd σ h ((σ h).reQ k)) C own j ((gs.map (Conc.woken X.P g g' w)).setIfInBounds h g') w (t ++ #[]) := by
      have h0 : (upd σ h ((σ h).reQ k)) 0 = σ 0 := hne 0 (Ne.symm (by simpa using hne0))
      refine I.comm rfl rfl rfl rfl (.inl rfl) (fun b _ => rfl) (by simp) (fun x y hy => ?_) (fun x _ p hp => by rw [(hkind x).1] at hp; exact hp) ?_ (fun x h1 h2 => (hkind x).2.2.2.2.1.2 (I.old x h1 h2)) (fun x hx => hne x (by omega)) (fun i => hasC_keep h0) (fun i hi => ?_) I.tb (by simp) (by intro op hop; simp at hop) (by simp) (fun i hi ⟨c, hs⟩ => ⟨c, ((hkind _).2.2.2.1 c).1 hs⟩) (fun i hi hs => .inl (by rw [(hkind _).2.1] at hs; exact hs)) (fun i hi ⟨c, k', sl', H, hs⟩ => .inl ⟨c, k', sl', H, ((hkind _).2.2.1 c k' sl' H).1 hs⟩)
      · rw [hget] at hy
        by_cases hx : x = h
        · subst hx
          rw [if_pos rfl] at hy
          cases hy
          rw [upd_same]
          cases e : σ x <;> rw [e] at hgi hr <;> first | exact hq' | exact ⟨hq', hgi.2⟩ | cases hr
        · rw [if_neg hx] at hy
          rw [hne x hx]
          exact I.loc x y hy
      · have hm := I.main
        unfold MainR at hm ⊢
        rw [h0]
        have hboth : ∀ (f : Nat → Option Value) kk, (match f kk with | none => (∀ c k' sl H q, σ (lisI X kk) ≠ .lDone c k' sl H q) | some sl => ∃ c H q, σ (lisI X kk) = .lDone c kk sl H q) →
            (match f kk with | none => (∀ c k' sl H0 q, (upd σ h ((σ h).reQ k)) (lisI X kk) ≠ .lDone c k' sl H0 q) | some sl => ∃ c H0 q, (upd σ h ((σ h).reQ k)) (lisI X kk) = .lDone c kk sl H0 q) := by
          intro f kk hk
          cases hf : f kk with
          | none =>
            rw [hf] at hk
            intro c k' sl H q e
            obtain ⟨q', e'⟩ := ((hkind _).2.2.1 c k' sl H).1 ⟨q, e⟩
            exact hk c k' sl H q' e'
          | some sl => rw [hf] at hk; obtain ⟨c, H, hq0⟩ := hk; exact ⟨c, H, ((hkind _).2.2.1 c kk sl H).2 hq0⟩
        have hnod : NoD σ → NoD (upd σ h ((σ h).reQ k)) := fun hn x c k' sl H q e => by
          obtain ⟨q', e'⟩ := ((hkind _).2.2.1 c k' sl H).1 ⟨q, e⟩
          exact hn _ _ _ _ _ _ e'
        cases e0 : σ 0 with
        | mSpawn p mm HH => rw [e0] at hm; exact ⟨hm.1, hnod hm.2⟩
        | mMade p c mm HH => rw [e0] at hm; exact ⟨hm.1, hm.2.1, hm.2.2.1, hnod hm.2.2.2⟩
        | mGone p c mm HH => rw [e0] at hm; exact ⟨hm.1, hm.2.1, hnod hm.2.2⟩
        | mRecv rem mm f HH => rw [e0] at hm; exact ⟨hm.1, hm.2.1, fun kk hk => hboth f kk (hm.2.2 kk hk)⟩
        | mPark rem f HH => rw [e0] at hm; exact ⟨hm.1, hm.2.1, fun kk hk => hboth f kk (hm.2.2.1 kk hk), fun i c k sl H0 e1 => hm.2.2.2 i c k sl H0 (((hkind _).2.2.2.2.2 _ _ _ _).1 e1)⟩
        | _ => rw [e0] at hm; exact hm.elim
      · have R := Classical.choice (I.pairs i hi)
        by_cases h1 : lisI X i = h
        · have h2 : sndI X i ≠ h := by simp only [lisI, sndI] at *; omega
          rw [hne _ h2, h1, upd_same]
          rw [h1] at R
          exact ⟨R.rqL k⟩
        · rw [hne _ h1]
          by_cases h2 : sndI X i = h
          · rw [h2, upd_same]
            rw [h2] at R
            exact ⟨R.rqS k⟩
          · rw [hne _ h2]; exact ⟨R⟩
    refine ⟨_, C, own, j, _, w, sl, _, (runT_crowd_go hg hst).trans (by rw [ofEvents_nil]), I', .inr ⟨?_, ?_⟩⟩
    · have := alS_upd (X := X) (σ := σ) hlt ((σ h).reQ k)
      have e : ((σ h).reQ k).al X = (σ h).al X := by cases σ h <;> rfl
      rw [e] at this
      simp only [Array.size_setIfInBounds, Array.size_map]
      omega
    · have := beS_upd (σ := σ) hlt ((σ h).reQ k)
      have e : ((σ h).reQ k).be = k := by cases e : σ h <;> rw [e] at hr <;> first | rfl | cases hr
      rw [e, hb] at this
      simp only [Array.size_setIfInBounds, Array.size_map]
      omega
end
end Go.Proofs.Ytofoplpnpfaofaa
