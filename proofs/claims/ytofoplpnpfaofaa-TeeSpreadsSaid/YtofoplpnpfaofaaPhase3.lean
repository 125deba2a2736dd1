/- What is proved here: the phase's invariant is kept by a goroutine's own step. No condition beside the invariant. -/
import Derived.Test.YtofoplpnpfaofaaPhase2
set_option linter.unusedSimpArgs false
set_option linter.unusedVariables false
namespace Go.Proofs.Ytofoplpnpfaofaa
open Go Go.Conc
open Go.ConcN (sumTo upd sumTo_upd upd_ne upd_same)

section
variable {X : Cx} {σ : Nat → GS} {C own : Nat → Nat} {j : Nat} {gs : Array Goroutine} {w w' : World} {t : Trace}

def GS.reH : GS → Nat → Hp → GS
  | .sRun c s _ _, m, H => .sRun c s m H
  | .lRun c k r _ _, m, H => .lRun c k r m H
  | .lTell c k _ _, m, H => .lTell c k m H
  | .mSpawn p _ _, m, H => .mSpawn p m H
  | .mMade p c _ _, m, H => .mMade p c m H
  | .mGone p c _ _, m, H => .mGone p c m H
  | .mRecv rem _ f _, m, H => .mRecv rem m f H
  | s, _, _ => s

def GS.runs : GS → Bool
  | .sRun .. | .lRun .. | .lTell .. | .mSpawn .. | .mMade .. | .mGone .. | .mRecv .. => true
  | _ => false

theorem reH_al (s : GS) (m : Nat) (H : Hp) : (s.reH m H).al X = s.al X := by cases s <;> rfl
theorem reH_shut (s : GS) (m : Nat) (H : Hp) : (s.reH m H).shut = s.shut := by cases s <;> rfl
theorem reH_hp {s : GS} (h : s.runs = true) (m : Nat) (H : Hp) : (s.reH m H).hp = H := by cases s <;> first | rfl | cases h
theorem reH_be {s : GS} (h : s.runs = true) (m : Nat) (H : Hp) : (s.reH m H).be = m + 1 := by cases s <;> first | rfl | cases h

def PairR.other {c k : Nat} {l s : GS} (h : PairR X w c k l s) (hc : w'.heap[c]? = w.heap[c]?) : PairR X w' c k l s :=
  ⟨h.s, h.r, h.buf, h.cl, hc.trans h.chan, h.le, h.buff, h.room, h.snd, h.lis⟩

def PairR.reL {c k : Nat} {l s : GS} (h : PairR X w c k l s) (m : Nat) (H : Hp) : PairR X w c k (l.reH m H) s :=
  ⟨h.s, h.r, h.buf, h.cl, h.chan, h.le, h.buff, h.room, h.snd, by have := h.lis; cases l <;> exact this⟩

def PairR.reS {c k : Nat} {l s : GS} (h : PairR X w c k l s) (m : Nat) (H : Hp) : PairR X w c k l (s.reH m H) :=
  ⟨h.s, h.r, h.buf, h.cl, h.chan, h.le, h.buff, h.room, by have := h.snd; cases s <;> exact this, by
    have := h.lis
    cases l <;> first | exact this | (obtain ⟨h1, h2, h3, h4, h5, h6⟩ := this; exact ⟨h1, h2, h3, h4, h5, fun a b d e => by cases s <;> simp [GS.reH] at e <;> exact h6 _ _ _ rfl⟩)⟩

theorem PairR.isL {c k : Nat} {l s : GS} (h : PairR X w c k l s) : l.isL = true := by have := h.lis; cases l <;> first | rfl | exact this.elim
theorem PairR.isS {c k : Nat} {l s : GS} (h : PairR X w c k l s) : s.isS = true := by have := h.snd; cases s <;> first | rfl | exact this.elim
theorem PairR.done {c k : Nat} {l s : GS} (h : PairR X w c k l s) (hl : l.shut = true) : ∃ c' q, s = .sDone c' q := by
  have h1 := h.lis
  have h2 := h.snd
  have hcl : h.cl = true := by cases l <;> first | exact h1.2.2.2 | cases hl
  cases s <;> first | exact ⟨_, _, rfl⟩ | exact h2.elim | (rw [hcl] at h2; simp at h2)

/-- Which goroutine is which. -/
theorem PInv.who (I : PInv X σ C own j gs w t) {h : Nat} (hlt : h < gs.size) : h = 0 ∨ (0 < h ∧ h < X.b0) ∨ ∃ i, lisI X i < gs.size ∧ (h = lisI X i ∨ h = sndI X i) := by
  rcases Nat.eq_zero_or_pos h with rfl | hpos
  · exact .inl rfl
  rcases Nat.lt_or_ge h X.b0 with hb | hb
  · exact .inr (.inl ⟨hpos, hb⟩)
  · refine .inr (.inr ⟨(h - X.b0) / 2, ?_, ?_⟩) <;> simp only [lisI, sndI] <;> omega

theorem PInv.isL (I : PInv X σ C own j gs w t) {i : Nat} (hi : lisI X i < gs.size) : (σ (lisI X i)).isL = true := (Classical.choice (I.pairs i hi)).isL
theorem PInv.isS (I : PInv X σ C own j gs w t) {i : Nat} (hi : lisI X i < gs.size) : (σ (sndI X i)).isS = true := (Classical.choice (I.pairs i hi)).isS

theorem PInv.isM (I : PInv X σ C own j gs w t) : (∃ p m H, σ 0 = .mSpawn p m H) ∨ (∃ p c m H, σ 0 = .mMade p c m H) ∨ (∃ p c m H, σ 0 = .mGone p c m H) ∨ (∃ rem m f H, σ 0 = .mRecv rem m f H) ∨ (∃ rem f H, σ 0 = .mPark rem f H) := by
  have h := I.main
  unfold MainR at h
  split at h
  · exact .inl ⟨_, _, _, by assumption⟩
  · exact .inr (.inl ⟨_, _, _, _, by assumption⟩)
  · exact .inr (.inr (.inl ⟨_, _, _, _, by assumption⟩))
  · exact .inr (.inr (.inr (.inl ⟨_, _, _, _, by assumption⟩)))
  · exact .inr (.inr (.inr (.inr ⟨_, _, _, by assumption⟩)))
  · exact h.elim

/-- A sender's state stands at a sender's place. -/
theorem PInv.at_s (I : PInv X σ C own j gs w t) {h : Nat} (hlt : h < gs.size) (hs : (σ h).isS = true) : ∃ i, lisI X i < gs.size ∧ h = sndI X i := by
  rcases I.who hlt with rfl | ⟨h1, h2⟩ | ⟨i, hi, rfl | rfl⟩
  · rcases I.isM with ⟨_, _, _, e⟩ | ⟨_, _, _, _, e⟩ | ⟨_, _, _, _, e⟩ | ⟨_, _, _, _, e⟩ | ⟨_, _, _, e⟩ <;> rw [e] at hs <;> cases hs
  · obtain ⟨q, e⟩ := I.old h h1 h2; rw [e] at hs; cases hs
  · have := I.isL hi
    cases e : σ (lisI X i) <;> rw [e] at this hs <;> first | cases hs; done | cases this
  · exact ⟨i, hi, rfl⟩

theorem PInv.at_l (I : PInv X σ C own j gs w t) {h : Nat} (hlt : h < gs.size) (hs : (σ h).isL = true) : ∃ i, lisI X i < gs.size ∧ h = lisI X i := by
  rcases I.who hlt with rfl | ⟨h1, h2⟩ | ⟨i, hi, rfl | rfl⟩
  · rcases I.isM with ⟨_, _, _, e⟩ | ⟨_, _, _, _, e⟩ | ⟨_, _, _, _, e⟩ | ⟨_, _, _, _, e⟩ | ⟨_, _, _, e⟩ <;> rw [e] at hs <;> cases hs
  · obtain ⟨q, e⟩ := I.old h h1 h2; rw [e] at hs; cases hs
  · exact ⟨i, hi, rfl⟩
  · have := I.isS hi
    cases e : σ (sndI X i) <;> rw [e] at this hs <;> first | cases hs; done | cases this

def GS.isMn : GS → Bool
  | .mSpawn .. | .mMade .. | .mGone .. | .mRecv .. | .mPark .. => true
  | _ => false

theorem PInv.at_m (I : PInv X σ C own j gs w t) {h : Nat} (hlt : h < gs.size) (hs : (σ h).isMn = true) : h = 0 := by
  rcases I.who hlt with rfl | ⟨h1, h2⟩ | ⟨i, hi, rfl | rfl⟩
  · rfl
  · obtain ⟨q, e⟩ := I.old h h1 h2; rw [e] at hs; cases hs
  · have := I.isL hi
    cases e : σ (lisI X i) <;> rw [e] at this hs <;> first | cases hs; done | cases this
  · have := I.isS hi
    cases e : σ (sndI X i) <;> rw [e] at this hs <;> first | cases hs; done | cases this

/-- Blocks of the channels are nobody's. -/
def chanBlock (X : Cx) (σ : Nat → GS) (C : Nat → Nat) (sz b : Nat) : Prop := b = X.tb ∨ b = X.sb ∨ ∃ i, hasC X σ sz i ∧ b = C i

theorem PInv.not_key (I : PInv X σ C own j gs w t) {b h : Nat} (hb : chanBlock X σ C gs.size b) (hh : h < gs.size) : ¬ keyOfHp (σ h).hp b := by
  rintro ⟨p, hp, rfl⟩
  obtain ⟨_, h1, h2⟩ := I.heaps h hh p hp
  rcases hb with e | e | ⟨i, hi, e⟩
  · have := I.tsb.1; omega
  · have := I.tsb.2.1; omega
  · obtain ⟨_, h3, _⟩ := I.cown i hi
    rw [e] at h2
    have hsz : gs.size ≤ X.b0 + 2 * X.n + 1 := by
      have hm := I.main
      have h0 : gs[0]? = some gs[0] := Array.getElem?_eq_getElem (by have := I.b0; omega)
      have hg0 := I.loc 0 _ h0
      unfold MainR at hm
      split at hm
      · rename_i e; rw [e] at hg0; have := hg0.1; omega
      · rename_i e; rw [e] at hg0; have := hg0.1; omega
      · rename_i e; rw [e] at hg0; have := hg0.1; omega
      · omega
      · omega
      · exact hm.elim
    omega

theorem again_parked {g : Goroutine} {cs : Array CommCase} {sh : CommShape} (h : ∀ c ∈ cs, ∀ r, c.chan = .chan (some r) → ∃ cap buf s r' tm, w.heap[r]? = some (.chan cap buf false s r' tm)) : (parked g cs sh).again w = parked g cs sh := by
  unfold Goroutine.again
  simp only [parked]
  have : (cs.any fun c => match c.chan with | .chan (some r) => (w.heap[r]? matches some (.chan _ _ true ..)) | _ => false) = false := by
    rw [Array.any_eq_false]
    intro i hi
    have hm := Array.getElem_mem hi
    cases hc : cs[i].chan with
    | chan r =>
      cases r with
      | none => simp
      | some r =>
        obtain ⟨cap, buf, s, r', tm, e⟩ := h _ hm r hc
        simp [e]
    | _ => simp
  split
  · rename_i hx; exact absurd hx (by rw [Bool.not_eq_true]; exact this)
  · rfl

/-- Nobody who waits is let try again while the channels stay open. -/
theorem PInv.again (I : PInv X σ C own j gs w t) (hF : ∀ f H g, X.Fin f H g → g.status = .running) (hsame : ∀ b, chanBlock X σ C gs.size b → w'.heap[b]? = w.heap[b]?) {k : Nat} {y : Goroutine} (hk : gs[k]? = some y) : y.again w' = y := by
  have hlt : k < gs.size := (Array.getElem?_eq_some_iff.1 hk).1
  have hgi := I.loc k y hk
  have htb : ∃ cap buf s r' tm, w'.heap[X.tb]? = some (.chan cap buf false s r' tm) := ⟨_, _, _, _, _, (hsame _ (.inl rfl)).trans I.tb⟩
  have hsb : ∃ cap buf s r' tm, w'.heap[X.sb]? = some (.chan cap buf false s r' tm) := by
    obtain ⟨cap, x, y, tm, e⟩ := I.sb
    exact ⟨_, _, _, _, _, (hsame _ (.inr (.inl rfl))).trans e⟩
  rcases gi_status hF hgi with ⟨hp, _⟩ | ⟨_, hq⟩ | ⟨_, _, hq⟩
  · cases hs : σ k with
    | sPark c s H =>
      obtain ⟨i, hi, rfl⟩ := I.at_s hlt (by rw [hs]; rfl)
      have R := (Classical.choice (I.pairs i hi))
      rw [hs] at R
      have h1 := R.snd
      obtain ⟨h1, h2, h3, _⟩ := h1
      rw [hs] at hgi
      obtain ⟨g₂, v, z1, z2, rfl, _⟩ := hgi
      refine again_parked fun c' hc' r hr => ?_
      simp only [List.mem_toArray, List.mem_cons, List.not_mem_nil, or_false] at hc'
      rcases hc' with rfl | rfl
      · simp [scase] at hr
        subst hr
        have := R.chan
        rw [h3] at this
        exact ⟨_, _, _, _, _, by rw [h1, hsame _ (.inr (.inr ⟨i, .inl hi, rfl⟩))]; exact this⟩
      · simp [rcase] at hr
        subst hr
        exact hsb
    | lPark c k' r H =>
      obtain ⟨i, hi, rfl⟩ := I.at_l hlt (by rw [hs]; rfl)
      have R := (Classical.choice (I.pairs i hi))
      rw [hs] at R
      have h1 := R.lis
      obtain ⟨h1, h2, h3, h4, h5, _⟩ := h1
      rw [hs] at hgi
      obtain ⟨g₂, z1, rfl, _⟩ := hgi
      refine again_parked fun c' hc' r' hr => ?_
      simp only [List.mem_toArray, List.mem_cons, List.not_mem_nil, or_false] at hc'
      subst hc'
      simp [rcase] at hr
      subst hr
      have := R.chan
      rw [h5] at this
      exact ⟨_, _, _, _, _, by rw [h1, hsame _ (.inr (.inr ⟨i, .inl hi, rfl⟩))]; exact this⟩
    | lPTell c k' sl H =>
      rw [hs] at hgi
      obtain ⟨g₂, z1, rfl, _⟩ := hgi
      refine again_parked fun c' hc' r' hr => ?_
      simp only [List.mem_toArray, List.mem_cons, List.not_mem_nil, or_false] at hc'
      subst hc'
      simp [scase] at hr
      subst hr
      exact htb
    | mPark rem f H =>
      rw [hs] at hgi
      obtain ⟨g₂, z1, r', _, rfl, _⟩ := hgi
      refine again_parked fun c' hc' r' hr => ?_
      simp only [List.mem_toArray, List.mem_cons, List.not_mem_nil, or_false] at hc'
      subst hc'
      simp [rcase] at hr
      subst hr
      exact htb
    | _ => rw [hs] at hp; cases hp
  · exact again_running w' hq
  · exact again_running w' (.inl hq)

theorem PInv.woken (I : PInv X σ C own j gs w t) (hF : ∀ f H g, X.Fin f H g → g.status = .running) (hsame : ∀ b, chanBlock X σ C gs.size b → w'.heap[b]? = w.heap[b]?) {k : Nat} {y g g' : Goroutine} (hk : gs[k]? = some y) : woken X.P g g' w' y = y := by
  unfold Conc.woken
  split
  · exact I.again hF hsame hk
  · rfl

theorem mainR_reH {sz m h : Nat} {Hn : Hp} (hm : MainR X σ C sz w) (hst : ∀ c, (∃ p m H, σ 0 = .mMade p c m H) → w'.heap[c]? = w.heap[c]?) : MainR X (upd σ h ((σ h).reH m Hn)) C sz w' := by
  have hkeep : ∀ x, (∀ c k sl H q, (upd σ h ((σ h).reH m Hn)) x = .lDone c k sl H q ↔ σ x = .lDone c k sl H q) ∧ (∀ c k sl H, (upd σ h ((σ h).reH m Hn)) x = .lPTell c k sl H ↔ σ x = .lPTell c k sl H) := by
    intro x
    by_cases hx : x = h
    · subst hx
      rw [upd_same]
      cases e : σ x <;> simp [GS.reH]
    · rw [upd_ne σ _ hx]; simp
  have h0 : (upd σ h ((σ h).reH m Hn)) 0 = σ 0 ∨ ∃ m' H', (upd σ h ((σ h).reH m Hn)) 0 = (σ 0).reH m' H' := by
    by_cases hx : (0 : Nat) = h
    · subst hx; rw [upd_same]; exact .inr ⟨_, _, rfl⟩
    · rw [upd_ne σ _ hx]; exact .inl rfl
  unfold MainR at hm ⊢
  have h0' : ∃ m' H', (upd σ h ((σ h).reH m Hn)) 0 = (σ 0).reH m' H' ∨ (upd σ h ((σ h).reH m Hn)) 0 = σ 0 := by
    rcases h0 with e | ⟨m', H', e⟩
    · exact ⟨0, [], .inr e⟩
    · exact ⟨m', H', .inl e⟩
  obtain ⟨m', H', h0'⟩ := h0'
  have hl : ∀ k, (∀ c k' sl H q, σ (lisI X k) ≠ .lDone c k' sl H q) → (∀ c k' sl H0 q, (upd σ h ((σ h).reH m Hn)) (lisI X k) ≠ .lDone c k' sl H0 q) := fun k hk c k' sl H0 q e => hk c k' sl H0 q (((hkeep _).1 _ _ _ _ _).1 e)
  have hl2 : ∀ k sl, (∃ c H q, σ (lisI X k) = .lDone c k sl H q) → (∃ c H0 q, (upd σ h ((σ h).reH m Hn)) (lisI X k) = .lDone c k sl H0 q) := fun k sl ⟨c, H0, q, e⟩ => ⟨c, H0, q, ((hkeep _).1 _ _ _ _ _).2 e⟩
  have hboth : ∀ (f : Nat → Option Value) k, (match f k with | none => (∀ c k' sl H q, σ (lisI X k) ≠ .lDone c k' sl H q) | some sl => ∃ c H q, σ (lisI X k) = .lDone c k sl H q) →
      (match f k with | none => (∀ c k' sl H0 q, (upd σ h ((σ h).reH m Hn)) (lisI X k) ≠ .lDone c k' sl H0 q) | some sl => ∃ c H0 q, (upd σ h ((σ h).reH m Hn)) (lisI X k) = .lDone c k sl H0 q) := by
    intro f k hk
    cases hf : f k with
    | none => rw [hf] at hk; exact hl k hk
    | some sl => rw [hf] at hk; exact hl2 k sl hk
  cases e0 : σ 0 with
  | mSpawn p mm HH =>
    rw [e0] at hm h0'
    rcases h0' with e | e <;> rw [e] <;> exact ⟨hm.1, fun x c k sl H q e => hm.2 x c k sl H q (((hkeep _).1 _ _ _ _ _).1 e)⟩
  | mMade p c mm HH =>
    rw [e0] at hm h0'
    have := hst c ⟨p, mm, HH, e0⟩
    rcases h0' with e | e <;> rw [e] <;> exact ⟨hm.1, hm.2.1, this.trans hm.2.2.1, fun x c k sl H q e => hm.2.2.2 x c k sl H q (((hkeep _).1 _ _ _ _ _).1 e)⟩
  | mGone p c mm HH =>
    rw [e0] at hm h0'
    rcases h0' with e | e <;> rw [e] <;> exact ⟨hm.1, hm.2.1, fun x c k sl H q e => hm.2.2 x c k sl H q (((hkeep _).1 _ _ _ _ _).1 e)⟩
  | mRecv rem mm f HH =>
    rw [e0] at hm h0'
    rcases h0' with e | e <;> rw [e] <;> exact ⟨hm.1, hm.2.1, fun k hk => hboth f k (hm.2.2 k hk)⟩
  | mPark rem f HH =>
    rw [e0] at hm h0'
    rcases h0' with e | e <;> rw [e] <;> exact ⟨hm.1, hm.2.1, fun k hk => hboth f k (hm.2.2.1 k hk), fun i c k sl H0 e1 => hm.2.2.2 i c k sl H0 (((hkeep _).2 _ _ _ _).1 e1)⟩
  | _ => rw [e0] at hm; exact hm.elim

theorem hasC_reH {sz m h i : Nat} {H : Hp} : hasC X (upd σ h ((σ h).reH m H)) sz i ↔ hasC X σ sz i := by
  unfold hasC
  refine or_congr Iff.rfl ?_
  by_cases hx : (0 : Nat) = h
  · subst hx
    rw [upd_same]
    cases e : σ 0 <;> simp [GS.reH]
  · rw [upd_ne σ _ hx]

end
end Go.Proofs.Ytofoplpnpfaofaa
