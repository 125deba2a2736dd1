/- What is proved here: the phase's invariant is kept by a goroutine's own step, and by the steps of those that leave. No condition beside the invariant. -/
import Derived.Test.YtofoplpnpfaofaaPhase3
set_option linter.unusedSimpArgs false
set_option linter.unusedVariables false
namespace Go.Proofs.Ytofoplpnpfaofaa
open Go Go.Conc
open Go.ConcN (sumTo upd sumTo_upd upd_ne upd_same)

section
variable {X : Cx} {σ : Nat → GS} {C own : Nat → Nat} {j : Nat} {gs : Array Goroutine} {w w' : World} {t : Trace}

theorem lt_of_heap {w : World} {b : Nat} {o : Obj} (h : w.heap[b]? = some o) : b < w.heap.size := by
  rcases Nat.lt_or_ge b w.heap.size with hl | hl
  · exact hl
  · rw [Array.getElem?_eq_none hl] at h; cases h

theorem touch_who {g h : Nat} {fn : FuncId} {pos : String} {es : Array Event} (hne : g ≠ h) : ∀ op ∈ MemOp.ofEvents g fn pos es, op.g = h → op.act.touch? = none := by
  intro op hop e
  obtain ⟨x, _, rfl⟩ := Go.Conc.mem_ofEvents hop
  exact absurd e hne

theorem PInv.chan_lt (I : PInv X σ C own j gs w t) {b : Nat} (hb : chanBlock X σ C gs.size b) : b < w.heap.size := by
  rcases hb with rfl | rfl | ⟨i, hi, rfl⟩
  · exact lt_of_heap I.tb
  · obtain ⟨_, _, _, _, e⟩ := I.sb; exact lt_of_heap e
  · exact (I.cown i hi).2.2

theorem PInv.own_step (I : PInv X σ C own j gs w t) (hF : ∀ f H g, X.Fin f H g → g.status = .running) {h m' : Nat} {g g' : Goroutine} {H' : Hp} {es : Array Event} (hg : gs[h]? = some g) (hr : (σ h).runs = true)
    (he : Eff X (σ h).hp H' w w' es) (hgi : GI X ((σ h).reH m' H') g') :
    ∃ own', PInv X (upd σ h ((σ h).reH m' H')) C own' j ((gs.map (Conc.woken X.P g g' w')).setIfInBounds h g') w' (t ++ MemOp.ofEvents h g.frame.fn g.frame.place es) := by
  have hlt : h < gs.size := (Array.getElem?_eq_some_iff.1 hg).1
  have hsame : ∀ b, chanBlock X σ C gs.size b → w'.heap[b]? = w.heap[b]? := fun b hb => he.keep b (I.chan_lt hb) (I.not_key hb hlt)
  have hph : inPhase X.b0 gs.size h := by
    rcases I.who hlt with e | ⟨h1, h2⟩ | ⟨i, hi, e | e⟩
    · exact .inl e
    · obtain ⟨q, e⟩ := I.old h h1 h2; rw [e] at hr; cases hr
    · exact .inr ⟨by simp only [lisI] at e; omega, hlt⟩
    · exact .inr ⟨by simp only [sndI] at e; omega, hlt⟩
  have hsz : ((gs.map (Conc.woken X.P g g' w')).setIfInBounds h g').size = gs.size := by simp
  have hkeys : ∀ b, keyOfHp (σ h).hp b → X.B0 ≤ b ∧ own b = h := by
    rintro b ⟨p, hp, rfl⟩
    obtain ⟨_, h1, h2⟩ := I.heaps h hlt p hp
    exact ⟨h1, h2⟩
  have hget : ∀ k, ((gs.map (Conc.woken X.P g g' w')).setIfInBounds h g')[k]? = if k = h then some g' else gs[k]? := by
    intro k
    by_cases hk : k = h
    · subst hk
      rw [if_pos rfl, Array.getElem?_setIfInBounds_self_of_lt (by simpa using hlt)]
    · rw [if_neg hk, Array.getElem?_setIfInBounds_ne (Ne.symm hk), Array.getElem?_map]
      cases hgk : gs[k]? with
      | none => rfl
      | some y => simp only [Option.map_some]; rw [I.woken hF hsame hgk]
  have hne : ∀ k, k ≠ h → (upd σ h ((σ h).reH m' H')) k = σ k := fun k hk => upd_ne σ _ hk
  have hdone : ∀ k, (upd σ h ((σ h).reH m' H')) k ≠ σ k → k = h := fun k hk => Classical.byContradiction fun hx => hk (hne k hx)
  have hsd : ∀ k, (∃ c q, (upd σ h ((σ h).reH m' H')) k = .sDone c q) → k ≠ h ∧ ∃ c q, σ k = .sDone c q := by
    rintro k ⟨c, q, e⟩
    have hk : k ≠ h := by
      rintro rfl
      rw [upd_same] at e
      cases e1 : σ k <;> rw [e1] at e hr <;> first | cases hr; done | cases e
    exact ⟨hk, c, q, by rw [hne k hk] at e; exact e⟩
  have hld : ∀ k, (∃ c k' sl H q, (upd σ h ((σ h).reH m' H')) k = .lDone c k' sl H q) → k ≠ h ∧ ∃ c k' sl H q, σ k = .lDone c k' sl H q := by
    rintro k ⟨c, k', sl, H, q, e⟩
    have hk : k ≠ h := by
      rintro rfl
      rw [upd_same] at e
      cases e1 : σ k <;> rw [e1] at e hr <;> first | cases hr; done | cases e
    exact ⟨hk, c, k', sl, H, q, by rw [hne k hk] at e; exact e⟩
  refine ⟨fun b => if b < w.heap.size then own b else h, ?_⟩
  have hown : ∀ b, b < w.heap.size → (fun b => if b < w.heap.size then own b else h) b = own b := fun b hb => if_pos hb
  refine ⟨⟨Nat.le_trans I.base.size he.size, he.tape.trans I.base.tape, he.os.trans I.base.os, he.output.trans I.base.output, fun b hb h1 h2 => ?_⟩, ⟨I.b0.1, by rw [hsz]; exact I.b0.2⟩, fun k y hy => ?_, ?_, fun k h1 h2 => ?_, fun i hi => ?_, fun k hk => ?_, fun i hi => ?_, fun i i' hi hi' => ?_, (hsame _ (.inl rfl)).trans I.tb, ?_, I.tsb, fun k hk p hp => ?_, ?_, fun i hi hs => ?_, fun i hi hs => ?_, fun i hi hs => ?_⟩
  · rw [he.keep b (Nat.lt_of_lt_of_le hb I.base.size) (fun hk => by have := (hkeys b hk).1; omega)]
    exact I.base.old b hb h1 h2
  · rw [hget] at hy
    by_cases hk : k = h
    · subst hk
      rw [if_pos rfl] at hy
      cases hy
      rw [upd_same]
      exact hgi
    · rw [if_neg hk] at hy
      rw [hne k hk]
      exact I.loc k y hy
  · rw [hsz]
    refine mainR_reH I.main fun c ⟨p, m, H, e⟩ => hsame c (.inr (.inr ⟨p, .inr ⟨p, c, m, H, e, rfl⟩, ?_⟩))
    have := I.main
    unfold MainR at this
    rw [e] at this
    exact this.2.1.symm
  · obtain ⟨q, e⟩ := I.old k h1 h2
    have hk : k ≠ h := by rintro rfl; rw [e] at hr; cases hr
    exact ⟨q, by rw [hne k hk]; exact e⟩
  · rw [hsz] at hi
    have R := (Classical.choice (I.pairs i hi)).other (hsame (C i) (.inr (.inr ⟨i, .inl hi, rfl⟩)))
    by_cases h1 : lisI X i = h
    · have h2 : sndI X i ≠ h := by simp only [lisI, sndI] at *; omega
      rw [hne _ h2, h1, upd_same]
      rw [h1] at R
      exact ⟨R.reL m' H'⟩
    · rw [hne _ h1]
      by_cases h2 : sndI X i = h
      · rw [h2, upd_same]
        rw [h2] at R
        exact ⟨R.reS m' H'⟩
      · rw [hne _ h2]; exact ⟨R⟩
  · rw [hsz] at hk
    rw [hne k (by omega)]
    exact I.unb k hk
  · rw [hsz, hasC_reH] at hi
    obtain ⟨h1, h2, h3⟩ := I.cown i hi
    exact ⟨h1, by simp only [h3, if_true]; exact h2, Nat.lt_of_lt_of_le h3 he.size⟩
  · rw [hsz, hasC_reH] at hi hi'
    exact I.cinj i i' hi hi'
  · obtain ⟨cap, x, y, tm, e⟩ := I.sb
    exact ⟨cap, x, y, tm, (hsame _ (.inr (.inl rfl))).trans e⟩
  · rw [hsz] at hk
    by_cases hkh : k = h
    · subst hkh
      rw [upd_same, reH_hp hr] at hp
      have hb := he.has p hp
      refine ⟨hb, ?_⟩
      rcases he.keys p.1 ⟨p, hp, rfl⟩ with hk1 | ⟨hk1, _⟩
      · obtain ⟨h1, h2⟩ := hkeys _ hk1
        refine ⟨h1, ?_⟩
        obtain ⟨p0, hp0, e0⟩ := hk1
        have := (I.heaps k hlt p0 hp0).1
        rw [e0] at this
        simp only [lt_of_heap this, if_true]
        exact h2
      · exact ⟨Nat.le_trans I.base.size hk1, by simp only [Nat.not_lt.2 hk1, if_false]⟩
    · rw [hne k hkh] at hp
      obtain ⟨h1, h2, h3⟩ := I.heaps k hk p hp
      have hl := lt_of_heap h1
      refine ⟨?_, h2, by simp only [hl, if_true]; exact h3⟩
      rw [he.keep p.1 hl (fun hx => hkh (h3.symm.trans (hkeys _ hx).2))]
      exact h1
  · rw [hsz]
    obtain ⟨o1, o2, o3⟩ := evs_ok (g := h) (fn := g.frame.fn) (pos := g.frame.place) (fun e hx => (he.evs e hx).1)
    refine I.pt.own_app he.size hown hph o3 o2 o1 fun op hop a ha hm => ?_
    obtain ⟨e, hx, rfl⟩ := Go.Conc.mem_ofEvents hop
    rcases (he.evs e hx).2 a ha with ⟨h1, x, h2, h3⟩ | ⟨x, h1, h2⟩
    · exact .inl ⟨h1, .inl ⟨x, h2, h3⟩⟩
    · refine .inr ⟨x, h1, ?_⟩
      rcases h2 with hk1 | hk1
      · obtain ⟨h4, h5⟩ := hkeys _ hk1
        refine ⟨h4, ?_⟩
        obtain ⟨p0, hp0, e0⟩ := hk1
        have := (I.heaps h hlt p0 hp0).1
        rw [e0] at this
        simp only [lt_of_heap this, if_true]
        exact h5
      · exact ⟨Nat.le_trans I.base.size hk1, by simp only [Nat.not_lt.2 hk1, if_false]⟩
  · rw [hsz] at hi
    obtain ⟨hk, hs'⟩ := hsd _ hs
    exact (I.shut i hi hs').app (touch_who (Ne.symm hk))
  · rw [hsz] at hi
    have hs' : (σ (lisI X i)).shut = true := by
      by_cases hk : lisI X i = h
      · rw [hk, upd_same, reH_shut] at hs; rw [hk]; exact hs
      · rw [hne _ hk] at hs; exact hs
    have hd := (Classical.choice (I.pairs i hi)).done hs'
    refine (I.kl i hi hs').app (touch_who ?_)
    intro e
    obtain ⟨c, q, e1⟩ := hd
    rw [← e] at e1
    rw [e1] at hr
    cases hr
  · rw [hsz] at hi
    obtain ⟨hk, hs'⟩ := hld _ hs
    have hd := (Classical.choice (I.pairs i hi)).done (by obtain ⟨_, _, _, _, _, e⟩ := hs'; rw [e]; rfl)
    obtain ⟨k1, k2⟩ := I.km i hi hs'
    refine ⟨k1.app (touch_who (Ne.symm hk)), k2.app (touch_who ?_)⟩
    intro e
    obtain ⟨c, q, e1⟩ := hd
    rw [← e] at e1
    rw [e1] at hr
    cases hr
end
end Go.Proofs.Ytofoplpnpfaofaa
