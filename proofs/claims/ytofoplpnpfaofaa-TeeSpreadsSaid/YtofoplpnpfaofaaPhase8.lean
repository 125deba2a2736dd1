/- What is proved here: the phase's invariant is kept by a sender's close. No condition beside the invariant. -/
import Derived.Test.YtofoplpnpfaofaaPhase7
set_option linter.unusedSimpArgs false
set_option linter.unusedVariables false
namespace Go.Proofs.Ytofoplpnpfaofaa
open Go Go.Conc
open Go.ConcN (sumTo upd sumTo_upd upd_ne upd_same)

section
variable {X : Cx} {σ : Nat → GS} {C own : Nat → Nat} {j : Nat} {gs : Array Goroutine} {w w' : World} {t : Trace}

theorem PInv.again' (I : PInv X σ C own j gs w t) (hF : ∀ f H g, X.Fin f H g → g.status = .running) {i0 : Nat} (hi0 : lisI X i0 < gs.size) (hsame : ∀ b, b ≠ C i0 → w'.heap[b]? = w.heap[b]?) {k : Nat} {y : Goroutine} (hk : gs[k]? = some y) (hkl : k ≠ lisI X i0) (hks : k ≠ sndI X i0) : y.again w' = y := by
  have hlt : k < gs.size := (Array.getElem?_eq_some_iff.1 hk).1
  have hgi := I.loc k y hk
  have hB := (I.cown i0 (.inl hi0)).1
  have htb : ∃ cap buf s r' tm, w'.heap[X.tb]? = some (.chan cap buf false s r' tm) := ⟨_, _, _, _, _, (hsame _ (by have := I.tsb.1; omega)).trans I.tb⟩
  have hsb : ∃ cap buf s r' tm, w'.heap[X.sb]? = some (.chan cap buf false s r' tm) := by
    obtain ⟨cap, x, y, tm, e⟩ := I.sb
    exact ⟨_, _, _, _, _, (hsame _ (by have := I.tsb.2.1; omega)).trans e⟩
  rcases gi_status hF hgi with ⟨hp, _⟩ | ⟨_, hq⟩ | ⟨_, _, hq⟩
  · cases hs : σ k with
    | sPark c s H =>
      obtain ⟨i, hi, rfl⟩ := I.at_s hlt (by rw [hs]; rfl)
      have hne : C i ≠ C i0 := fun e => hks (by rw [I.cinj i i0 (.inl hi) (.inl hi0) e])
      have R := Classical.choice (I.pairs i hi)
      rw [hs] at R
      obtain ⟨h1, h2, h3, _⟩ := R.snd
      rw [hs] at hgi
      obtain ⟨g₂, v, z1, z2, rfl, _⟩ := hgi
      refine again_parked fun c' hc' r hr => ?_
      simp only [List.mem_toArray, List.mem_cons, List.not_mem_nil, or_false] at hc'
      rcases hc' with rfl | rfl
      · simp [scase] at hr
        subst hr
        have := R.chan
        rw [h3] at this
        exact ⟨_, _, _, _, _, by rw [h1, hsame _ hne]; exact this⟩
      · simp [rcase] at hr
        subst hr
        exact hsb
    | lPark c k' r H =>
      obtain ⟨i, hi, rfl⟩ := I.at_l hlt (by rw [hs]; rfl)
      have hne : C i ≠ C i0 := fun e => hkl (by rw [I.cinj i i0 (.inl hi) (.inl hi0) e])
      have R := Classical.choice (I.pairs i hi)
      rw [hs] at R
      obtain ⟨h1, h2, h3, h4, h5, _⟩ := R.lis
      rw [hs] at hgi
      obtain ⟨g₂, z1, rfl, _⟩ := hgi
      refine again_parked fun c' hc' r' hr => ?_
      simp only [List.mem_toArray, List.mem_cons, List.not_mem_nil, or_false] at hc'
      subst hc'
      simp [rcase] at hr
      subst hr
      have := R.chan
      rw [h5] at this
      exact ⟨_, _, _, _, _, by rw [h1, hsame _ hne]; exact this⟩
    | lPTell c k' sl H =>
      rw [hs] at hgi
      obtain ⟨g₂, z1, rfl, _⟩ := hgi
      refine again_parked fun c' hc' r' hr => ?_
      simp only [List.mem_toArray, List.mem_cons, List.not_mem_nil, or_false] at hc'
      subst hc'
      simp [scase] at hr
      subst hr
      exact htb
    | mPark rem f H =>
      rw [hs] at hgi
      obtain ⟨g₂, z1, r', _, rfl, _⟩ := hgi
      refine again_parked fun c' hc' r' hr => ?_
      simp only [List.mem_toArray, List.mem_cons, List.not_mem_nil, or_false] at hc'
      subst hc'
      simp [rcase] at hr
      subst hr
      exact htb
    | _ => rw [hs] at hp; cases hp
  · exact again_running w' hq
  · exact again_running w' (.inl hq)

theorem setChan_same' {w : World} {c cap s r : Nat} {buf : Array Value} {cl tm : Bool} {b : Nat} (hb : b ≠ c) : (w.setChan c cap buf cl s r tm).heap[b]? = w.heap[b]? := setChan_same (d := w.drawn) hb
theorem setChan_self' {w : World} {c cap s r : Nat} {buf : Array Value} {cl tm : Bool} (hc : c < w.heap.size) : (w.setChan c cap buf cl s r tm).heap[c]? = some (.chan cap buf cl s r tm) := setChan_self (d := w.drawn) hc
theorem setChan_size' {w : World} {c cap s r : Nat} {buf : Array Value} {cl tm : Bool} : (w.setChan c cap buf cl s r tm).heap.size = w.heap.size := setChan_size (d := w.drawn)

/-- The sender closes its channel. -/
theorem close_falls (I : PInv X σ C own j gs w t) (hF : ∀ f H g, X.Fin f H g → g.status = .running) {sl : Option (Nat × Nat)} {i c s m : Nat} {H : Hp} {g : Goroutine} (hi : lisI X i < gs.size) (hg : gs[sndI X i]? = some g) (hσ : σ (sndI X i) = .sRun c s m H)
    (hd : X.vs.drop s = []) (hs : AClose X c H g) : Falls X σ gs t (runT X.P (crowd gs w sl) (sndI X i)) := by
  have hlt : sndI X i < gs.size := (Array.getElem?_eq_some_iff.1 hg).1
  obtain ⟨hrun, hmw, g₂, q, hst, hq⟩ := hs
  have R := Classical.choice (I.pairs i hi)
  rw [hσ] at R
  have hls : lisI X i ≠ sndI X i := by simp only [lisI, sndI]; omega
  have hcB := (I.cown i (.inl hi)).1
  have hclt := (I.cown i (.inl hi)).2.2
  obtain ⟨s', r, buf, cl, hchan, ⟨hrs, hsN'⟩, hbuf, hroom, hsnd, hlis⟩ := R
  obtain ⟨rfl, rfl, rfl⟩ := hsnd
  have hsN : s = X.vs.length := by
    have := List.drop_eq_nil_iff.1 hd
    omega
  have hrT := runT_crowd_go (sl := sl) hg (show stepG X.P (sndI X i == 0) g w = _ by rw [show (sndI X i == 0) = false by have := (I.lis_pos i).2; simp]; exact hst w _ _ _ _ _ hchan)
  have hwk : ∀ o, Conc.woken X.P g g₂ (w.setChan (C i) X.room buf true s r false) o = o.again (w.setChan (C i) X.room buf true s r false) := by
    intro o
    unfold Conc.woken
    rcases QuitsIn.status hq with e | e <;> simp [hmw, e]
  have hget : ∀ h, ((gs.map (Conc.woken X.P g g₂ (w.setChan (C i) X.room buf true s r false))).setIfInBounds (sndI X i) g₂)[h]? = if h = sndI X i then some g₂ else (gs[h]?).map fun o => o.again (w.setChan (C i) X.room buf true s r false) := by
    intro h
    by_cases h1 : h = sndI X i
    · subst h1
      rw [if_pos rfl, Array.getElem?_setIfInBounds_self_of_lt (by simpa using hlt)]
    · rw [if_neg h1, Array.getElem?_setIfInBounds_ne (Ne.symm h1), Array.getElem?_map]
      cases gs[h]? with
      | none => rfl
      | some y => simp only [Option.map_some]; rw [hwk]
  have hgsz : ((gs.map (Conc.woken X.P g g₂ (w.setChan (C i) X.room buf true s r false))).setIfInBounds (sndI X i) g₂).size = gs.size := by simp
  -- the trace
  have hops := ofEvents_eq (sndI X i) g.frame.fn g.frame.place #[⟨.obj (C i), false, true⟩, ⟨.obj (C i), true, true⟩]
  have hu : ∀ op ∈ MemOp.ofEvents (sndI X i) g.frame.fn g.frame.place #[⟨.obj (C i), false, true⟩, ⟨.obj (C i), true, true⟩], op = { g := sndI X i, fn := g.frame.fn, pos := g.frame.place, act := .access ⟨.obj (C i), false, true⟩ } ∨ op = { g := sndI X i, fn := g.frame.fn, pos := g.frame.place, act := .close (C i) } := by
    intro op hop
    obtain ⟨e, he, rfl⟩ := Go.Conc.mem_ofEvents hop
    simp only [List.mem_toArray, List.mem_cons, List.not_mem_nil, or_false] at he
    rcases he with rfl | rfl
    · exact .inl rfl
    · exact .inr rfl
  have hug : ∀ op ∈ MemOp.ofEvents (sndI X i) g.frame.fn g.frame.place #[⟨.obj (C i), false, true⟩, ⟨.obj (C i), true, true⟩], op.g = sndI X i := fun op hop => by rcases hu op hop with rfl | rfl <;> rfl
  have hpt : PT X.T0 X.B0 X.b0 own gs.size w.heap.size (t ++ MemOp.ofEvents (sndI X i) g.frame.fn g.frame.place #[⟨.obj (C i), false, true⟩, ⟨.obj (C i), true, true⟩]) := by
    refine I.pt.own_app (Nat.le_refl _) (fun _ _ => rfl) (.inr ⟨by simp only [sndI]; omega, hlt⟩) hug (fun op hop m' e => ?_) (fun op hop => ?_) (fun op hop a ha hm => ?_)
    · rcases hu op hop with rfl | rfl <;> cases e
    · rcases hu op hop with rfl | rfl <;> exact hclt
    · rcases hu op hop with rfl | rfl
      · simp only [MemAct.touch?, Option.some.injEq] at ha
        subst ha
        exact .inl ⟨rfl, .inr ⟨C i, rfl⟩⟩
      · cases ha
  have hqq : ∀ h, h < gs.size → (σ h).quits = true → ∀ op ∈ MemOp.ofEvents (sndI X i) g.frame.fn g.frame.place #[⟨.obj (C i), false, true⟩, ⟨.obj (C i), true, true⟩], op.g = h → op.act.touch? = none := by
    intro h hh hqs op hop e
    rw [hug op hop] at e
    subst e
    rw [hσ] at hqs
    cases hqs
  have hshut : ShutBy (t ++ MemOp.ofEvents (sndI X i) g.frame.fn g.frame.place #[⟨.obj (C i), false, true⟩, ⟨.obj (C i), true, true⟩]) (C i) (sndI X i) := by
    have e2 : MemOp.ofEvents (sndI X i) g.frame.fn g.frame.place #[⟨.obj (C i), false, true⟩, ⟨.obj (C i), true, true⟩] = #[{ g := sndI X i, fn := g.frame.fn, pos := g.frame.place, act := .access ⟨.obj (C i), false, true⟩ }, { g := sndI X i, fn := g.frame.fn, pos := g.frame.place, act := .close (C i) }] := by
      rw [hops]; simp [MemAct.ofEvent]
    rw [e2]
    have hat : (t ++ #[({ g := sndI X i, fn := g.frame.fn, pos := g.frame.place, act := .access ⟨.obj (C i), false, true⟩ } : MemOp), { g := sndI X i, fn := g.frame.fn, pos := g.frame.place, act := .close (C i) }])[t.size + 1]? = some { g := sndI X i, fn := g.frame.fn, pos := g.frame.place, act := .close (C i) } := by
      rw [Array.getElem?_append_right (by omega)]; simp
    refine shutBy_new hat rfl rfl fun x op a hx hgx ha => ?_
    rcases Nat.lt_or_ge x (t.size + 1) with h | h
    · exact h
    · exfalso
      have hx' := hx
      rw [Array.getElem?_append_right (by omega)] at hx'
      have hxlt : x - t.size < 2 := by
        have := (Array.getElem?_eq_some_iff.1 hx').1
        simpa using this
      have : x - t.size = 1 := by omega
      rw [this] at hx'
      simp at hx'
      subst hx'
      cases ha
  by_cases hpk : ∃ c' k' r' Hl, σ (lisI X i) = .lPark c' k' r' Hl
  · obtain ⟨c', k', r', Hl, hL⟩ := hpk
    rw [hL] at hlis
    obtain ⟨e1, e2, rfl, rfl, _, _⟩ := hlis
    subst c' k'
    have hgl := I.loc (lisI X i) gs[lisI X i] (Array.getElem?_eq_getElem hi)
    rw [hL] at hgl
    obtain ⟨g₃, z3, hgeq, hcore, hst3, hln⟩ := hgl
    have I' := I.pairG (gs' := (gs.map (Conc.woken X.P g g₂ (w.setChan (C i) X.room #[] true s r' false))).setIfInBounds (sndI X i) g₂) (w' := w.setChan (C i) X.room #[] true s r' false) hi (lx := .lRun (C i) i r' 0 Hl) (sx := .sDone (C i) q) rfl rfl rfl setChan_size' (fun b hb => setChan_same' hb) hgsz
      (fun h h1 h2 => by
        rw [hget h, if_neg h2]
        cases hgh : gs[h]? with
        | none => rfl
        | some y => simp only [Option.map_some]; rw [I.again' hF hi (fun b hb => setChan_same' hb) hgh h1 h2])
      (fun y hy => by
        rw [hget, if_neg hls, Array.getElem?_eq_getElem hi, hgeq] at hy
        simp only [Option.map_some, Option.some.injEq] at hy
        subst hy
        have ea : (parked g₃ #[rcase (C i) z3] (.recv true)).again (w.setChan (C i) X.room #[] true s r' false) = { parked g₃ #[rcase (C i) z3] (.recv true) with status := .running } := by
          have := setChan_self' (w := w) (cap := X.room) (buf := #[]) (cl := true) (s := s) (r := r') (tm := false) hclt
          simp [Goroutine.again, parked, rcase, this]
        rw [ea]
        refine ⟨rfl, z3, fun w2 => ?_, ?_⟩
        · have e1 : stepG X.P false { parked g₃ #[rcase (C i) z3] (.recv true) with status := .running } w2 = stepG X.P false g₃ w2 := stepG_same rfl rfl rfl w2
          have e2 : core { parked g₃ #[rcase (C i) z3] (.recv true) with status := .running } = g₃ := hcore
          rw [e1, e2]
          exact hst3 w2
        · have e2 : core { parked g₃ #[rcase (C i) z3] (.recv true) with status := .running } = g₃ := hcore
          rw [e2]
          exact hln)
      (fun y hy => by
        rw [hget, if_pos rfl] at hy
        cases hy
        exact hq)
      (fun p hp => by rw [hL]; exact hp) (fun p hp => by simp [GS.hp] at hp)
      ⟨s, r', #[], true, setChan_self' hclt, ⟨hrs, hsN'⟩, hbuf, hroom, ⟨rfl, hsN, rfl⟩, ⟨rfl, rfl, rfl⟩⟩ rfl (by rw [hL]; rfl) (fun h => by omega) (fun _ => .inr hshut) (fun e => by cases e) hpt hqq
    refine ⟨_, C, own, j, _, _, sl, _, hrT, I', .inl ?_⟩
    have := alS_two (X := X) (σ := σ) hls hi hlt (.lRun (C i) i r' 0 Hl) (.sDone (C i) q)
    rw [hL, hσ] at this
    simp only [GS.al] at this
    rw [hgsz]
    omega
  · have hlr : ∃ m' H', σ (lisI X i) = .lRun (C i) i r m' H' := by
      cases e : σ (lisI X i) with
      | lRun a b c' d e' => rw [e] at hlis; obtain ⟨e1, e2, rfl⟩ := hlis; subst a b; exact ⟨_, _, rfl⟩
      | lPark a b c' d => exact absurd ⟨_, _, _, _, e⟩ hpk
      | lTell a b c' d => rw [e] at hlis; have := hlis.2.2.2; cases this
      | lPTell a b c' d => rw [e] at hlis; have := hlis.2.2.2; cases this
      | lDone a b c' d f => rw [e] at hlis; have := hlis.2.2.2; cases this
      | _ => rw [e] at hlis; exact hlis.elim
    obtain ⟨m', H', hL⟩ := hlr
    have hgl := I.loc (lisI X i) gs[lisI X i] (Array.getElem?_eq_getElem hi)
    rw [hL] at hgl
    have hrl : gs[lisI X i].status = .running := GH.running (fun _ _ h => h.1) hgl
    have I' := I.pairG (gs' := (gs.map (Conc.woken X.P g g₂ (w.setChan (C i) X.room buf true s r false))).setIfInBounds (sndI X i) g₂) (w' := w.setChan (C i) X.room buf true s r false) hi (lx := .lRun (C i) i r m' H') (sx := .sDone (C i) q) rfl rfl rfl setChan_size' (fun b hb => setChan_same' hb) hgsz
      (fun h h1 h2 => by
        rw [hget h, if_neg h2]
        cases hgh : gs[h]? with
        | none => rfl
        | some y => simp only [Option.map_some]; rw [I.again' hF hi (fun b hb => setChan_same' hb) hgh h1 h2])
      (fun y hy => by
        rw [hget, if_neg hls, Array.getElem?_eq_getElem hi] at hy
        simp only [Option.map_some, Option.some.injEq] at hy
        rw [again_running _ (.inl hrl)] at hy
        subst hy
        exact hgl)
      (fun y hy => by
        rw [hget, if_pos rfl] at hy
        cases hy
        exact hq)
      (fun p hp => by rw [hL]; exact hp) (fun p hp => by simp [GS.hp] at hp)
      ⟨s, r, buf, true, setChan_self' hclt, ⟨hrs, hsN'⟩, hbuf, hroom, ⟨rfl, hsN, rfl⟩, ⟨rfl, rfl, rfl⟩⟩ rfl (by rw [hL]; rfl) (fun h => by omega) (fun _ => .inr hshut) (fun e => by cases e) hpt hqq
    refine ⟨_, C, own, j, _, _, sl, _, hrT, I', .inl ?_⟩
    have := alS_two (X := X) (σ := σ) hls hi hlt (.lRun (C i) i r m' H') (.sDone (C i) q)
    rw [hL, hσ] at this
    simp only [GS.al] at this
    rw [hgsz]
    omega
end
end Go.Proofs.Ytofoplpnpfaofaa
