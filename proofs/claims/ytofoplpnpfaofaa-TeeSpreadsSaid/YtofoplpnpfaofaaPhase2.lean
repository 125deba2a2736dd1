/- What is proved here: small laws of the phase's invariant: who waits for what; what stays as it was behind a communication. No condition beside the invariant. -/
import Derived.Test.YtofoplpnpfaofaaPhase
set_option linter.unusedSimpArgs false
set_option linter.unusedVariables false
namespace Go.Proofs.Ytofoplpnpfaofaa
open Go Go.Conc
open Go.ConcN (sumTo upd sumTo_upd upd_ne upd_same)

section
variable {X : Cx}

def GS.parked : GS → Bool
  | .sPark .. | .lPark .. | .lPTell .. | .mPark .. => true
  | _ => false
def GS.quits : GS → Bool
  | .quit _ | .sDone .. | .lDone .. => true
  | _ => false

theorem srun_running {c m : Nat} {vs : List Value} {H : Hp} {g : Goroutine} (h : SRun X c vs m H g) : g.status = .running := by
  cases vs with
  | nil => exact GH.running (fun _ _ h => h.1) h
  | cons v vs => exact GH.running (fun _ _ h => h.1) h

theorem mrun_running {rem m : Nat} {f : Nat → Option Value} {H : Hp} {g : Goroutine} (hF : ∀ f H g, X.Fin f H g → g.status = .running) (h : MRecvRun X rem f m H g) : g.status = .running := by
  cases rem with
  | zero => exact GH.running (hF f) h
  | succ r => exact GH.running (fun _ _ h => h.1) h

theorem gi_status (hF : ∀ f H g, X.Fin f H g → g.status = .running) {s : GS} {g : Goroutine} (h : GI X s g) :
    (s.parked = true ∧ g.status = .blocked) ∨ (s.quits = true ∧ (g.status = .running ∨ g.status = .finished)) ∨ (s.parked = false ∧ s.quits = false ∧ g.status = .running) := by
  cases s with
  | quit q => exact .inr (.inl ⟨rfl, QuitsIn.status h⟩)
  | unborn => exact h.elim
  | sRun c s m H => exact .inr (.inr ⟨rfl, rfl, srun_running h⟩)
  | sPark c s H => obtain ⟨g₂, v, z1, z2, rfl, _⟩ := h; exact .inl ⟨rfl, rfl⟩
  | sDone c q => exact .inr (.inl ⟨rfl, QuitsIn.status h⟩)
  | lRun c k r m H => exact .inr (.inr ⟨rfl, rfl, GH.running (fun _ _ h => h.1) h⟩)
  | lPark c k r H => obtain ⟨g₂, z1, rfl, _⟩ := h; exact .inl ⟨rfl, rfl⟩
  | lTell c k m H => exact .inr (.inr ⟨rfl, rfl, GH.running (fun _ _ h => h.1) h⟩)
  | lPTell c k sl H => obtain ⟨g₂, z1, rfl, _⟩ := h; exact .inl ⟨rfl, rfl⟩
  | lDone c k sl H q => exact .inr (.inl ⟨rfl, QuitsIn.status h.1⟩)
  | mSpawn p m H => exact .inr (.inr ⟨rfl, rfl, GH.running (fun _ _ h => h.1) h.2⟩)
  | mMade p c m H => exact .inr (.inr ⟨rfl, rfl, GH.running (fun _ _ h => h.1) h.2⟩)
  | mGone p c m H => exact .inr (.inr ⟨rfl, rfl, GH.running (fun _ _ h => h.1) h.2⟩)
  | mRecv rem m f H => exact .inr (.inr ⟨rfl, rfl, mrun_running hF h⟩)
  | mPark rem f H => obtain ⟨g₂, z1, r', _, rfl, _⟩ := h; exact .inl ⟨rfl, rfl⟩

theorem gi_awake (hF : ∀ f H g, X.Fin f H g → g.status = .running) {s : GS} {g : Goroutine} (h : GI X s g) : awake g := by
  rcases gi_status hF h with ⟨_, h⟩ | ⟨_, h | h⟩ | ⟨_, _, h⟩
  · exact awake_status (.inr (.inr h))
  · exact awake_status (.inl h)
  · exact awake_status (.inr (.inl h))
  · exact awake_status (.inl h)

abbrev dummyG : Goroutine := { (default : Goroutine) with status := .finished }

/-- Who waits to send, or to receive, at a channel: by the ghost. -/
theorem part_cases (hF : ∀ f H g, X.Fin f H g → g.status = .running) {σ : Nat → GS} {gs : Array Goroutine} (hloc : ∀ h g, gs[h]? = some g → GI X (σ h) g) {i r h k : Nat} {send : Bool}
    (hm : (h, k) ∈ partners (gs.setIfInBounds i dummyG) r send) :
    h ≠ i ∧ ∃ g, gs[h]? = some g ∧
      (if send then (∃ c s H, σ h = .sPark c s H ∧ r = c ∧ k = 0) ∨ (∃ c j sl H, σ h = .lPTell c j sl H ∧ r = X.tb ∧ k = 0)
       else (∃ c s H, σ h = .sPark c s H ∧ r = X.sb ∧ k = 1) ∨ (∃ c j q H, σ h = .lPark c j q H ∧ r = c ∧ k = 0) ∨ (∃ rem f H, σ h = .mPark rem f H ∧ r = X.tb ∧ k = 0)) := by
  obtain ⟨g, cs, sh, c, hg, hst, hof, hck, hsd, hch⟩ := mem_partners.1 hm
  have hhi : h ≠ i := by
    rintro rfl
    have hlt : h < gs.size := by
      have := (Array.getElem?_eq_some_iff.1 hg).1
      simpa using this
    rw [Array.getElem?_setIfInBounds_self_of_lt hlt] at hg
    cases hg
    cases hst
  rw [Array.getElem?_setIfInBounds_ne (Ne.symm hhi)] at hg
  refine ⟨hhi, g, hg, ?_⟩
  have hgi := hloc h g hg
  rcases gi_status hF hgi with ⟨hp, _⟩ | ⟨_, hq | hq⟩ | ⟨_, _, hq⟩
  · cases hs : σ h with
    | sPark c' s H =>
      rw [hs] at hgi
      obtain ⟨g₂, v, z1, z2, rfl, _⟩ := hgi
      simp only [parked, Option.some.injEq, Prod.mk.injEq] at hof
      obtain ⟨rfl, _⟩ := hof
      match k, hck with
      | 0, hck =>
        simp at hck; subst hck
        simp [scase] at hsd hch
        subst hsd
        simp only [if_true]
        exact .inl ⟨c', s, H, rfl, hch.symm, trivial⟩
      | 1, hck =>
        simp at hck; subst hck
        simp [rcase] at hsd hch
        subst hsd
        simp only [Bool.false_eq_true, if_false]
        exact .inl ⟨c', s, H, rfl, hch.symm, trivial⟩
      | k + 2, hck => simp at hck
    | lPark c' j q H =>
      rw [hs] at hgi
      obtain ⟨g₂, z1, rfl, _⟩ := hgi
      simp only [parked, Option.some.injEq, Prod.mk.injEq] at hof
      obtain ⟨rfl, _⟩ := hof
      match k, hck with
      | 0, hck =>
        simp at hck; subst hck
        simp [rcase] at hsd hch
        subst hsd
        simp only [Bool.false_eq_true, if_false]
        exact .inr (.inl ⟨c', j, q, H, rfl, hch.symm, trivial⟩)
      | k + 1, hck => simp at hck
    | lPTell c' j sl H =>
      rw [hs] at hgi
      obtain ⟨g₂, z1, rfl, _⟩ := hgi
      simp only [parked, Option.some.injEq, Prod.mk.injEq] at hof
      obtain ⟨rfl, _⟩ := hof
      match k, hck with
      | 0, hck =>
        simp at hck; subst hck
        simp [scase] at hsd hch
        subst hsd
        simp only [if_true]
        exact .inr ⟨c', j, sl, H, rfl, hch.symm, trivial⟩
      | k + 1, hck => simp at hck
    | mPark rem f H =>
      rw [hs] at hgi
      obtain ⟨g₂, z1, r', _, rfl, _⟩ := hgi
      simp only [parked, Option.some.injEq, Prod.mk.injEq] at hof
      obtain ⟨rfl, _⟩ := hof
      match k, hck with
      | 0, hck =>
        simp at hck; subst hck
        simp [rcase] at hsd hch
        subst hsd
        simp only [Bool.false_eq_true, if_false]
        exact .inr (.inr ⟨rem, f, H, rfl, hch.symm, trivial⟩)
      | k + 1, hck => simp at hck
    | _ => rw [hs] at hp; cases hp
  all_goals rw [hq] at hst; cases hst

theorem part_of_sPark {σ : Nat → GS} {gs : Array Goroutine} (hloc : ∀ h g, gs[h]? = some g → GI X (σ h) g) {i h c s : Nat} {H : Hp} (hlt : h < gs.size) (hs : σ h = .sPark c s H) (hne : h ≠ i) : (h, 0) ∈ partners (gs.setIfInBounds i dummyG) c true := by
  have hg := hloc h gs[h] (Array.getElem?_eq_getElem hlt)
  rw [hs] at hg
  obtain ⟨g₂, v, z1, z2, e, _⟩ := hg
  refine mem_partners.2 ⟨gs[h], #[scase c v z1, rcase X.sb z2], .select, scase c v z1, ?_, ?_, ?_, ?_, rfl, rfl⟩
  · rw [Array.getElem?_setIfInBounds_ne (Ne.symm hne)]; exact Array.getElem?_eq_getElem hlt
  · rw [e]; rfl
  · rw [e]; rfl
  · simp

theorem part_of_lPark {σ : Nat → GS} {gs : Array Goroutine} (hloc : ∀ h g, gs[h]? = some g → GI X (σ h) g) {i h c k r : Nat} {H : Hp} (hlt : h < gs.size) (hs : σ h = .lPark c k r H) (hne : h ≠ i) : (h, 0) ∈ partners (gs.setIfInBounds i dummyG) c false := by
  have hg := hloc h gs[h] (Array.getElem?_eq_getElem hlt)
  rw [hs] at hg
  obtain ⟨g₂, z1, e, _⟩ := hg
  refine mem_partners.2 ⟨gs[h], #[rcase c z1], .recv true, rcase c z1, ?_, ?_, ?_, ?_, rfl, rfl⟩
  · rw [Array.getElem?_setIfInBounds_ne (Ne.symm hne)]; exact Array.getElem?_eq_getElem hlt
  · rw [e]; rfl
  · rw [e]; rfl
  · simp

theorem part_of_lPTell {σ : Nat → GS} {gs : Array Goroutine} (hloc : ∀ h g, gs[h]? = some g → GI X (σ h) g) {i h c k : Nat} {sl : Value} {H : Hp} (hlt : h < gs.size) (hs : σ h = .lPTell c k sl H) (hne : h ≠ i) : (h, 0) ∈ partners (gs.setIfInBounds i dummyG) X.tb true := by
  have hg := hloc h gs[h] (Array.getElem?_eq_getElem hlt)
  rw [hs] at hg
  obtain ⟨g₂, z1, e, _⟩ := hg
  refine mem_partners.2 ⟨gs[h], #[scase X.tb (X.hv k sl) z1], .send, scase X.tb (X.hv k sl) z1, ?_, ?_, ?_, ?_, rfl, rfl⟩
  · rw [Array.getElem?_setIfInBounds_ne (Ne.symm hne)]; exact Array.getElem?_eq_getElem hlt
  · rw [e]; rfl
  · rw [e]; rfl
  · simp

theorem part_of_mPark {σ : Nat → GS} {gs : Array Goroutine} (hloc : ∀ h g, gs[h]? = some g → GI X (σ h) g) {i h rem : Nat} {f : Nat → Option Value} {H : Hp} (hlt : h < gs.size) (hs : σ h = .mPark rem f H) (hne : h ≠ i) : (h, 0) ∈ partners (gs.setIfInBounds i dummyG) X.tb false := by
  have hg := hloc h gs[h] (Array.getElem?_eq_getElem hlt)
  rw [hs] at hg
  obtain ⟨g₂, z1, r', _, e, _⟩ := hg
  refine mem_partners.2 ⟨gs[h], #[rcase X.tb z1], .recv false, rcase X.tb z1, ?_, ?_, ?_, ?_, rfl, rfl⟩
  · rw [Array.getElem?_setIfInBounds_ne (Ne.symm hne)]; exact Array.getElem?_eq_getElem hlt
  · rw [e]; rfl
  · rw [e]; rfl
  · simp

/-- The goroutines behind a communication with a partner. -/
theorem get_comm2 {P : Program} {gs : Array Goroutine} {i j jk : Nat} {v : Value} {g' : Goroutine} (hi : i < gs.size) (hij : j ≠ i) (h : Nat) :
    ((finishPartner P (gs.setIfInBounds i dummyG) j jk v).setIfInBounds i g')[h]? =
      if h = i then some g' else if h = j then (gs[j]?).map (fun g => match g.offers with | some (cs, shape) => g.finishComm P cs shape jk v (((cs[jk]?).map (·.send.isNone)).getD false) | none => g) else gs[h]? := by
  unfold finishPartner
  by_cases h1 : h = i
  · subst h1
    rw [if_pos rfl, Array.getElem?_setIfInBounds_self_of_lt (by simpa using hi)]
  · rw [if_neg h1, Array.getElem?_setIfInBounds_ne (Ne.symm h1), Array.getElem?_modify]
    by_cases h2 : h = j
    · subst h2
      rw [if_pos rfl, if_pos rfl, Array.getElem?_setIfInBounds_ne (Ne.symm h1)]
      rfl
    · rw [if_neg h2, if_neg (Ne.symm h2), Array.getElem?_setIfInBounds_ne (Ne.symm h1)]

theorem size_comm2 {P : Program} {gs : Array Goroutine} {i j jk : Nat} {v : Value} {g' : Goroutine} : ((finishPartner P (gs.setIfInBounds i dummyG) j jk v).setIfInBounds i g').size = gs.size := by
  simp [finishPartner]

theorem get_comm1 {gs : Array Goroutine} {i : Nat} {g' : Goroutine} (hi : i < gs.size) (h : Nat) : ((gs.setIfInBounds i dummyG).setIfInBounds i g')[h]? = if h = i then some g' else gs[h]? := by
  by_cases h1 : h = i
  · subst h1
    rw [if_pos rfl, Array.getElem?_setIfInBounds_self_of_lt (by simpa using hi)]
  · rw [if_neg h1, Array.getElem?_setIfInBounds_ne (Ne.symm h1), Array.getElem?_setIfInBounds_ne (Ne.symm h1)]

theorem size_comm1 {gs : Array Goroutine} {i : Nat} {g' : Goroutine} : ((gs.setIfInBounds i dummyG).setIfInBounds i g').size = gs.size := by simp

theorem offered_ne {gs : Array Goroutine} {i j jk : Nat} (hij : j ≠ i) : offeredValue (gs.setIfInBounds i dummyG) j jk = offeredValue gs j jk := by
  unfold offeredValue
  rw [Array.getElem?_setIfInBounds_ne (Ne.symm hij)]

theorem finish_parked {P : Program} {g : Goroutine} {cs : Array CommCase} {sh : CommShape} {k : Int} {v : Value} {ok : Bool} : (parked g cs sh).finishComm P cs sh k v ok = Conc.served g (commResult cs sh k v ok) := rfl
theorem finish_core {P : Program} {g : Goroutine} {cs : Array CommCase} {sh : CommShape} {k : Int} {v : Value} {ok : Bool} : g.finishComm P cs sh k v ok = Conc.served g (commResult cs sh k v ok) := rfl

theorem res_select {c : Nat} {v z1 z2 : Value} {sb : Nat} : commResult #[scase c v z1, rcase sb z2] .select 0 undef false = .tuple #[goInt 0, .bool false, z2] := by
  simp [commResult, scase, rcase]

end
end Go.Proofs.Ytofoplpnpfaofaa
