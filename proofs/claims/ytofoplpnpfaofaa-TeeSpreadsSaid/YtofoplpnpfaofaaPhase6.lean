/- What is proved here: the phase's invariant is kept by what passes over a pair's channel. No condition beside the invariant. -/
import Derived.Test.YtofoplpnpfaofaaPhase5
set_option linter.unusedSimpArgs false
set_option linter.unusedVariables false
namespace Go.Proofs.Ytofoplpnpfaofaa
open Go Go.Conc
open Go.ConcN (sumTo upd sumTo_upd upd_ne upd_same)

section
variable {X : Cx} {σ : Nat → GS} {C own : Nat → Nat} {j : Nat} {gs : Array Goroutine} {w w' : World} {t : Trace}

theorem PInv.lis_pos (I : PInv X σ C own j gs w t) (i : Nat) : lisI X i ≠ 0 ∧ sndI X i ≠ 0 := by have := I.b0.1; simp only [lisI, sndI]; omega

def GS.lFree : GS → Bool
  | .lRun .. | .lPark .. | .lTell .. => true
  | _ => false

/-- What passes over a pair's channel. -/
theorem PInv.pairG (I : PInv X σ C own j gs w t) {i : Nat} (hi : lisI X i < gs.size) {lx sx : GS} {gs' : Array Goroutine} {u : Trace} (htape : w'.tape = w.tape) (hos : w'.os = w.os) (hout : w'.output = w.output) (hsz : w'.heap.size = w.heap.size)
    (hsame : ∀ b, b ≠ C i → w'.heap[b]? = w.heap[b]?) (hgs : gs'.size = gs.size) (hother : ∀ h, h ≠ lisI X i → h ≠ sndI X i → gs'[h]? = gs[h]?) (hl : ∀ g, gs'[lisI X i]? = some g → GI X lx g) (hs : ∀ g, gs'[sndI X i]? = some g → GI X sx g)
    (hlp : ∀ p ∈ lx.hp, p ∈ (σ (lisI X i)).hp) (hsp : ∀ p ∈ sx.hp, p ∈ (σ (sndI X i)).hp) (R' : PairR X w' (C i) i lx sx) (hlf : lx.lFree = true) (hlf0 : (σ (lisI X i)).lFree = true) (hub : gs.size ≤ sndI X i → sx = σ (sndI X i))
    (hsd : (∃ c q, sx = .sDone c q) → (∃ c q, σ (sndI X i) = .sDone c q) ∨ ShutBy (t ++ u) (C i) (sndI X i)) (hkl : lx.shut = true → (σ (lisI X i)).shut = true ∨ KBy (t ++ u) (lisI X i) (sndI X i))
    (hpt : PT X.T0 X.B0 X.b0 own gs.size w.heap.size (t ++ u)) (hq : ∀ h, h < gs.size → (σ h).quits = true → ∀ op ∈ u, op.g = h → op.act.touch? = none) : PInv X (upd (upd σ (lisI X i) lx) (sndI X i) sx) C own j gs' w' (t ++ u) := by
  have hls : lisI X i ≠ sndI X i := by simp only [lisI, sndI]; omega
  have el : (upd (upd σ (lisI X i) lx) (sndI X i) sx) (lisI X i) = lx := by rw [upd_ne _ _ hls, upd_same]
  have es : (upd (upd σ (lisI X i) lx) (sndI X i) sx) (sndI X i) = sx := upd_same ..
  have eo : ∀ h, h ≠ lisI X i → h ≠ sndI X i → (upd (upd σ (lisI X i) lx) (sndI X i) sx) h = σ h := fun h h1 h2 => by rw [upd_ne _ _ h2, upd_ne _ _ h1]
  have h0 := eo 0 (Ne.symm (I.lis_pos i).1) (Ne.symm (I.lis_pos i).2)
  have hcB := (I.cown i (.inl hi)).1
  have hss := (Classical.choice (I.pairs i hi)).isS
  have hss' := R'.isS
  refine I.commG htape hos hout hsz (.inr ⟨i, .inl hi, rfl⟩) hsame hgs (fun h g hg => ?_) (fun h hh p hp => ?_) ?_ (fun h h1 h2 => ?_) (fun h hh => ?_) (fun _ => hasC_keep h0) (fun i' hi' => ?_) ?_ hpt hq (fun i' hi' hd => ?_) (fun i' hi' hd => ?_) (fun i' hi' hd => ?_)
  · by_cases h1 : h = lisI X i
    · subst h1; rw [el]; exact hl g hg
    · by_cases h2 : h = sndI X i
      · subst h2; rw [es]; exact hs g hg
      · rw [eo h h1 h2]; exact I.loc h g (by rw [← hother h h1 h2]; exact hg)
  · by_cases h1 : h = lisI X i
    · subst h1; rw [el] at hp; exact hlp p hp
    · by_cases h2 : h = sndI X i
      · subst h2; rw [es] at hp; exact hsp p hp
      · rw [eo h h1 h2] at hp; exact hp
  · refine mainR_keep I.main h0 (fun k c k' sl H q => ?_) (fun k c k' sl H e => ?_) (fun c ⟨p, m, H, e⟩ => hsame c ?_)
    · by_cases h1 : k = lisI X i
      · subst h1
        rw [el]
        constructor
        · intro e; rw [e] at hlf; cases hlf
        · intro e; rw [e] at hlf0; cases hlf0
      · by_cases h2 : k = sndI X i
        · subst h2
          rw [es]
          constructor
          · intro e; rw [e] at hss'; cases hss'
          · intro e; rw [e] at hss; cases hss
        · rw [eo k h1 h2]
    · by_cases h1 : k = lisI X i
      · subst h1; rw [el] at e; rw [e] at hlf; cases hlf
      · by_cases h2 : k = sndI X i
        · subst h2; rw [es] at e; rw [e] at hss'; cases hss'
        · rw [eo k h1 h2] at e; exact e
    · have hm := I.main
      unfold MainR at hm
      rw [e] at hm
      intro ec
      have h1 : hasC X σ gs.size p := .inr ⟨p, c, m, H, e, rfl⟩
      have := I.cinj p i h1 (.inl hi) (by rw [hm.2.1]; exact ec)
      have hsz2 := hm.1
      simp only [lisI] at hi
      omega
  · obtain ⟨q, e⟩ := I.old h h1 h2
    exact ⟨q, by rw [eo h (by simp only [lisI]; omega) (by simp only [sndI]; omega)]; exact e⟩
  · by_cases h1 : h = lisI X i
    · omega
    · by_cases h2 : h = sndI X i
      · subst h2; rw [es]; exact hub hh
      · exact eo h h1 h2
  · by_cases hii : i' = i
    · subst hii; rw [el, es]; exact ⟨R'⟩
    · rw [eo (lisI X i') (by simp only [lisI]; omega) (by simp only [lisI, sndI]; omega), eo (sndI X i') (by simp only [lisI, sndI]; omega) (by simp only [sndI]; omega)]
      exact ⟨(Classical.choice (I.pairs i' hi')).other (hsame _ (fun e => hii (I.cinj i' i (.inl hi') (.inl hi) e)))⟩
  · rw [hsame _ (fun e => by have := I.tsb.1; omega)]; exact I.tb
  · by_cases hii : i' = i
    · subst hii; rw [es] at hd; exact hsd hd
    · rw [eo (sndI X i') (by simp only [lisI, sndI]; omega) (by simp only [sndI]; omega)] at hd; exact .inl hd
  · by_cases hii : i' = i
    · subst hii; rw [el] at hd; exact hkl hd
    · rw [eo (lisI X i') (by simp only [lisI]; omega) (by simp only [lisI, sndI]; omega)] at hd; exact .inl hd
  · by_cases hii : i' = i
    · subst hii; rw [el] at hd; obtain ⟨c, k, sl, H, q, e⟩ := hd; rw [e] at hlf; cases hlf
    · rw [eo (lisI X i') (by simp only [lisI]; omega) (by simp only [lisI, sndI]; omega)] at hd; exact .inl hd

theorem PInv.pair (I : PInv X σ C own j gs w t) {i : Nat} (hi : lisI X i < gs.size) {lx sx : GS} {gs' : Array Goroutine} {u : Trace} (htape : w'.tape = w.tape) (hos : w'.os = w.os) (hout : w'.output = w.output) (hsz : w'.heap.size = w.heap.size)
    (hsame : ∀ b, b ≠ C i → w'.heap[b]? = w.heap[b]?) (hgs : gs'.size = gs.size) (hother : ∀ h, h ≠ lisI X i → h ≠ sndI X i → gs'[h]? = gs[h]?) (hl : ∀ g, gs'[lisI X i]? = some g → GI X lx g) (hs : ∀ g, gs'[sndI X i]? = some g → GI X sx g)
    (hlp : ∀ p ∈ lx.hp, p ∈ (σ (lisI X i)).hp) (hsp : ∀ p ∈ sx.hp, p ∈ (σ (sndI X i)).hp) (R' : PairR X w' (C i) i lx sx) (hlf : lx.lFree = true) (hlf0 : (σ (lisI X i)).lFree = true) (hub : gs.size ≤ sndI X i → sx = σ (sndI X i))
    (hsd : (∃ c q, sx = .sDone c q) → ∃ c q, σ (sndI X i) = .sDone c q) (hkl : lx.shut = true → (σ (lisI X i)).shut = true ∨ KBy (t ++ u) (lisI X i) (sndI X i))
    (hu : ∀ op ∈ u, op.act.touch? = none) (hw : Wordless u) (hlow : ∀ op ∈ u, op.act.low w.heap.size) : PInv X (upd (upd σ (lisI X i) lx) (sndI X i) sx) C own j gs' w' (t ++ u) :=
  I.pairG hi htape hos hout hsz hsame hgs hother hl hs hlp hsp R' hlf hlf0 hub (fun h => .inl (hsd h)) hkl (I.pt.mute (Nat.le_refl _) hu hw hlow) (fun _ _ _ op hop _ => hu op hop)

theorem alS_two {n h1 h2 : Nat} (h : h1 ≠ h2) (hh1 : h1 < n) (hh2 : h2 < n) (x y : GS) : alS X (upd (upd σ h1 x) h2 y) n + (σ h1).al X + (σ h2).al X = alS X σ n + x.al X + y.al X := by
  have a := alS_upd (X := X) (σ := upd σ h1 x) hh2 y
  have b := alS_upd (X := X) (σ := σ) hh1 x
  rw [upd_ne σ x (Ne.symm h)] at a
  omega
theorem beS_two {n h1 h2 : Nat} (h : h1 ≠ h2) (hh1 : h1 < n) (hh2 : h2 < n) (x y : GS) : beS (upd (upd σ h1 x) h2 y) n + (σ h1).be + (σ h2).be = beS σ n + x.be + y.be := by
  have a := beS_upd (σ := upd σ h1 x) hh2 y
  have b := beS_upd (σ := σ) hh1 x
  rw [upd_ne σ x (Ne.symm h)] at a
  omega
theorem upd_id {α : Type} (f : Nat → α) (h : Nat) : upd f h (f h) = f := by
  funext x
  by_cases hx : x = h
  · subst hx; rw [upd_same]
  · rw [upd_ne f _ hx]

/-- The four marks of a passage, and their kin, touch nothing. -/
def commAct : MemAct → Bool
  | .send _ _ | .sendDone _ _ | .recv _ _ _ | .recvDone _ _ | .recvClosed _ => true
  | _ => false
def actChan : MemAct → Nat
  | .send c _ | .sendDone c _ | .recv c _ _ | .recvDone c _ | .recvClosed c => c
  | _ => 0
theorem comm_ops {u : Trace} {B c : Nat} (h : ∀ op ∈ u, commAct op.act = true ∧ actChan op.act = c) (hc : c < B) : (∀ op ∈ u, op.act.touch? = none) ∧ Wordless u ∧ ∀ op ∈ u, op.act.low B := by
  refine ⟨fun op hop => ?_, fun op hop m e => ?_, fun op hop => ?_⟩
  · obtain ⟨h1, _⟩ := h op hop
    cases e : op.act <;> rw [e] at h1 <;> first | rfl | cases h1
  · obtain ⟨h1, _⟩ := h op hop
    rw [e] at h1; cases h1
  · obtain ⟨h1, h2⟩ := h op hop
    cases e : op.act <;> rw [e] at h1 h2 <;> first | (simp only [actChan] at h2; subst h2; exact hc) | cases h1

theorem drop_cons {vs : List Value} {s : Nat} {v : Value} {rest : List Value} (h : vs.drop s = v :: rest) : vs[s]? = some v ∧ vs.drop (s + 1) = rest ∧ s < vs.length := by
  have hlt : s < vs.length := by
    rcases Nat.lt_or_ge s vs.length with hl | hl
    · exact hl
    · rw [List.drop_eq_nil_of_le hl] at h; cases h
  rw [List.drop_eq_getElem_cons hlt] at h
  simp only [List.cons.injEq] at h
  exact ⟨by rw [List.getElem?_eq_getElem hlt, h.1], h.2, hlt⟩


theorem setChan_same {w : World} {d c cap s r : Nat} {buf : Array Value} {cl tm : Bool} {b : Nat} (hb : b ≠ c) : ((w.at d).setChan c cap buf cl s r tm).heap[b]? = w.heap[b]? := by
  show (w.heap.setIfInBounds c _)[b]? = _
  rw [Array.getElem?_setIfInBounds_ne (Ne.symm hb)]
theorem setChan_self {w : World} {d c cap s r : Nat} {buf : Array Value} {cl tm : Bool} (hc : c < w.heap.size) : ((w.at d).setChan c cap buf cl s r tm).heap[c]? = some (.chan cap buf cl s r tm) := by
  show (w.heap.setIfInBounds c _)[c]? = _
  rw [Array.getElem?_setIfInBounds_self_of_lt hc]
theorem setChan_size {w : World} {d c cap s r : Nat} {buf : Array Value} {cl tm : Bool} : ((w.at d).setChan c cap buf cl s r tm).heap.size = w.heap.size := by
  show (w.heap.setIfInBounds c _).size = _
  simp

theorem take_more {vs : List Value} {r s : Nat} {v : Value} (hrs : r ≤ s) (hv : vs[s]? = some v) : (vs.drop r).take (s + 1 - r) = (vs.drop r).take (s - r) ++ [v] := by
  rw [show s + 1 - r = (s - r) + 1 by omega, List.take_add_one]
  rw [List.getElem?_drop, show r + (s - r) = s by omega, hv]
  rfl

theorem take_first {vs : List Value} {r s : Nat} {x : Value} {l : List Value} (h : x :: l = (vs.drop r).take (s - r)) : ∃ rest, vs.drop r = x :: rest ∧ l = (vs.drop (r + 1)).take (s - (r + 1)) ∧ r < s := by
  cases hd : vs.drop r with
  | nil => rw [hd] at h; simp at h
  | cons y rest =>
    rw [hd] at h
    have hpos : 0 < s - r := by
      rcases Nat.eq_zero_or_pos (s - r) with e | e
      · rw [e] at h; simp at h
      · exact e
    rw [show s - r = (s - (r + 1)) + 1 by omega, List.take_succ_cons] at h
    simp only [List.cons.injEq] at h
    obtain ⟨rfl, h2⟩ := h
    exact ⟨rest, rfl, by rw [h2, (drop_cons hd).2.1], by omega⟩

/-- The sender stands at its select. -/
theorem select_falls (I : PInv X σ C own j gs w t) (hF : ∀ f H g, X.Fin f H g → g.status = .running) {sl : Option (Nat × Nat)} {i c s m : Nat} {H : Hp} {g : Goroutine} {v : Value} {rest : List Value} (hi : lisI X i < gs.size) (hg : gs[sndI X i]? = some g) (hσ : σ (sndI X i) = .sRun c s m H)
    (hd : X.vs.drop s = v :: rest) (hs : ASel X c v (SendsH X c rest) H g) : Falls X σ gs t (runT X.P (crowd gs w sl) (sndI X i)) := by
  have hlt : sndI X i < gs.size := (Array.getElem?_eq_some_iff.1 hg).1
  obtain ⟨hrun, z1, z2, hst, hnext⟩ := hs
  obtain ⟨hv, hdr, hsN⟩ := drop_cons hd
  have R := Classical.choice (I.pairs i hi)
  rw [hσ] at R
  have hls : lisI X i ≠ sndI X i := by simp only [lisI, sndI]; omega
  have hcB := (I.cown i (.inl hi)).1
  have hclt := (I.cown i (.inl hi)).2.2
  obtain ⟨s', r, buf, cl, hchan, ⟨hrs, hsN'⟩, hbuf, hroom, hsnd, hlis⟩ := R
  obtain ⟨rfl, rfl, rfl⟩ := hsnd
  have hrT := runT_crowd_comm (sl := sl) hg (show stepG X.P (sndI X i == 0) g w = _ by rw [show (sndI X i == 0) = false by have := (I.lis_pos i).2; simp]; exact hst w)
  rw [ofEvents_nil, Array.empty_append] at hrT
  obtain ⟨scap, sx, sy, stm, hsb⟩ := I.sb
  have hone : OneWay w (gs.setIfInBounds (sndI X i) dummyG) #[scase (C i) v z1, rcase X.sb z2] (scase (C i) v z1) := .inr ⟨X.sb, z2, scap, sx, sy, stm, rfl, hsb, I.nobody_sb hF _⟩
  obtain ⟨m1, hm1⟩ := (sendsH_iff _ _ _ _ _).1 hnext
  by_cases hpk : ∃ c' k' r' Hl, σ (lisI X i) = .lPark c' k' r' Hl
  · -- the listener waits there
    obtain ⟨c', k', r', Hl, hL⟩ := hpk
    rw [hL] at hlis
    obtain ⟨e1, e2, rfl, rfl, _, _⟩ := hlis
    subst c' k'
    have hsr : s = r' := by
      have := congrArg List.length hbuf
      simp at this
      omega
    subst hsr
    have hp : partners (gs.setIfInBounds (sndI X i) dummyG) (C i) false ≠ [] := by
      intro e
      have := part_of_lPark I.loc hi hL hls
      rw [e] at this
      cases this
    obtain ⟨jj, jk, d, hmem, hcomm⟩ := comm_send_partner (P := X.P) (sl := sl) (i := sndI X i) (g := core g) (sh := .select) hone hchan hp
    obtain ⟨rfl, rfl, _⟩ := I.recv_at hF hi hmem
    have hgl := I.loc (lisI X i) gs[lisI X i] (Array.getElem?_eq_getElem hi)
    rw [hL] at hgl
    obtain ⟨g₂, z3, hgeq, _, _, hln⟩ := hgl
    rw [hd] at hln
    obtain ⟨m2, hm2⟩ := (listH_iff _ _ _ _ _ _).1 hln
    have hget := get_comm2 (P := X.P) (gs := gs) (i := sndI X i) (j := lisI X i) (jk := 0) (v := v) (g' := (core g).finishComm X.P #[scase (C i) v z1, rcase X.sb z2] .select 0 undef false) hlt hls
    have hops : ∀ op ∈ (#[{ g := sndI X i, fn := (core g).frame.fn, pos := (core g).frame.place, act := .send (C i) s }, { g := lisI X i, fn := ((gs.setIfInBounds (sndI X i) dummyG).getD (lisI X i) default).frame.fn, pos := ((gs.setIfInBounds (sndI X i) dummyG).getD (lisI X i) default).frame.place, act := .recv (C i) s X.room },
        { g := sndI X i, fn := (core g).frame.fn, pos := (core g).frame.place, act := .sendDone (C i) s }, { g := lisI X i, fn := ((gs.setIfInBounds (sndI X i) dummyG).getD (lisI X i) default).frame.fn, pos := ((gs.setIfInBounds (sndI X i) dummyG).getD (lisI X i) default).frame.place, act := .recvDone (C i) s }] : Array MemOp), commAct op.act = true ∧ actChan op.act = C i := by
      intro op hop
      simp only [List.mem_toArray, List.mem_cons, List.not_mem_nil, or_false] at hop
      rcases hop with rfl | rfl | rfl | rfl <;> exact ⟨rfl, rfl⟩
    obtain ⟨o1, o2, o3⟩ := comm_ops hops hclt
    have I' := I.pair (w' := (w.at d).setChan (C i) X.room #[] false (s + 1) (s + 1) false) hi (lx := .lRun (C i) i (s + 1) m2 Hl) (sx := .sRun (C i) (s + 1) m1 H) rfl rfl rfl setChan_size (fun b hb => setChan_same hb) size_comm2
      (fun h h1 h2 => by rw [hget h, if_neg h2, if_neg h1])
      (fun y hy => by
        rw [hget, if_neg hls, if_pos rfl, Array.getElem?_eq_getElem hi, hgeq] at hy
        simp only [Option.map_some, parked, Option.some.injEq] at hy
        subst hy
        show LRun X (C i) i (X.vs.drop (s + 1)) m2 Hl _
        rw [hdr]
        exact hm2)
      (fun y hy => by
        rw [hget, if_pos rfl, finish_core, res_select] at hy
        cases hy
        show SRun X (C i) (X.vs.drop (s + 1)) m1 H _
        rw [hdr]
        exact hm1)
      (fun p hp => by rw [hL]; exact hp) (fun p hp => by rw [hσ]; exact hp)
      ⟨s + 1, s + 1, #[], false, setChan_self hclt, ⟨Nat.le_refl _, hsN⟩, by simp, by simp, ⟨rfl, rfl, rfl⟩, ⟨rfl, rfl, rfl⟩⟩ rfl (by rw [hL]; rfl) (fun h => by omega) (by rintro ⟨_, _, e⟩; cases e) (fun e => by cases e) o1 o2 o3
    refine ⟨_, C, own, j, _, _, sl, _, by rw [hrT, hcomm], I', .inl ?_⟩
    have := alS_two (X := X) (σ := σ) hls hi hlt (.lRun (C i) i (s + 1) m2 Hl) (.sRun (C i) (s + 1) m1 H)
    rw [hL, hσ] at this
    simp only [GS.al] at this
    rw [size_comm2]
    omega
  · have hnp : partners (gs.setIfInBounds (sndI X i) dummyG) (C i) false = [] := partners_nil fun h k hm => by
      obtain ⟨rfl, _, c', k', r', Hl, e⟩ := I.recv_at hF hi hm
      exact hpk ⟨c', k', r', Hl, e⟩
    have hlr : ∃ m' H', σ (lisI X i) = .lRun (C i) i r m' H' := by
      cases e : σ (lisI X i) with
      | lRun a b c' d e' => rw [e] at hlis; obtain ⟨e1, e2, rfl⟩ := hlis; subst a b; exact ⟨_, _, rfl⟩
      | lPark a b c' d => exact absurd ⟨_, _, _, _, e⟩ hpk
      | lTell a b c' d => rw [e] at hlis; have := hlis.2.2.2; cases this
      | lPTell a b c' d => rw [e] at hlis; have := hlis.2.2.2; cases this
      | lDone a b c' d f => rw [e] at hlis; have := hlis.2.2.2; cases this
      | _ => rw [e] at hlis; exact hlis.elim
    obtain ⟨m', H', hL⟩ := hlr
    by_cases hrm : buf.size < X.room
    · -- there is room
      obtain ⟨d, hcomm⟩ := comm_send_room (P := X.P) (sl := sl) (i := sndI X i) (g := core g) (sh := .select) hone hchan hnp hrm
      have hget := get_comm1 (gs := gs) (g' := (core g).finishComm X.P #[scase (C i) v z1, rcase X.sb z2] .select 0 undef false) hlt
      have hops : ∀ op ∈ (#[{ g := sndI X i, fn := (core g).frame.fn, pos := (core g).frame.place, act := .send (C i) s }, { g := sndI X i, fn := (core g).frame.fn, pos := (core g).frame.place, act := .sendDone (C i) s }] : Array MemOp), commAct op.act = true ∧ actChan op.act = C i := by
        intro op hop
        simp only [List.mem_toArray, List.mem_cons, List.not_mem_nil, or_false] at hop
        rcases hop with rfl | rfl <;> exact ⟨rfl, rfl⟩
      obtain ⟨o1, o2, o3⟩ := comm_ops hops hclt
      have I' := I.pair (w' := (w.at d).setChan (C i) X.room (buf.push v) false (s + 1) r false) hi (lx := .lRun (C i) i r m' H') (sx := .sRun (C i) (s + 1) m1 H) rfl rfl rfl setChan_size (fun b hb => setChan_same hb) size_comm1
        (fun h h1 h2 => by rw [hget h, if_neg h2])
        (fun y hy => by rw [hget, if_neg hls] at hy; have := I.loc _ y hy; rw [hL] at this; exact this)
        (fun y hy => by
          rw [hget, if_pos rfl, finish_core, res_select] at hy
          cases hy
          show SRun X (C i) (X.vs.drop (s + 1)) m1 H _
          rw [hdr]
          exact hm1)
        (fun p hp => by rw [hL]; exact hp) (fun p hp => by rw [hσ]; exact hp)
        ⟨s + 1, r, buf.push v, false, setChan_self hclt, ⟨by omega, hsN⟩, by rw [Array.toList_push, hbuf, take_more hrs hv], by simp; omega, ⟨rfl, rfl, rfl⟩, ⟨rfl, rfl, rfl⟩⟩ rfl (by rw [hL]; rfl) (fun h => by omega) (by rintro ⟨_, _, e⟩; cases e) (fun e => by cases e) o1 o2 o3
      refine ⟨_, C, own, j, _, _, sl, _, by rw [hrT, hcomm], I', .inl ?_⟩
      have := alS_two (X := X) (σ := σ) hls hi hlt (.lRun (C i) i r m' H') (.sRun (C i) (s + 1) m1 H)
      rw [hL, hσ] at this
      simp only [GS.al] at this
      rw [size_comm1]
      omega
    · -- it waits
      have hways : ways w (gs.setIfInBounds (sndI X i) dummyG) (scase (C i) v z1) = [] := by
        simp [ways, scase, hchan, hnp, hrm]
      have hcomm := comm_waits (P := X.P) (sl := sl) (i := sndI X i) (g := core g) (sh := .select) hone rfl hchan hways
      have hget := get_comm1 (gs := gs) (g' := parked (core g) #[scase (C i) v z1, rcase X.sb z2] .select) hlt
      have I' := I.pair (w' := w) (u := #[]) hi (lx := .lRun (C i) i r m' H') (sx := .sPark (C i) s H) rfl rfl rfl rfl (fun b hb => rfl) size_comm1
        (fun h h1 h2 => by rw [hget h, if_neg h2])
        (fun y hy => by rw [hget, if_neg hls] at hy; have := I.loc _ y hy; rw [hL] at this; exact this)
        (fun y hy => by
          rw [hget, if_pos rfl] at hy
          cases hy
          exact ⟨core g, v, z1, z2, rfl, hv, by rw [hdr]; exact hnext⟩)
        (fun p hp => by rw [hL]; exact hp) (fun p hp => by rw [hσ]; exact hp)
        ⟨s, r, buf, false, hchan, ⟨hrs, hsN'⟩, hbuf, hroom, ⟨rfl, rfl, rfl, by omega, hsN⟩, ⟨rfl, rfl, rfl⟩⟩ rfl (by rw [hL]; rfl) (fun h => by omega) (by rintro ⟨_, _, e⟩; cases e) (fun e => by cases e) (by simp) (by intro op hop; simp at hop) (by simp)
      refine ⟨_, C, own, j, _, _, sl, _, by rw [hrT, hcomm], I', .inr ⟨?_, ?_⟩⟩
      · have := alS_two (X := X) (σ := σ) hls hi hlt (.lRun (C i) i r m' H') (.sPark (C i) s H)
        rw [hL, hσ] at this
        simp only [GS.al] at this
        rw [size_comm1]
        omega
      · have := beS_two (σ := σ) hls hi hlt (.lRun (C i) i r m' H') (.sPark (C i) s H)
        rw [hL, hσ] at this
        simp only [GS.be] at this
        rw [size_comm1]
        omega
end
end Go.Proofs.Ytofoplpnpfaofaa
