/- What is proved here: the phase's invariant is kept by an answer: a listener tells, the one that started all takes it. No condition beside the invariant. -/
import Derived.Test.YtofoplpnpfaofaaPhase8
set_option linter.unusedSimpArgs false
set_option linter.unusedVariables false
namespace Go.Proofs.Ytofoplpnpfaofaa
open Go Go.Conc
open Go.ConcN (sumTo upd sumTo_upd upd_ne upd_same)

section
variable {X : Cx} {σ : Nat → GS} {C own : Nat → Nat} {j : Nat} {gs : Array Goroutine} {w w' : World} {t : Trace}

theorem cntN_set {f : Nat → Option Value} {i n : Nat} (hi : i < n) (hf : f i = none) (v : Value) : cntN (setF f i v) n + 1 = cntN f n := by
  have h := sumTo_upd f (some v) (fun o : Option Value => if o.isNone then 1 else 0) hi
  rw [hf] at h
  have e : (fun a => (fun o : Option Value => if o.isNone then 1 else 0) (upd f i (some v) a)) = fun k => if (setF f i v k).isNone then 1 else 0 := by
    funext k
    rfl
  rw [e] at h
  simpa [cntN] using h

theorem PairR.shutRel {c k : Nat} {l s : GS} (h : PairR X w c k l s) (hl : l.shut = true) : h.r = X.vs.length ∧ h.cl = true := by
  have := h.lis
  cases l <;> first | exact this.2.2 | cases hl

/-- The states that an answer passes between. -/
theorem PInv.told (I : PInv X σ C own j gs w t) {i m' q d : Nat} {rem : Nat} {f : Nat → Option Value} {H Hm : Hp} {sl : Value} {gs' : Array Goroutine} {f1 f2 : FuncId} {p1 p2 : String} (hi : lisI X i < gs.size)
    (hL : ((∃ m, σ (lisI X i) = .lTell (C i) i m H) ∨ ∃ sl', σ (lisI X i) = .lPTell (C i) i sl' H)) (hM : (∃ m, σ 0 = .mRecv (rem + 1) m f Hm) ∨ σ 0 = .mPark (rem + 1) f Hm)
    (hgs : gs'.size = gs.size) (hother : ∀ h, h ≠ lisI X i → h ≠ 0 → gs'[h]? = gs[h]?) (hl : ∀ g, gs'[lisI X i]? = some g → GI X (.lDone (C i) i sl H q) g) (hm : ∀ g, gs'[0]? = some g → GI X (.mRecv rem m' (setF f i sl) Hm) g) :
    PInv X (upd (upd σ (lisI X i) (.lDone (C i) i sl H q)) 0 (.mRecv rem m' (setF f i sl) Hm)) C own (j + 1) gs' ((w.at d).setChan X.tb 0 #[] false (j + 1) (j + 1) false)
      (t ++ #[{ g := lisI X i, fn := f1, pos := p1, act := .send X.tb j }, { g := 0, fn := f2, pos := p2, act := .recv X.tb j 0 }, { g := lisI X i, fn := f1, pos := p1, act := .sendDone X.tb j }, { g := 0, fn := f2, pos := p2, act := .recvDone X.tb j }]) := by
  have hl0 := (I.lis_pos i).1
  have hls : lisI X i ≠ sndI X i := by simp only [lisI, sndI]; omega
  have hin : i < X.n ∧ f i = none ∧ gs.size = X.b0 + 2 * X.n ∧ rem + 1 = cntN f X.n ∧ (∀ k, k < X.n → match f k with | none => (∀ c k' sl H q, σ (lisI X k) ≠ .lDone c k' sl H q) | some sl => ∃ c H q, σ (lisI X k) = .lDone c k sl H q) := by
    have hmn := I.main
    unfold MainR at hmn
    have h3 : gs.size = X.b0 + 2 * X.n ∧ rem + 1 = cntN f X.n ∧ (∀ k, k < X.n → match f k with | none => (∀ c k' sl H q, σ (lisI X k) ≠ .lDone c k' sl H q) | some sl => ∃ c H q, σ (lisI X k) = .lDone c k sl H q) := by
      rcases hM with ⟨m, e⟩ | e
      · rw [e] at hmn; exact hmn
      · rw [e] at hmn; exact ⟨hmn.1, hmn.2.1, hmn.2.2.1⟩
    have h1 : i < X.n := by have := h3.1; simp only [lisI] at hi; omega
    refine ⟨h1, ?_, h3⟩
    have h4 := h3.2.2 i h1
    cases hf : f i with
    | none => rfl
    | some sl =>
      rw [hf] at h4
      obtain ⟨c, H', q', e⟩ := h4
      rcases hL with ⟨m, e'⟩ | ⟨sl', e'⟩ <;> rw [e] at e' <;> cases e'
  obtain ⟨hin, hfi, hsz, hrem, hdn⟩ := hin
  have htlt : X.tb < w.heap.size := lt_of_heap I.tb
  have hshutL : (σ (lisI X i)).shut = true := by rcases hL with ⟨m, e⟩ | ⟨sl', e⟩ <;> rw [e] <;> rfl
  have hhpL : (σ (lisI X i)).hp = H := by rcases hL with ⟨m, e⟩ | ⟨sl', e⟩ <;> rw [e] <;> rfl
  have hhp0 : (σ 0).hp = Hm := by rcases hM with ⟨m, e⟩ | e <;> rw [e] <;> rfl
  have el : (upd (upd σ (lisI X i) (.lDone (C i) i sl H q)) 0 (.mRecv rem m' (setF f i sl) Hm)) (lisI X i) = .lDone (C i) i sl H q := by rw [upd_ne _ _ hl0, upd_same]
  have e0 : (upd (upd σ (lisI X i) (.lDone (C i) i sl H q)) 0 (.mRecv rem m' (setF f i sl) Hm)) 0 = .mRecv rem m' (setF f i sl) Hm := upd_same ..
  have eo : ∀ h, h ≠ lisI X i → h ≠ 0 → (upd (upd σ (lisI X i) (.lDone (C i) i sl H q)) 0 (.mRecv rem m' (setF f i sl) Hm)) h = σ h := fun h h1 h2 => by rw [upd_ne _ _ h2, upd_ne _ _ h1]
  have hops : ∀ op ∈ (#[{ g := lisI X i, fn := f1, pos := p1, act := .send X.tb j }, { g := 0, fn := f2, pos := p2, act := .recv X.tb j 0 }, { g := lisI X i, fn := f1, pos := p1, act := .sendDone X.tb j }, { g := 0, fn := f2, pos := p2, act := .recvDone X.tb j }] : Array MemOp), commAct op.act = true ∧ actChan op.act = X.tb := by
    intro op hop
    simp only [List.mem_toArray, List.mem_cons, List.not_mem_nil, or_false] at hop
    rcases hop with rfl | rfl | rfl | rfl <;> exact ⟨rfl, rfl⟩
  obtain ⟨o1, o2, o3⟩ := comm_ops hops htlt
  have hnoM : ∀ p c m H', σ 0 ≠ .mMade p c m H' := by
    intro p c m H' e
    rcases hM with ⟨m, e'⟩ | e' <;> rw [e] at e' <;> cases e'
  have hR := fun i' (hi' : lisI X i' < gs.size) => Classical.choice (I.pairs i' hi')
  refine I.comm rfl rfl rfl setChan_size (.inl rfl) (fun b hb => setChan_same hb) hgs (fun h g hg => ?_) (fun h hh p hp => ?_) ?_ (fun h h1 h2 => ?_) (fun h hh => ?_) (fun i' => ?_) (fun i' hi' => ?_) (setChan_self htlt) o1 o2 o3 (fun i' hi' hd => ?_) (fun i' hi' hd => ?_) (fun i' hi' hd => ?_)
  · by_cases h1 : h = lisI X i
    · subst h1; rw [el]; exact hl g hg
    · by_cases h2 : h = 0
      · subst h2; rw [e0]; exact hm g hg
      · rw [eo h h1 h2]; exact I.loc h g (by rw [← hother h h1 h2]; exact hg)
  · by_cases h1 : h = lisI X i
    · subst h1; rw [el] at hp; rw [hhpL]; exact hp
    · by_cases h2 : h = 0
      · subst h2; rw [e0] at hp; rw [hhp0]; exact hp
      · rw [eo h h1 h2] at hp; exact hp
  · unfold MainR
    rw [e0]
    refine ⟨hsz, ?_, fun k hk => ?_⟩
    · have := cntN_set hin hfi sl; omega
    · by_cases hki : k = i
      · subst hki
        simp only [setF, if_true]
        exact ⟨C k, H, q, el⟩
      · have h5 := hdn k hk
        have e1 : setF f i sl k = f k := by simp [setF, hki]
        rw [e1, eo (lisI X k) (by simp only [lisI]; omega) (I.lis_pos k).1]
        exact h5
  · obtain ⟨q', e⟩ := I.old h h1 h2
    exact ⟨q', by rw [eo h (by simp only [lisI]; omega) (by omega)]; exact e⟩
  · exact eo h (by omega) (by have := I.b0; omega)
  · unfold hasC
    rw [e0]
    refine or_congr Iff.rfl ⟨?_, ?_⟩
    · rintro ⟨p, c, m, H', e, _⟩; cases e
    · rintro ⟨p, c, m, H', e, _⟩; exact absurd e (hnoM _ _ _ _)
  · have R := (hR i' hi').other (w' := (w.at d).setChan X.tb 0 #[] false (j + 1) (j + 1) false) (setChan_same (by have := (I.cown i' (.inl hi')).1; have := I.tsb.1; omega))
    by_cases hii : i' = i
    · subst hii
      rw [el, eo (sndI X i') (Ne.symm hls) (I.lis_pos i').2]
      refine ⟨⟨R.s, R.r, R.buf, R.cl, R.chan, R.le, R.buff, R.room, R.snd, ?_⟩⟩
      have h7 := R.shutRel hshutL
      exact ⟨rfl, rfl, h7.1, h7.2⟩
    · rw [eo (lisI X i') (by simp only [lisI]; omega) (I.lis_pos i').1, eo (sndI X i') (by simp only [lisI, sndI]; omega) (I.lis_pos i').2]
      exact ⟨R⟩
  · rw [eo (sndI X i') (by simp only [lisI, sndI]; omega) (I.lis_pos i').2] at hd
    exact hd
  · by_cases hii : i' = i
    · subst hii; exact .inl hshutL
    · rw [eo (lisI X i') (by simp only [lisI]; omega) (I.lis_pos i').1] at hd; exact .inl hd
  · by_cases hii : i' = i
    · subst hii
      right
      have hk := I.kl i' hi' hshutL
      have hself := kby_self t (lisI X i')
      have hw : Wordless (t ++ #[({ g := lisI X i', fn := f1, pos := p1, act := .send X.tb j } : MemOp), { g := 0, fn := f2, pos := p2, act := .recv X.tb j 0 }, { g := lisI X i', fn := f1, pos := p1, act := .sendDone X.tb j }, { g := 0, fn := f2, pos := p2, act := .recvDone X.tb j }]) := I.pt.wordless.append o2
      have a0 : (t ++ #[({ g := lisI X i', fn := f1, pos := p1, act := .send X.tb j } : MemOp), { g := 0, fn := f2, pos := p2, act := .recv X.tb j 0 }, { g := lisI X i', fn := f1, pos := p1, act := .sendDone X.tb j }, { g := 0, fn := f2, pos := p2, act := .recvDone X.tb j }])[t.size]? = some { g := lisI X i', fn := f1, pos := p1, act := .send X.tb j } := by
        rw [Array.getElem?_append_right (Nat.le_refl _)]; simp
      have a3 : (t ++ #[({ g := lisI X i', fn := f1, pos := p1, act := .send X.tb j } : MemOp), { g := 0, fn := f2, pos := p2, act := .recv X.tb j 0 }, { g := lisI X i', fn := f1, pos := p1, act := .sendDone X.tb j }, { g := 0, fn := f2, pos := p2, act := .recvDone X.tb j }])[t.size + 3]? = some { g := 0, fn := f2, pos := p2, act := .recvDone X.tb j } := by
        rw [Array.getElem?_append_right (by omega)]; simp
      exact ⟨hself.handed hw a0 a3 (Nat.le_refl _) rfl rfl rfl rfl o1, hk.handed hw a0 a3 (Nat.le_refl _) rfl rfl rfl rfl o1⟩
    · rw [eo (lisI X i') (by simp only [lisI]; omega) (I.lis_pos i').1] at hd; exact .inl hd

/-- Main does not wait: somebody comes to wait with his answer. -/
theorem mainR_wait {sz : Nat} {σ' : Nat → GS} (hm : MainR X σ C sz w) (h0 : σ' 0 = σ 0) (hnp : ∀ rem f H, σ 0 ≠ .mPark rem f H) (hld : ∀ k c k' sl H q, σ' k = .lDone c k' sl H q ↔ σ k = .lDone c k' sl H q)
    (hst : ∀ c, (∃ p m H, σ 0 = .mMade p c m H) → w'.heap[c]? = w.heap[c]?) : MainR X σ' C sz w' := by
  unfold MainR at hm ⊢
  rw [h0]
  cases e0 : σ 0 with
  | mSpawn p mm HH => rw [e0] at hm; exact ⟨hm.1, fun x c k sl H q e => hm.2 x c k sl H q ((hld _ _ _ _ _ _).1 e)⟩
  | mMade p c mm HH =>
    rw [e0] at hm
    have := hst c ⟨p, mm, HH, e0⟩
    exact ⟨hm.1, hm.2.1, this.trans hm.2.2.1, fun x c k sl H q e => hm.2.2.2 x c k sl H q ((hld _ _ _ _ _ _).1 e)⟩
  | mGone p c mm HH => rw [e0] at hm; exact ⟨hm.1, hm.2.1, fun x c k sl H q e => hm.2.2 x c k sl H q ((hld _ _ _ _ _ _).1 e)⟩
  | mRecv rem mm f HH =>
    rw [e0] at hm
    refine ⟨hm.1, hm.2.1, fun k hk => ?_⟩
    have h1 := hm.2.2 k hk
    cases hf : f k with
    | none => rw [hf] at h1; exact fun c k' sl H q e => h1 c k' sl H q ((hld _ _ _ _ _ _).1 e)
    | some sl => rw [hf] at h1; obtain ⟨c, H, q, e⟩ := h1; exact ⟨c, H, q, (hld _ _ _ _ _ _).2 e⟩
  | mPark rem f HH => exact absurd e0 (hnp _ _ _)
  | _ => rw [e0] at hm; exact hm.elim

/-- The listener stands at its answer. -/
theorem tell_falls (I : PInv X σ C own j gs w t) (hF : ∀ f H g, X.Fin f H g → g.status = .running) {sl : Option (Nat × Nat)} {i c k m : Nat} {H : Hp} {g : Goroutine} (hi : lisI X i < gs.size) (hg : gs[lisI X i]? = some g) (hσ : σ (lisI X i) = .lTell c k m H)
    (hs : ATell X k H g) : Falls X σ gs t (runT X.P (crowd gs w sl) (lisI X i)) := by
  obtain ⟨hrun, v, z1, hok, hst, q, hq⟩ := hs
  have hl0 := (I.lis_pos i).1
  have R := Classical.choice (I.pairs i hi)
  rw [hσ] at R
  obtain ⟨e1, e2, e3, e4⟩ := R.lis
  subst c k
  have hrT := runT_crowd_comm (sl := sl) hg (show stepG X.P (lisI X i == 0) g w = _ by rw [show (lisI X i == 0) = false by simpa using hl0]; exact hst w)
  rw [ofEvents_nil, Array.empty_append] at hrT
  by_cases hpk : ∃ rem f Hm, σ 0 = .mPark rem f Hm
  · obtain ⟨rem, f, Hm, h0⟩ := hpk
    have h0lt : 0 < gs.size := by have := I.b0; omega
    have hg0 := I.loc 0 gs[0] (Array.getElem?_eq_getElem h0lt)
    rw [h0] at hg0
    obtain ⟨g₂, y1, rem', rfl, hgeq, hrecv⟩ := hg0
    have hp : partners (gs.setIfInBounds (lisI X i) dummyG) X.tb false ≠ [] := by
      intro e
      have := part_of_mPark I.loc h0lt h0 (Ne.symm hl0)
      rw [e] at this
      cases this
    obtain ⟨jj, jk, d, hmem, hcomm⟩ := comm_send_partner (P := X.P) (sl := sl) (i := lisI X i) (g := core g) (sh := .send) (.inl rfl) I.tb hp (v := X.hv i v) (z := z1)
    obtain ⟨rfl, rfl, _⟩ := I.main_at hF hmem
    have hmn := I.main
    unfold MainR at hmn
    rw [h0] at hmn
    have hin : i < X.n := by have := hmn.1; simp only [lisI] at hi; omega
    have hfi : f i = none := by
      have h4 := hmn.2.2.1 i hin
      cases hf : f i with
      | none => rfl
      | some sl => rw [hf] at h4; obtain ⟨c, H', q', e⟩ := h4; rw [hσ] at e; cases e
    obtain ⟨m', hm'⟩ := (mrecv_iff _ _ _ _ _).1 (hrecv i v H hin hfi hok)
    have hget := get_comm2 (P := X.P) (gs := gs) (i := lisI X i) (j := 0) (jk := 0) (v := X.hv i v) (g' := (core g).finishComm X.P #[scase X.tb (X.hv i v) z1] .send 0 undef false) hi (Ne.symm hl0)
    have I' := I.told (d := d) (f1 := (core g).frame.fn) (p1 := (core g).frame.place) (f2 := ((gs.setIfInBounds (lisI X i) dummyG).getD 0 default).frame.fn) (p2 := ((gs.setIfInBounds (lisI X i) dummyG).getD 0 default).frame.place) (m' := m') (q := q) (sl := v) hi (.inl ⟨m, hσ⟩) (.inr h0) size_comm2
      (fun h h1 h2 => by rw [hget h, if_neg h1, if_neg h2])
      (fun y hy => by
        rw [hget, if_pos rfl, finish_core] at hy
        cases hy
        exact ⟨hq, hok⟩)
      (fun y hy => by
        rw [hget, if_neg (Ne.symm hl0), if_pos rfl, Array.getElem?_eq_getElem h0lt, hgeq] at hy
        simp only [Option.map_some, parked, Option.some.injEq] at hy
        subst hy
        exact hm')
    refine ⟨_, C, own, j + 1, _, _, sl, _, by rw [hrT, hcomm], I', .inl ?_⟩
    have := alS_two (X := X) (σ := σ) hl0 hi h0lt (.lDone (C i) i v H q) (.mRecv rem' m' (setF f i v) Hm)
    rw [hσ, h0] at this
    simp only [GS.al] at this
    rw [size_comm2]
    omega
  · have hnp : partners (gs.setIfInBounds (lisI X i) dummyG) X.tb false = [] := partners_nil fun h k hm => by
      obtain ⟨_, _, rem, f, Hm, e⟩ := I.main_at hF hm
      exact hpk ⟨rem, f, Hm, e⟩
    have hcomm := comm_waits (P := X.P) (sl := sl) (i := lisI X i) (g := core g) (sh := .send) (gs := gs.setIfInBounds (lisI X i) dummyG) (cs := #[scase X.tb (X.hv i v) z1]) (k := scase X.tb (X.hv i v) z1) (.inl rfl) rfl I.tb (by simp [ways, scase, I.tb, hnp])
    have hls : lisI X i ≠ sndI X i := by simp only [lisI, sndI]; omega
    have ho : ∀ h, h ≠ lisI X i → upd σ (lisI X i) (.lPTell (C i) i v H) h = σ h := fun h hh => upd_ne _ _ hh
    have hse := upd_same σ (lisI X i) (GS.lPTell (C i) i v H)
    have I' : PInv X (upd σ (lisI X i) (.lPTell (C i) i v H)) C own j ((gs.setIfInBounds (lisI X i) dummyG).setIfInBounds (lisI X i) (parked (core g) #[scase X.tb (X.hv i v) z1] .send)) w (t ++ #[]) := by
      refine I.comm rfl rfl rfl rfl (.inl rfl) (fun b _ => rfl) size_comm1 (fun h y hy => ?_) (fun h hh p hp => ?_) ?_ (fun h h1 h2 => ?_) (fun h hh => ho h (by omega)) (fun i' => hasC_keep (ho 0 (Ne.symm hl0))) (fun i' hi' => ?_) I.tb (by simp) (by intro op hop; simp at hop) (by simp) (fun i' hi' hd => ?_) (fun i' hi' hd => ?_) (fun i' hi' hd => ?_)
      · rw [get_comm1 hi] at hy
        by_cases h1 : h = lisI X i
        · subst h1
          rw [if_pos rfl] at hy
          cases hy
          rw [hse]
          exact ⟨core g, z1, rfl, hok, q, hq⟩
        · rw [if_neg h1] at hy
          rw [ho h h1]
          exact I.loc h y hy
      · by_cases h1 : h = lisI X i
        · subst h1; rw [hse] at hp; rw [hσ]; exact hp
        · rw [ho h h1] at hp; exact hp
      · refine mainR_wait I.main (ho 0 (Ne.symm hl0)) (fun rem f H e => hpk ⟨rem, f, H, e⟩) (fun k c k' sl H' q' => ?_) (fun c _ => rfl)
        by_cases h1 : k = lisI X i
        · subst h1
          rw [hse, hσ]
          constructor <;> intro e <;> cases e
        · rw [ho k h1]
      · obtain ⟨q', e⟩ := I.old h h1 h2
        exact ⟨q', by rw [ho h (by simp only [lisI]; omega)]; exact e⟩
      · by_cases hii : i' = i
        · subst hii
          rw [hse, ho (sndI X i') (Ne.symm hls)]
          exact ⟨⟨R.s, R.r, R.buf, R.cl, R.chan, R.le, R.buff, R.room, R.snd, ⟨rfl, rfl, e3, e4⟩⟩⟩
        · rw [ho (lisI X i') (by simp only [lisI]; omega), ho (sndI X i') (by simp only [lisI, sndI]; omega)]
          exact I.pairs i' hi'
      · rw [ho (sndI X i') (by simp only [lisI, sndI]; omega)] at hd; exact hd
      · by_cases hii : i' = i
        · subst hii; exact .inl (by rw [hσ]; rfl)
        · rw [ho (lisI X i') (by simp only [lisI]; omega)] at hd; exact .inl hd
      · by_cases hii : i' = i
        · subst hii; rw [hse] at hd; obtain ⟨_, _, _, _, _, e⟩ := hd; cases e
        · rw [ho (lisI X i') (by simp only [lisI]; omega)] at hd; exact .inl hd
    refine ⟨_, C, own, j, _, _, sl, _, by rw [hrT, hcomm], I', .inr ⟨?_, ?_⟩⟩
    · rw [size_comm1]
      have := alS_upd (X := X) (σ := σ) hi (.lPTell (C i) i v H)
      rw [hσ] at this
      simp only [GS.al] at this
      omega
    · rw [size_comm1]
      have := beS_upd (σ := σ) hi (.lPTell (C i) i v H)
      rw [hσ] at this
      simp only [GS.be] at this
      omega

/-- Main stands at its receive. -/
theorem recvT_falls (I : PInv X σ C own j gs w t) (hF : ∀ f H g, X.Fin f H g → g.status = .running) {sl : Option (Nat × Nat)} {rem m : Nat} {f : Nat → Option Value} {Hm : Hp} {g : Goroutine} (hg : gs[0]? = some g) (hσ : σ 0 = .mRecv (rem + 1) m f Hm)
    (hs : ARecvT X f (MRecv X rem) Hm g) : Falls X σ gs t (runT X.P (crowd gs w sl) 0) := by
  have h0lt : 0 < gs.size := (Array.getElem?_eq_some_iff.1 hg).1
  obtain ⟨hrun, z1, hst, hnext⟩ := hs
  have hrT := runT_crowd_comm (sl := sl) hg (show stepG X.P (0 == 0) g w = _ from hst w)
  rw [ofEvents_nil, Array.empty_append] at hrT
  have hmn := I.main
  unfold MainR at hmn
  rw [hσ] at hmn
  by_cases hpk : ∃ h c k v H, h < gs.size ∧ σ h = .lPTell c k v H
  · have hp : partners (gs.setIfInBounds 0 dummyG) X.tb true ≠ [] := by
      obtain ⟨h, c, k, v, H, hlt, e⟩ := hpk
      intro e'
      have := part_of_lPTell (i := 0) I.loc hlt e (by rintro rfl; rw [hσ] at e; cases e)
      rw [e'] at this
      cases this
    obtain ⟨jj, jk, d, hmem, hcomm⟩ := comm_recv_partner (P := X.P) (sl := sl) (i := 0) (g := core g) (sh := .recv false) (z := z1) I.tb hp
    obtain ⟨rfl, hlt, c, k, v, H, hL⟩ := I.tell_at hF hmem
    obtain ⟨i, hi, rfl⟩ := I.at_l hlt (by rw [hL]; rfl)
    have hl0 := (I.lis_pos i).1
    have R := Classical.choice (I.pairs i hi)
    rw [hL] at R
    obtain ⟨e1, e2, e3, e4⟩ := R.lis
    subst c k
    have hgl := I.loc (lisI X i) gs[lisI X i] (Array.getElem?_eq_getElem hi)
    rw [hL] at hgl
    obtain ⟨g₂, y1, hgeq, hok, q, hq⟩ := hgl
    have hoff : offeredValue (gs.setIfInBounds 0 dummyG) (lisI X i) 0 = X.hv i v := by
      rw [offered_ne hl0]
      simp [offeredValue, Array.getElem?_eq_getElem hi, hgeq, parked, scase]
    rw [hoff] at hcomm
    have hin : i < X.n := by have := hmn.1; simp only [lisI] at hi; omega
    have hfi : f i = none := by
      have h4 := hmn.2.2 i hin
      cases hf : f i with
      | none => rfl
      | some sl => rw [hf] at h4; obtain ⟨c, H', q', e⟩ := h4; rw [hL] at e; cases e
    obtain ⟨m', hm'⟩ := (mrecv_iff _ _ _ _ _).1 (hnext i v H hin hfi hok)
    have hget := get_comm2 (P := X.P) (gs := gs) (i := 0) (j := lisI X i) (jk := 0) (v := undef) (g' := (core g).finishComm X.P #[rcase X.tb z1] (.recv false) 0 (X.hv i v) true) h0lt hl0
    have I' := I.told (d := d) (f2 := (core g).frame.fn) (p2 := (core g).frame.place) (f1 := ((gs.setIfInBounds 0 dummyG).getD (lisI X i) default).frame.fn) (p1 := ((gs.setIfInBounds 0 dummyG).getD (lisI X i) default).frame.place) (m' := m') (q := q) (sl := v) hi (.inr ⟨v, hL⟩) (.inl ⟨m, hσ⟩) size_comm2
      (fun h h1 h2 => by rw [hget h, if_neg h2, if_neg h1])
      (fun y hy => by
        rw [hget, if_neg hl0, if_pos rfl, Array.getElem?_eq_getElem hi, hgeq] at hy
        simp only [Option.map_some, parked, Option.some.injEq] at hy
        subst hy
        exact ⟨hq, hok⟩)
      (fun y hy => by
        rw [hget, if_pos rfl, finish_core] at hy
        cases hy
        exact hm')
    refine ⟨_, C, own, j + 1, _, _, sl, _, by rw [hrT, hcomm], I', .inl ?_⟩
    have := alS_two (X := X) (σ := σ) hl0 hi h0lt (.lDone (C i) i v H q) (.mRecv rem m' (setF f i v) Hm)
    rw [hσ, hL] at this
    simp only [GS.al] at this
    rw [size_comm2]
    omega
  · have hnp : partners (gs.setIfInBounds 0 dummyG) X.tb true = [] := partners_nil fun h k hm => by
      obtain ⟨_, hlt, c, k', v, H, e⟩ := I.tell_at hF hm
      exact hpk ⟨h, c, k', v, H, hlt, e⟩
    have hcomm := comm_waits (P := X.P) (sl := sl) (i := 0) (g := core g) (sh := .recv false) (gs := gs.setIfInBounds 0 dummyG) (cs := #[rcase X.tb z1]) (k := rcase X.tb z1) (.inl rfl) rfl I.tb (by simp [ways, rcase, I.tb, hnp])
    have ho : ∀ h, h ≠ 0 → upd σ 0 (.mPark (rem + 1) f Hm) h = σ h := fun h hh => upd_ne _ _ hh
    have hse := upd_same σ 0 (GS.mPark (rem + 1) f Hm)
    have I' : PInv X (upd σ 0 (.mPark (rem + 1) f Hm)) C own j ((gs.setIfInBounds 0 dummyG).setIfInBounds 0 (parked (core g) #[rcase X.tb z1] (.recv false))) w (t ++ #[]) := by
      refine I.comm rfl rfl rfl rfl (.inl rfl) (fun b _ => rfl) size_comm1 (fun h y hy => ?_) (fun h hh p hp => ?_) ?_ (fun h h1 h2 => ?_) (fun h hh => ho h (by omega)) (fun i' => ?_) (fun i' hi' => ?_) I.tb (by simp) (by intro op hop; simp at hop) (by simp) (fun i' hi' hd => ?_) (fun i' hi' hd => ?_) (fun i' hi' hd => ?_)
      · rw [get_comm1 h0lt] at hy
        by_cases h1 : h = 0
        · subst h1
          rw [if_pos rfl] at hy
          cases hy
          rw [hse]
          exact ⟨core g, z1, rem, rfl, rfl, hnext⟩
        · rw [if_neg h1] at hy
          rw [ho h h1]
          exact I.loc h y hy
      · by_cases h1 : h = 0
        · subst h1; rw [hse] at hp; rw [hσ]; exact hp
        · rw [ho h h1] at hp; exact hp
      · unfold MainR
        rw [hse]
        refine ⟨hmn.1, hmn.2.1, fun k hk => ?_, fun x c k v H e => ?_⟩
        · rw [ho _ (I.lis_pos k).1]; exact hmn.2.2 k hk
        · by_cases hx : x = 0
          · subst hx; rw [hse] at e; cases e
          · rw [ho x hx] at e
            rcases Nat.lt_or_ge x gs.size with hlt | hge
            · exact hpk ⟨x, c, k, v, H, hlt, e⟩
            · rw [I.unb x hge] at e; cases e
      · obtain ⟨q', e⟩ := I.old h h1 h2
        exact ⟨q', by rw [ho h (by omega)]; exact e⟩
      · unfold hasC
        rw [hse]
        refine or_congr Iff.rfl ⟨?_, ?_⟩
        · rintro ⟨p, c, m, H', e, _⟩; cases e
        · rintro ⟨p, c, m, H', e, _⟩; rw [hσ] at e; cases e
      · rw [ho _ (I.lis_pos i').1, ho _ (I.lis_pos i').2]; exact I.pairs i' hi'
      · rw [ho _ (I.lis_pos i').2] at hd; exact hd
      · rw [ho _ (I.lis_pos i').1] at hd; exact .inl hd
      · rw [ho _ (I.lis_pos i').1] at hd; exact .inl hd
    refine ⟨_, C, own, j, _, _, sl, _, by rw [hrT, hcomm], I', .inr ⟨?_, ?_⟩⟩
    · rw [size_comm1]
      have := alS_upd (X := X) (σ := σ) h0lt (.mPark (rem + 1) f Hm)
      rw [hσ] at this
      simp only [GS.al] at this
      omega
    · rw [size_comm1]
      have := beS_upd (σ := σ) h0lt (.mPark (rem + 1) f Hm)
      rw [hσ] at this
      simp only [GS.be] at this
      omega
end
end Go.Proofs.Ytofoplpnpfaofaa
