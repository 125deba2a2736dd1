/- What is proved here: the phase's invariant is kept by a listener's receive, by a sender's close. No condition beside the invariant. -/
import Derived.Test.YtofoplpnpfaofaaPhase6
set_option linter.unusedSimpArgs false
set_option linter.unusedVariables false
namespace Go.Proofs.Ytofoplpnpfaofaa
open Go Go.Conc
open Go.ConcN (sumTo upd sumTo_upd upd_ne upd_same)

section
variable {X : Cx} {σ : Nat → GS} {C own : Nat → Nat} {j : Nat} {gs : Array Goroutine} {w w' : World} {t : Trace}

theorem core_core (g : Goroutine) : core (core g) = core g := rfl

theorem first_of {buf : Array Value} (h : 0 < buf.size) : ∃ x l, buf.toList = x :: l := by
  cases e : buf.toList with
  | nil =>
    have := congrArg List.length e
    rw [Array.length_toList] at this
    simp at this
    rw [this] at h
    simp at h
  | cons x l => exact ⟨x, l, rfl⟩

theorem extract_rest {buf : Array Value} {x : Value} {l : List Value} (h : buf.toList = x :: l) : (buf.extract 1 buf.size).toList = l := by
  have hs : buf.size = l.length + 1 := by rw [← Array.length_toList, h]; rfl
  rw [Array.toList_extract, h, hs]
  simp [List.extract]

theorem offered_sPark {h c s : Nat} {H : Hp} {g : Goroutine} (hg : gs[h]? = some g) (hgi : GI X (.sPark c s H) g) : ∃ v, X.vs[s]? = some v ∧ offeredValue gs h 0 = v := by
  obtain ⟨g₂, v, z1, z2, rfl, hv, _⟩ := hgi
  exact ⟨v, hv, by simp [offeredValue, hg, parked, scase]⟩

/-- The listener stands at its receive. -/
theorem recv_falls (I : PInv X σ C own j gs w t) (hF : ∀ f H g, X.Fin f H g → g.status = .running) {sl : Option (Nat × Nat)} {i c k r m : Nat} {H : Hp} {g : Goroutine} (hi : lisI X i < gs.size) (hg : gs[lisI X i]? = some g) (hσ : σ (lisI X i) = .lRun c k r m H)
    (hs : ARecv X c (LNext X c k (X.vs.drop r)) H g) : Falls X σ gs t (runT X.P (crowd gs w sl) (lisI X i)) := by
  obtain ⟨hrun, z1, hst, hnext⟩ := hs
  have R := Classical.choice (I.pairs i hi)
  rw [hσ] at R
  have hls : lisI X i ≠ sndI X i := by simp only [lisI, sndI]; omega
  have hcB := (I.cown i (.inl hi)).1
  have hclt := (I.cown i (.inl hi)).2.2
  obtain ⟨s, r', buf, cl, hchan, ⟨hrs, hsN⟩, hbuf, hroom, hsnd, hlis⟩ := R
  obtain ⟨e1, e2, e3⟩ := hlis
  subst c k r'
  have hrT := runT_crowd_comm (sl := sl) hg (show stepG X.P (lisI X i == 0) g w = _ by rw [show (lisI X i == 0) = false by have := (I.lis_pos i).1; simpa using this]; exact hst w)
  rw [ofEvents_nil, Array.empty_append] at hrT
  have hsize : ∀ y : Goroutine, ((gs.setIfInBounds (lisI X i) dummyG).setIfInBounds (lisI X i) y).size = gs.size := fun y => size_comm1
  have hnodone : (GS.lRun (C i) i r m H).shut = false := rfl
  have hoth1 : ∀ (y : Goroutine) h, h ≠ lisI X i → ((gs.setIfInBounds (lisI X i) dummyG).setIfInBounds (lisI X i) y)[h]? = gs[h]? := fun y h h1 => by rw [get_comm1 hi, if_neg h1]
  have hself1 : ∀ (y : Goroutine), ((gs.setIfInBounds (lisI X i) dummyG).setIfInBounds (lisI X i) y)[lisI X i]? = some y := fun y => by rw [get_comm1 hi, if_pos rfl]
  have hsndGI : ∀ y, gs[sndI X i]? = some y → GI X (σ (sndI X i)) y := fun y hy => I.loc _ y hy
  have hub : gs.size ≤ sndI X i → σ (sndI X i) = σ (sndI X i) := fun _ => rfl
  -- is the sender waiting?
  by_cases hpk : ∃ c' s' Hs, σ (sndI X i) = .sPark c' s' Hs
  · obtain ⟨c', s', Hs, hS⟩ := hpk
    rw [hS] at hsnd
    obtain ⟨e1, e2, rfl, hfull, hsN'⟩ := hsnd
    subst c' s'
    have hslt : sndI X i < gs.size := by
      rcases Nat.lt_or_ge (sndI X i) gs.size with h | h
      · exact h
      · have := I.unb _ h; rw [hS] at this; cases this
    have hgs := I.loc (sndI X i) gs[sndI X i] (Array.getElem?_eq_getElem hslt)
    rw [hS] at hgs
    obtain ⟨v, hv, hoff⟩ := offered_sPark (Array.getElem?_eq_getElem hslt) hgs
    obtain ⟨g₂, v', y1, y2, hgeq, hv', hsn⟩ := hgs
    obtain ⟨m1, hm1⟩ := (sendsH_iff _ _ _ _ _).1 hsn
    have hp : partners (gs.setIfInBounds (lisI X i) dummyG) (C i) true ≠ [] := by
      intro e
      have := part_of_sPark I.loc hslt hS (Ne.symm hls)
      rw [e] at this
      cases this
    by_cases hb : 0 < buf.size
    · obtain ⟨jj, jk, d, hmem, hcomm⟩ := comm_recv_bufp (P := X.P) (sl := sl) (i := lisI X i) (g := core g) (sh := .recv true) (z := z1) hchan hb hp
      obtain ⟨rfl, rfl, _⟩ := I.send_at hF hi hmem
      rw [offered_ne (Ne.symm hls), hoff] at hcomm
      obtain ⟨x, l, hxl⟩ := first_of hb
      rw [hxl] at hbuf
      obtain ⟨rest, hd, hl, hrs'⟩ := take_first hbuf
      have hx0 : buf.getD 0 undef = x := by
        have : buf[0]? = some x := by rw [← Array.getElem?_toList, hxl]; rfl
        simp [Array.getD_eq_getD_getElem?, this]
      have hex : (buf.extract 1 buf.size).toList = l := extract_rest hxl
      rw [hd] at hnext
      obtain ⟨m2, hm2⟩ := (listH_iff _ _ _ _ _ _).1 hnext
      have hget := get_comm2 (P := X.P) (gs := gs) (i := lisI X i) (j := sndI X i) (jk := 0) (v := undef) (g' := (core g).finishComm X.P #[rcase (C i) z1] (.recv true) 0 (buf.getD 0 undef) true) hi (Ne.symm hls)
      have hops : ∀ op ∈ (#[{ g := lisI X i, fn := (core g).frame.fn, pos := (core g).frame.place, act := .recv (C i) r X.room }, { g := lisI X i, fn := (core g).frame.fn, pos := (core g).frame.place, act := .recvDone (C i) r },
          { g := sndI X i, fn := ((gs.setIfInBounds (lisI X i) dummyG).getD (sndI X i) default).frame.fn, pos := ((gs.setIfInBounds (lisI X i) dummyG).getD (sndI X i) default).frame.place, act := .send (C i) s }, { g := sndI X i, fn := ((gs.setIfInBounds (lisI X i) dummyG).getD (sndI X i) default).frame.fn, pos := ((gs.setIfInBounds (lisI X i) dummyG).getD (sndI X i) default).frame.place, act := .sendDone (C i) s }] : Array MemOp), commAct op.act = true ∧ actChan op.act = C i := by
        intro op hop
        simp only [List.mem_toArray, List.mem_cons, List.not_mem_nil, or_false] at hop
        rcases hop with rfl | rfl | rfl | rfl <;> exact ⟨rfl, rfl⟩
      obtain ⟨o1, o2, o3⟩ := comm_ops hops hclt
      have I' := I.pair (w' := (w.at d).setChan (C i) X.room ((buf.extract 1 buf.size).push v) false (s + 1) (r + 1) false) hi (lx := .lRun (C i) i (r + 1) m2 H) (sx := .sRun (C i) (s + 1) m1 Hs) rfl rfl rfl setChan_size (fun b hb => setChan_same hb) size_comm2
        (fun h h1 h2 => by rw [hget h, if_neg h1, if_neg h2])
        (fun y hy => by
          rw [hget, if_pos rfl, finish_core, hx0] at hy
          cases hy
          show LRun X (C i) i (X.vs.drop (r + 1)) m2 H _
          rw [(drop_cons hd).2.1]
          exact hm2)
        (fun y hy => by
          rw [hget, if_neg (Ne.symm hls), if_pos rfl, Array.getElem?_eq_getElem hslt, hgeq] at hy
          simp only [Option.map_some, parked, Option.some.injEq] at hy
          subst hy
          show SRun X (C i) _ m1 Hs (Conc.served g₂ (commResult #[scase (C i) v' y1, rcase X.sb y2] .select 0 undef false))
          rw [res_select]
          exact hm1)
        (fun p hp => by rw [hσ]; exact hp) (fun p hp => by rw [hS]; exact hp)
        ⟨s + 1, r + 1, (buf.extract 1 buf.size).push v, false, setChan_self hclt, ⟨by omega, hsN'⟩, by rw [Array.toList_push, hex, hl, take_more (by omega) hv], by simp; omega, ⟨rfl, rfl, rfl⟩, ⟨rfl, rfl, rfl⟩⟩ rfl (by rw [hσ]; rfl) (fun h => by omega) (by rintro ⟨_, _, e⟩; cases e) (fun e => by cases e) o1 o2 o3
      refine ⟨_, C, own, j, _, _, sl, _, by rw [hrT, hcomm], I', .inl ?_⟩
      have := alS_two (X := X) (σ := σ) hls hi hslt (.lRun (C i) i (r + 1) m2 H) (.sRun (C i) (s + 1) m1 Hs)
      rw [hσ, hS] at this
      simp only [GS.al] at this
      rw [size_comm2]
      have := (drop_cons hd).2.2
      omega
    · have hbe : buf = #[] := by
        have : buf.size = 0 := by omega
        exact Array.eq_empty_of_size_eq_zero this
      subst hbe
      have hsr : s = r := by
        have := congrArg List.length hbuf
        simp at this
        omega
      subst hsr
      obtain ⟨jj, jk, d, hmem, hcomm⟩ := comm_recv_partner (P := X.P) (sl := sl) (i := lisI X i) (g := core g) (sh := .recv true) (z := z1) hchan hp
      obtain ⟨rfl, rfl, _⟩ := I.send_at hF hi hmem
      rw [offered_ne (Ne.symm hls), hoff] at hcomm
      obtain ⟨rest, hd⟩ : ∃ rest, X.vs.drop s = v :: rest := by
        have hlt : s < X.vs.length := hsN'
        rw [List.drop_eq_getElem_cons hlt]
        rw [List.getElem?_eq_getElem hlt] at hv
        exact ⟨_, by rw [Option.some.inj hv]⟩
      rw [hd] at hnext
      obtain ⟨m2, hm2⟩ := (listH_iff _ _ _ _ _ _).1 hnext
      have hget := get_comm2 (P := X.P) (gs := gs) (i := lisI X i) (j := sndI X i) (jk := 0) (v := undef) (g' := (core g).finishComm X.P #[rcase (C i) z1] (.recv true) 0 v true) hi (Ne.symm hls)
      have hops : ∀ op ∈ (#[{ g := sndI X i, fn := ((gs.setIfInBounds (lisI X i) dummyG).getD (sndI X i) default).frame.fn, pos := ((gs.setIfInBounds (lisI X i) dummyG).getD (sndI X i) default).frame.place, act := .send (C i) s }, { g := lisI X i, fn := (core g).frame.fn, pos := (core g).frame.place, act := .recv (C i) s X.room },
          { g := sndI X i, fn := ((gs.setIfInBounds (lisI X i) dummyG).getD (sndI X i) default).frame.fn, pos := ((gs.setIfInBounds (lisI X i) dummyG).getD (sndI X i) default).frame.place, act := .sendDone (C i) s }, { g := lisI X i, fn := (core g).frame.fn, pos := (core g).frame.place, act := .recvDone (C i) s }] : Array MemOp), commAct op.act = true ∧ actChan op.act = C i := by
        intro op hop
        simp only [List.mem_toArray, List.mem_cons, List.not_mem_nil, or_false] at hop
        rcases hop with rfl | rfl | rfl | rfl <;> exact ⟨rfl, rfl⟩
      obtain ⟨o1, o2, o3⟩ := comm_ops hops hclt
      have I' := I.pair (w' := (w.at d).setChan (C i) X.room #[] false (s + 1) (s + 1) false) hi (lx := .lRun (C i) i (s + 1) m2 H) (sx := .sRun (C i) (s + 1) m1 Hs) rfl rfl rfl setChan_size (fun b hb => setChan_same hb) size_comm2
        (fun h h1 h2 => by rw [hget h, if_neg h1, if_neg h2])
        (fun y hy => by
          rw [hget, if_pos rfl, finish_core] at hy
          cases hy
          show LRun X (C i) i (X.vs.drop (s + 1)) m2 H _
          rw [(drop_cons hd).2.1]
          exact hm2)
        (fun y hy => by
          rw [hget, if_neg (Ne.symm hls), if_pos rfl, Array.getElem?_eq_getElem hslt, hgeq] at hy
          simp only [Option.map_some, parked, Option.some.injEq] at hy
          subst hy
          show SRun X (C i) _ m1 Hs (Conc.served g₂ (commResult #[scase (C i) v' y1, rcase X.sb y2] .select 0 undef false))
          rw [res_select]
          exact hm1)
        (fun p hp => by rw [hσ]; exact hp) (fun p hp => by rw [hS]; exact hp)
        ⟨s + 1, s + 1, #[], false, setChan_self hclt, ⟨Nat.le_refl _, hsN'⟩, by simp, by simp, ⟨rfl, rfl, rfl⟩, ⟨rfl, rfl, rfl⟩⟩ rfl (by rw [hσ]; rfl) (fun h => by omega) (by rintro ⟨_, _, e⟩; cases e) (fun e => by cases e) o1 o2 o3
      refine ⟨_, C, own, j, _, _, sl, _, by rw [hrT, hcomm], I', .inl ?_⟩
      have := alS_two (X := X) (σ := σ) hls hi hslt (.lRun (C i) i (s + 1) m2 H) (.sRun (C i) (s + 1) m1 Hs)
      rw [hσ, hS] at this
      simp only [GS.al] at this
      rw [size_comm2]
      omega
  · have hnp : partners (gs.setIfInBounds (lisI X i) dummyG) (C i) true = [] := partners_nil fun h k hm => by
      obtain ⟨rfl, _, c', s', Hs, e⟩ := I.send_at hF hi hm
      exact hpk ⟨c', s', Hs, e⟩
    have hupd : ∀ lx, upd (upd σ (lisI X i) lx) (sndI X i) (σ (sndI X i)) = upd σ (lisI X i) lx := by
      intro lx
      have : σ (sndI X i) = upd σ (lisI X i) lx (sndI X i) := by rw [upd_ne _ _ (Ne.symm hls)]
      rw [this, upd_id]
    by_cases hb : 0 < buf.size
    · obtain ⟨d, hcomm⟩ := comm_recv_buf (P := X.P) (sl := sl) (i := lisI X i) (g := core g) (sh := .recv true) (z := z1) hchan hb hnp
      obtain ⟨x, l, hxl⟩ := first_of hb
      rw [hxl] at hbuf
      obtain ⟨rest, hd, hl, hrs'⟩ := take_first hbuf
      have hx0 : buf.getD 0 undef = x := by
        have : buf[0]? = some x := by rw [← Array.getElem?_toList, hxl]; rfl
        simp [Array.getD_eq_getD_getElem?, this]
      have hex : (buf.extract 1 buf.size).toList = l := extract_rest hxl
      rw [hd] at hnext
      obtain ⟨m2, hm2⟩ := (listH_iff _ _ _ _ _ _).1 hnext
      have hops : ∀ op ∈ (#[{ g := lisI X i, fn := (core g).frame.fn, pos := (core g).frame.place, act := .recv (C i) r X.room }, { g := lisI X i, fn := (core g).frame.fn, pos := (core g).frame.place, act := .recvDone (C i) r }] : Array MemOp), commAct op.act = true ∧ actChan op.act = C i := by
        intro op hop
        simp only [List.mem_toArray, List.mem_cons, List.not_mem_nil, or_false] at hop
        rcases hop with rfl | rfl <;> exact ⟨rfl, rfl⟩
      obtain ⟨o1, o2, o3⟩ := comm_ops hops hclt
      have hsnd' : match σ (sndI X i) with
          | .unborn => s = 0 ∧ cl = false
          | .sRun c' s' _ _ => c' = C i ∧ s' = s ∧ cl = false
          | .sPark c' s' _ => c' = C i ∧ s' = s ∧ cl = false ∧ (buf.extract 1 buf.size).size = X.room ∧ s < X.vs.length
          | .sDone c' _ => c' = C i ∧ s = X.vs.length ∧ cl = true
          | _ => False := by
        cases e : σ (sndI X i) with
        | sPark a b c' => exact absurd ⟨_, _, _, e⟩ hpk
        | _ => rw [e] at hsnd; exact hsnd
      have I' := I.pair (gs' := (gs.setIfInBounds (lisI X i) dummyG).setIfInBounds (lisI X i) ((core g).finishComm X.P #[rcase (C i) z1] (.recv true) 0 (buf.getD 0 undef) true)) (w' := (w.at d).setChan (C i) X.room (buf.extract 1 buf.size) cl s (r + 1) false) hi (lx := .lRun (C i) i (r + 1) m2 H) (sx := σ (sndI X i)) rfl rfl rfl setChan_size (fun b hb => setChan_same hb) (hsize _)
        (fun h h1 h2 => hoth1 _ h h1)
        (fun y hy => by
          rw [hself1, finish_core, hx0] at hy
          cases hy
          show LRun X (C i) i (X.vs.drop (r + 1)) m2 H _
          rw [(drop_cons hd).2.1]
          exact hm2)
        (fun y hy => by rw [hoth1 _ _ (Ne.symm hls)] at hy; exact hsndGI y hy)
        (fun p hp => by rw [hσ]; exact hp) (fun p hp => hp)
        ⟨s, r + 1, buf.extract 1 buf.size, cl, setChan_self hclt, ⟨by omega, hsN⟩, by rw [hex, hl], by simp; omega, hsnd', ⟨rfl, rfl, rfl⟩⟩ rfl (by rw [hσ]; rfl) hub (fun h => h) (fun e => by cases e) o1 o2 o3
      refine ⟨_, C, own, j, _, _, sl, _, by rw [hrT, hcomm], I', .inl ?_⟩
      rw [hupd, hsize]
      have := alS_upd (X := X) (σ := σ) hi (.lRun (C i) i (r + 1) m2 H)
      rw [hσ] at this
      simp only [GS.al] at this
      have := (drop_cons hd).2.2
      omega
    · have hbe : buf = #[] := by
        have : buf.size = 0 := by omega
        exact Array.eq_empty_of_size_eq_zero this
      subst hbe
      cases cl with
      | true =>
        -- the channel is closed
        have hdone : ∃ c' q, σ (sndI X i) = .sDone c' q ∧ s = X.vs.length := by
          cases e : σ (sndI X i) with
          | sDone c' q => rw [e] at hsnd; exact ⟨c', q, rfl, hsnd.2.1⟩
          | unborn => rw [e] at hsnd; cases hsnd.2
          | sRun a b c' d => rw [e] at hsnd; cases hsnd.2.2
          | sPark a b c' => exact absurd ⟨_, _, _, e⟩ hpk
          | _ => rw [e] at hsnd; exact hsnd.elim
        obtain ⟨c', q, hS, rfl⟩ := hdone
        have hrN : r = X.vs.length := by
          have := congrArg List.length hbuf
          simp at this
          omega
        have hslt : sndI X i < gs.size := by
          rcases Nat.lt_or_ge (sndI X i) gs.size with h | h
          · exact h
          · have := I.unb _ h; rw [hS] at this; cases this
        obtain ⟨d, hcomm⟩ := comm_recv_closed (P := X.P) (sl := sl) (i := lisI X i) (g := core g) (sh := .recv true) (z := z1) hchan hnp
        have hdn : X.vs.drop r = [] := List.drop_eq_nil_of_le (by omega)
        rw [hdn] at hnext
        obtain ⟨m2, hm2⟩ := hnext
        have hops : ∀ op ∈ (#[{ g := lisI X i, fn := (core g).frame.fn, pos := (core g).frame.place, act := .recvClosed (C i) }] : Array MemOp), commAct op.act = true ∧ actChan op.act = C i := by
          intro op hop
          simp only [List.mem_toArray, List.mem_cons, List.not_mem_nil, or_false] at hop
          subst hop
          exact ⟨rfl, rfl⟩
        obtain ⟨o1, o2, o3⟩ := comm_ops hops hclt
        have hsnd2 : match σ (sndI X i) with
            | .unborn => X.vs.length = 0 ∧ true = false
            | .sRun c' s' _ _ => c' = C i ∧ s' = X.vs.length ∧ true = false
            | .sPark c' s' _ => c' = C i ∧ s' = X.vs.length ∧ true = false ∧ (#[] : Array Value).size = X.room ∧ X.vs.length < X.vs.length
            | .sDone c' _ => c' = C i ∧ X.vs.length = X.vs.length ∧ true = true
            | _ => False := hsnd
        have I' := I.pair (gs' := (gs.setIfInBounds (lisI X i) dummyG).setIfInBounds (lisI X i) ((core g).finishComm X.P #[rcase (C i) z1] (.recv true) 0 z1 false)) (w' := w.at d) hi (lx := .lTell (C i) i m2 H) (sx := σ (sndI X i)) rfl rfl rfl rfl (fun b hb => rfl) (hsize _)
          (fun h h1 h2 => hoth1 _ h h1)
          (fun y hy => by
            rw [hself1, finish_core] at hy
            cases hy
            exact hm2)
          (fun y hy => by rw [hoth1 _ _ (Ne.symm hls)] at hy; exact hsndGI y hy)
          (fun p hp => by rw [hσ]; exact hp) (fun p hp => hp)
          ⟨X.vs.length, r, #[], true, hchan, ⟨hrs, hsN⟩, hbuf, hroom, hsnd2, ⟨rfl, rfl, hrN, rfl⟩⟩ rfl (by rw [hσ]; rfl) hub (fun h => h)
          (fun _ => .inr ((I.shut i hslt ⟨c', q, hS⟩).recv I.pt.wordless)) o1 o2 o3
        refine ⟨_, C, own, j, _, _, sl, _, by rw [hrT, hcomm], I', .inl ?_⟩
        rw [hupd, hsize]
        have := alS_upd (X := X) (σ := σ) hi (.lTell (C i) i m2 H)
        rw [hσ] at this
        simp only [GS.al] at this
        omega
      | false =>
        -- it waits
        have hways : ways w (gs.setIfInBounds (lisI X i) dummyG) (rcase (C i) z1) = [] := by
          simp [ways, rcase, hchan, hnp]
        have hcomm := comm_waits (P := X.P) (sl := sl) (i := lisI X i) (g := core g) (sh := .recv true) (cs := #[rcase (C i) z1]) (.inl rfl) rfl hchan hways
        have I' := I.pair (gs' := (gs.setIfInBounds (lisI X i) dummyG).setIfInBounds (lisI X i) (parked (core g) #[rcase (C i) z1] (.recv true))) (w' := w) (u := #[]) hi (lx := .lPark (C i) i r H) (sx := σ (sndI X i)) rfl rfl rfl rfl (fun b hb => rfl) (hsize _)
          (fun h h1 h2 => hoth1 _ h h1)
          (fun y hy => by
            rw [hself1] at hy
            cases hy
            exact ⟨core g, z1, rfl, rfl, fun w => by rw [stepG_same (g := core g) (h := g) rfl rfl rfl w]; exact hst w, hnext⟩)
          (fun y hy => by rw [hoth1 _ _ (Ne.symm hls)] at hy; exact hsndGI y hy)
          (fun p hp => by rw [hσ]; exact hp) (fun p hp => hp)
          ⟨s, r, #[], false, hchan, ⟨hrs, hsN⟩, hbuf, hroom, hsnd, ⟨rfl, rfl, rfl, rfl, rfl, fun a b d e => hpk ⟨_, _, _, e⟩⟩⟩ rfl (by rw [hσ]; rfl) hub (fun h => h) (fun e => by cases e) (by simp) (by intro op hop; simp at hop) (by simp)
        refine ⟨_, C, own, j, _, _, sl, _, by rw [hrT, hcomm], I', .inr ⟨?_, ?_⟩⟩
        · rw [hupd, hsize]
          have := alS_upd (X := X) (σ := σ) hi (.lPark (C i) i r H)
          rw [hσ] at this
          simp only [GS.al] at this
          omega
        · rw [hupd, hsize]
          have := beS_upd (σ := σ) hi (.lPark (C i) i r H)
          rw [hσ] at this
          simp only [GS.be] at this
          omega
end
end Go.Proofs.Ytofoplpnpfaofaa
