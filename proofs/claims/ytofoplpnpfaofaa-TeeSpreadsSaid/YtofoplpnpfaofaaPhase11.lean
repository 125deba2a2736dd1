/- What is proved here: on whatever tape the phase comes to where the one that started all has every answer; all others only leave. No condition beside each goroutine's own script. -/
import Derived.Test.YtofoplpnpfaofaaPhase10
set_option linter.unusedSimpArgs false
set_option linter.unusedVariables false
namespace Go.Proofs.Ytofoplpnpfaofaa
open Go Go.Conc
open Go.ConcN (sumTo upd sumTo_upd upd_ne upd_same sumTo_upd_out)

section
variable {X : Cx} {σ : Nat → GS} {C own : Nat → Nat} {j : Nat} {gs : Array Goroutine} {w w' : World} {t : Trace}

theorem PInv.at (I : PInv X σ C own j gs w t) (d : Nat) : PInv X σ C own j gs (w.at d) t :=
  ⟨⟨I.base.size, I.base.tape, I.base.os, I.base.output, I.base.old⟩, I.b0, I.loc, I.main, I.old, fun i hi => ⟨(Classical.choice (I.pairs i hi)).other rfl⟩, I.unb, I.cown, I.cinj, I.tb, I.sb, I.tsb, I.heaps, I.pt, I.shut, I.kl, I.km⟩

/-- All is told. -/
def AtFin (X : Cx) (σ : Nat → GS) (gs : Array Goroutine) : Prop := ∃ m f Hm g, σ 0 = .mRecv 0 m f Hm ∧ gs[0]? = some g ∧ X.Fin f Hm g

theorem cntN_pos {f : Nat → Option Value} {n : Nat} (h : 0 < cntN f n) : ∃ k, k < n ∧ f k = none := by
  refine Classical.byContradiction fun hx => ?_
  have : ∀ k, k < n → (if (f k).isNone then 1 else 0) = 0 := by
    intro k hk
    cases hf : f k with
    | none => exact absurd ⟨k, hk, hf⟩ hx
    | some v => rfl
  have h2 : cntN f n = sumTo n fun _ => 0 := Go.ConcN.sumTo_congr this
  have h3 : ∀ m, sumTo m (fun _ => 0) = 0 := by
    intro m
    induction m with
    | zero => rfl
    | succ m ih => show sumTo m _ + 0 = 0; rw [ih]
  rw [h2, h3] at h
  omega

theorem cntN_zero {f : Nat → Option Value} {n : Nat} (h : 0 = cntN f n) {k : Nat} (hk : k < n) : ∃ v, f k = some v := by
  cases hf : f k with
  | some v => exact ⟨v, rfl⟩
  | none =>
    have := Go.ConcN.le_sumTo (f := fun k => if (f k).isNone then 1 else 0) hk
    simp only [hf] at this
    unfold cntN at h
    rw [← h] at this
    simp at this

theorem PairR.doneS {c k c' q : Nat} {l s : GS} (h : PairR X w c k l s) (hs : s = .sDone c' q) : h.cl = true := by
  subst hs
  exact h.snd.2.2

theorem PInv.gi (I : PInv X σ C own j gs w t) {h : Nat} (hlt : h < gs.size) : GI X (σ h) gs[h] := I.loc h _ (Array.getElem?_eq_getElem hlt)

theorem PInv.some_runs (I : PInv X σ C own j gs w t) (hF : ∀ f H g, X.Fin f H g → g.status = .running) : ∃ (i : Nat) (g : Goroutine), gs[i]? = some g ∧ g.status = .running := by
  refine Classical.byContradiction fun hno => ?_
  have hall : ∀ h, (hlt : h < gs.size) → gs[h].status ≠ .running := fun h hlt e => hno ⟨h, _, Array.getElem?_eq_getElem hlt, e⟩
  have h0lt : 0 < gs.size := by have := I.b0; omega
  have hmn := I.main
  have hg0 := I.gi h0lt
  have hr0 := hall 0 h0lt
  have hpk : ∃ rem f H, σ 0 = .mPark rem f H := by
    rcases I.isM with ⟨p, m, H, e⟩ | ⟨p, c, m, H, e⟩ | ⟨p, c, m, H, e⟩ | ⟨rem, m, f, H, e⟩ | ⟨rem, f, H, e⟩
    · rw [e] at hg0; exact absurd (GH.running (fun _ _ h => h.1) hg0.2) hr0
    · rw [e] at hg0; exact absurd (GH.running (fun _ _ h => h.1) hg0.2) hr0
    · rw [e] at hg0; exact absurd (GH.running (fun _ _ h => h.1) hg0.2) hr0
    · rw [e] at hg0; exact absurd (mrun_running hF hg0) hr0
    · exact ⟨rem, f, H, e⟩
  obtain ⟨rem, f, H, e0⟩ := hpk
  rw [e0] at hg0
  obtain ⟨g₂, z1, rem', rfl, _⟩ := hg0
  unfold MainR at hmn
  rw [e0] at hmn
  obtain ⟨hsz, hrem, hdn, hnt⟩ := hmn
  obtain ⟨k, hk, hf⟩ := cntN_pos (f := f) (n := X.n) (by omega)
  have hl : lisI X k < gs.size := by simp only [lisI]; omega
  have hs : sndI X k < gs.size := by simp only [sndI]; omega
  have hnd := hdn k hk
  rw [hf] at hnd
  have R := Classical.choice (I.pairs k hl)
  have gl := I.gi hl
  have rl := hall _ hl
  have gs' := I.gi hs
  have rs := hall _ hs
  cases el : σ (lisI X k) with
  | lRun c k' r m H => rw [el] at gl; exact rl (GH.running (fun _ _ h => h.1) gl)
  | lPark c k' r H =>
    rw [el] at R
    obtain ⟨_, _, _, _, hcl, hns⟩ := R.lis
    have h7 := R.snd
    cases es : σ (sndI X k) with
    | unborn => rw [es] at gs'; exact gs'
    | sRun c s m H => rw [es] at gs'; exact rs (srun_running gs')
    | sPark c s H => exact hns _ _ _ es
    | sDone c q =>
      have := R.doneS es
      rw [hcl] at this; cases this
    | _ => have := I.isS hl; rw [es] at this; cases this
  | lTell c k' m H => rw [el] at gl; exact rl (GH.running (fun _ _ h => h.1) gl)
  | lPTell c k' sl H => exact hnt _ _ _ _ _ el
  | lDone c k' sl H q => exact hnd _ _ _ _ _ el
  | _ => have := I.isL hl; rw [el] at this; cases this

/-- One step of the phase. -/
theorem phase_step (I : PInv X σ C own j gs w t) (hF : ∀ f H g, X.Fin f H g → g.status = .running) (hB : ∀ p c, p < X.n → X.B0 ≤ c → ListH X c p X.vs [] (born X.P (X.lisF p c))) (hS : ∀ c, X.B0 ≤ c → SendsH X c X.vs [] (born X.P (X.sndF c))) (sl : Option (Nat × Nat)) (hn : ¬ AtFin X σ gs) :
    Falls X σ gs t (stepT X.P (crowd gs w sl)) := by
  have haw : ∀ g ∈ gs, awake g := by
    intro g hg
    obtain ⟨i, hi, rfl⟩ := Array.mem_iff_getElem.1 hg
    exact gi_awake hF (I.gi hi)
  obtain ⟨i, g, d, sl', hi, hrun, hst⟩ := crowd_pick (P := X.P) (w := w) (sl := sl) haw (I.some_runs hF)
  rw [hst]
  have J := I.at d
  have hlt : i < gs.size := (Array.getElem?_eq_some_iff.1 hi).1
  have hgi := J.loc i g hi
  have hhas : Has (σ i).hp (w.at d) := fun p hp => (J.heaps i hlt p hp).1
  have hpos : ∀ k, (lisI X k == 0) = false ∧ (sndI X k == 0) = false := fun k => ⟨by simpa using (I.lis_pos k).1, by simp⟩
  rcases J.who hlt with rfl | ⟨h1, h2⟩ | ⟨k, hk, rfl | rfl⟩
  · rcases J.isM with ⟨p, m, H, e⟩ | ⟨p, c, m, H, e⟩ | ⟨p, c, m, H, e⟩ | ⟨rem, m, f, H, e⟩ | ⟨rem, f, H, e⟩
    · rw [e] at hgi hhas
      obtain ⟨hpn, hgh⟩ := hgi
      rcases hgh.cases with hs | ⟨m', rfl, _, hs⟩
      · exact make_falls J hF hi e hpn hs
      · obtain ⟨g', H', w', es, a1, a2, a3⟩ := hs _ J.base hhas
        exact own_falls (m := 0) (m' := m') J hF hi (by rw [e]; rfl) (by rw [e]; rfl) a1 (by rw [e]; exact a2) (by rw [e]; exact ⟨hpn, a3⟩)
    · rw [e] at hgi hhas
      obtain ⟨hpn, hgh⟩ := hgi
      rcases hgh.cases with hs | ⟨m', rfl, _, hs⟩
      · exact golis_falls J hF hB hi e hpn hs
      · obtain ⟨g', H', w', es, a1, a2, a3⟩ := hs _ J.base hhas
        exact own_falls (m := 0) (m' := m') J hF hi (by rw [e]; rfl) (by rw [e]; rfl) a1 (by rw [e]; exact a2) (by rw [e]; exact ⟨hpn, a3⟩)
    · rw [e] at hgi hhas
      obtain ⟨hpn, hgh⟩ := hgi
      rcases hgh.cases with hs | ⟨m', rfl, _, hs⟩
      · exact gosnd_falls J hF hS hi e hpn hs
      · obtain ⟨g', H', w', es, a1, a2, a3⟩ := hs _ J.base hhas
        exact own_falls (m := 0) (m' := m') J hF hi (by rw [e]; rfl) (by rw [e]; rfl) a1 (by rw [e]; exact a2) (by rw [e]; exact ⟨hpn, a3⟩)
    · rw [e] at hgi hhas
      cases rem with
      | zero =>
        rcases GH.cases (show GH X true (X.Fin f) m H g from hgi) with hs | ⟨m', rfl, _, hs⟩
        · exact absurd ⟨m, f, H, g, e, hi, hs⟩ hn
        · obtain ⟨g', H', w', es, a1, a2, a3⟩ := hs _ J.base hhas
          exact own_falls (m := 0) (m' := m') J hF hi (by rw [e]; rfl) (by rw [e]; rfl) a1 (by rw [e]; exact a2) (by rw [e]; exact a3)
      | succ rem =>
        rcases GH.cases (show GH X true (ARecvT X f (MRecv X rem)) m H g from hgi) with hs | ⟨m', rfl, _, hs⟩
        · exact recvT_falls J hF hi e hs
        · obtain ⟨g', H', w', es, a1, a2, a3⟩ := hs _ J.base hhas
          exact own_falls (m := 0) (m' := m') J hF hi (by rw [e]; rfl) (by rw [e]; rfl) a1 (by rw [e]; exact a2) (by rw [e]; exact a3)
    · rw [e] at hgi
      obtain ⟨g₂, z1, r', _, rfl, _⟩ := hgi
      cases hrun
  · obtain ⟨q, e⟩ := J.old i h1 h2
    exact quit_falls J hF hi (by rw [e]; rfl) hrun
  · cases e : σ (lisI X k) with
    | lRun c k' r m H =>
      rw [e] at hgi hhas
      rcases GH.cases (show GH X false (ARecv X c (LNext X c k' (X.vs.drop r))) m H g from hgi) with hs | ⟨m', rfl, _, hs⟩
      · exact recv_falls J hF hk hi e hs
      · obtain ⟨g', H', w', es, a1, a2, a3⟩ := hs _ J.base hhas
        exact own_falls (m := 0) (m' := m') J hF hi (by rw [e]; rfl) (by rw [e]; rfl) (by rw [(hpos k).1]; exact a1) (by rw [e]; exact a2) (by rw [e]; exact a3)
    | lPark c k' r H =>
      rw [e] at hgi
      obtain ⟨g₂, z1, rfl, _⟩ := hgi
      cases hrun
    | lTell c k' m H =>
      rw [e] at hgi hhas
      rcases GH.cases (show GH X false (ATell X k') m H g from hgi) with hs | ⟨m', rfl, _, hs⟩
      · exact tell_falls J hF hk hi e hs
      · obtain ⟨g', H', w', es, a1, a2, a3⟩ := hs _ J.base hhas
        exact own_falls (m := 0) (m' := m') J hF hi (by rw [e]; rfl) (by rw [e]; rfl) (by rw [(hpos k).1]; exact a1) (by rw [e]; exact a2) (by rw [e]; exact a3)
    | lPTell c k' sl H =>
      rw [e] at hgi
      obtain ⟨g₂, z1, rfl, _⟩ := hgi
      cases hrun
    | lDone c k' sl H q => exact quit_falls J hF hi (by rw [e]; rfl) hrun
    | _ => have := J.isL hk; rw [e] at this; cases this
  · cases e : σ (sndI X k) with
    | unborn => rw [e] at hgi; exact hgi.elim
    | sRun c s m H =>
      rw [e] at hgi hhas
      have hgi' : SRun X c (X.vs.drop s) m H g := hgi
      cases hd : X.vs.drop s with
      | nil =>
        rw [hd] at hgi'
        rcases GH.cases (show GH X false (AClose X c) m H g from hgi') with hs | ⟨m', rfl, _, hs⟩
        · exact close_falls J hF hk hi e hd hs
        · obtain ⟨g', H', w', es, a1, a2, a3⟩ := hs _ J.base hhas
          exact own_falls (m := 0) (m' := m') J hF hi (by rw [e]; rfl) (by rw [e]; rfl) (by rw [(hpos k).2]; exact a1) (by rw [e]; exact a2) (by rw [e]; show SRun X c (X.vs.drop s) m' H' g'; rw [hd]; exact a3)
      | cons v rest =>
        rw [hd] at hgi'
        rcases GH.cases (show GH X false (ASel X c v (SendsH X c rest)) m H g from hgi') with hs | ⟨m', rfl, _, hs⟩
        · exact select_falls J hF hk hi e hd hs
        · obtain ⟨g', H', w', es, a1, a2, a3⟩ := hs _ J.base hhas
          exact own_falls (m := 0) (m' := m') J hF hi (by rw [e]; rfl) (by rw [e]; rfl) (by rw [(hpos k).2]; exact a1) (by rw [e]; exact a2) (by rw [e]; show SRun X c (X.vs.drop s) m' H' g'; rw [hd]; exact a3)
    | sPark c s H =>
      rw [e] at hgi
      obtain ⟨g₂, v, z1, z2, rfl, _⟩ := hgi
      cases hrun
    | sDone c q => exact quit_falls J hF hi (by rw [e]; rfl) hrun
    | _ => have := J.isS hk; rw [e] at this; cases this

/-- The phase's run. -/
theorem phase_run (hF : ∀ f H g, X.Fin f H g → g.status = .running) (hB : ∀ p c, p < X.n → X.B0 ≤ c → ListH X c p X.vs [] (born X.P (X.lisF p c))) (hS : ∀ c, X.B0 ≤ c → SendsH X c X.vs [] (born X.P (X.sndF c))) :
    ∀ (a b : Nat) {σ : Nat → GS} {C own : Nat → Nat} {j : Nat} {gs : Array Goroutine} {w : World} {sl : Option (Nat × Nat)} {t : Trace}, PInv X σ C own j gs w t → alS X σ gs.size = a → beS σ gs.size = b →
      ∃ N σ' C' own' j' gs' w' sl' t', runNT X.P N (crowd gs w sl) t = (.next (crowd gs' w' sl'), t') ∧ PInv X σ' C' own' j' gs' w' t' ∧ AtFin X σ' gs' := by
  intro a
  induction a using Nat.strongRecOn with
  | ind a iha =>
    intro b
    induction b using Nat.strongRecOn with
    | ind b ihb =>
      intro σ C own j gs w sl t I ha hb
      by_cases hn : AtFin X σ gs
      · exact ⟨0, σ, C, own, j, gs, w, sl, t, rfl, I, hn⟩
      · obtain ⟨σ', C', own', j', gs', w', sl', ops, e, I', hf⟩ := phase_step I hF hB hS sl hn
        have : ∃ N σ2 C2 own2 j2 gs2 w2 sl2 t2, runNT X.P N (crowd gs' w' sl') (t ++ ops) = (.next (crowd gs2 w2 sl2), t2) ∧ PInv X σ2 C2 own2 j2 gs2 w2 t2 ∧ AtFin X σ2 gs2 := by
          rcases hf with h | ⟨h, h'⟩
          · exact iha _ (by omega) _ I' rfl rfl
          · exact ihb _ (by omega) I' (by omega) rfl
        obtain ⟨N, σ2, C2, own2, j2, gs2, w2, sl2, t2, h1, h2, h3⟩ := this
        refine ⟨N + 1, σ2, C2, own2, j2, gs2, w2, sl2, t2, ?_, h2, h3⟩
        simp only [runNT, e]
        exact h1

/-- Where the phase has come to its end. -/
structure Ended (X : Cx) (gs : Array Goroutine) (w : World) (t : Trace) : Prop where
  past : Past0 w.heap.size t
  lv : ∃ q, LV X.P gs q
  base : Bs X w
  fin : ∃ (f : Nat → Option Value) (Hm : Hp) (g : Goroutine) (own : Nat → Nat), gs[0]? = some g ∧ X.Fin f Hm g ∧ (∀ p ∈ Hm, w.heap[p.1]? = some p.2 ∧ X.B0 ≤ p.1 ∧ own p.1 = 0) ∧ ∀ k, k < X.n → ∃ v H, f k = some v ∧ X.ok k v H ∧ ∀ p ∈ H, w.heap[p.1]? = some p.2 ∧ X.B0 ≤ p.1 ∧ own p.1 = lisI X k
  tb : ∃ j, w.heap[X.tb]? = some (.chan 0 #[] false j j false)
  sb : ∃ cap x y tm, w.heap[X.sb]? = some (.chan cap #[] false x y tm)

theorem PInv.ended (I : PInv X σ C own j gs w t) (h : AtFin X σ gs) : Ended X gs w t := by
  obtain ⟨m, f, Hm, g, e0, hg, hfin⟩ := h
  have hmn := I.main
  unfold MainR at hmn
  rw [e0] at hmn
  obtain ⟨hsz, hrem, hdn⟩ := hmn
  have h0lt : 0 < gs.size := by have := I.b0; omega
  have hL : ∀ k, k < X.n → ∃ sl c H q, f k = some sl ∧ σ (lisI X k) = .lDone c k sl H q := by
    intro k hk
    obtain ⟨v, hv⟩ := cntN_zero hrem hk
    have := hdn k hk
    rw [hv] at this
    obtain ⟨c, H, q, e⟩ := this
    exact ⟨v, c, H, q, hv, e⟩
  have hlt : ∀ k, k < X.n → lisI X k < gs.size ∧ sndI X k < gs.size := fun k hk => by simp only [lisI, sndI]; omega
  have hS : ∀ k, k < X.n → ∃ c q, σ (sndI X k) = .sDone c q := by
    intro k hk
    obtain ⟨sl, c, H, q, _, e⟩ := hL k hk
    exact (Classical.choice (I.pairs k (hlt k hk).1)).done (by rw [e]; rfl)
  have hkn : ∀ i, lisI X i < gs.size → i < X.n := fun i hi => by simp only [lisI] at hi; omega
  refine ⟨I.pt.past fun x h1 h2 => ?_, ⟨fun x => (σ x).be, fun x y hx hy => ?_⟩, I.base, ⟨f, Hm, g, own, hg, hfin, fun p hp => I.heaps 0 h0lt p (by rw [e0]; exact hp), fun k hk => ?_⟩, ⟨j, I.tb⟩, I.sb⟩
  · rcases I.who h2 with rfl | ⟨h3, h4⟩ | ⟨i, hi, rfl | rfl⟩
    · have := I.b0; omega
    · omega
    · obtain ⟨sl, c, H, q, _, e⟩ := hL i (hkn i hi)
      exact (I.km i hi ⟨_, _, _, _, _, e⟩).1
    · obtain ⟨sl, c, H, q, _, e⟩ := hL i (hkn i hi)
      exact (I.km i hi ⟨_, _, _, _, _, e⟩).2
  · have hxlt : x < gs.size := (Array.getElem?_eq_some_iff.1 hy).1
    have hgi := I.loc x y hy
    rcases I.who hxlt with rfl | ⟨h3, h4⟩ | ⟨i, hi, rfl | rfl⟩
    · omega
    · obtain ⟨q, e⟩ := I.old x h3 h4
      show QuitsIn X.P (σ x).be y
      rw [e] at hgi ⊢; exact hgi
    · obtain ⟨sl, c, H, q, _, e⟩ := hL i (hkn i hi)
      show QuitsIn X.P (σ _).be y
      rw [e] at hgi ⊢; exact hgi.1
    · obtain ⟨c, q, e⟩ := hS i (hkn i hi)
      show QuitsIn X.P (σ _).be y
      rw [e] at hgi ⊢; exact hgi
  · obtain ⟨sl, c, H, q, hf, e⟩ := hL k hk
    have hgi := I.gi (hlt k hk).1
    rw [e] at hgi
    exact ⟨sl, H, hf, hgi.2, fun p hp => I.heaps _ (hlt k hk).1 p (by rw [e]; exact hp)⟩

/-- ████ The phase, from its start to its end. ████ -/
theorem phase {g : Goroutine} {Hm : Hp} {q : Nat → Nat} {sl : Option (Nat × Nat)} (hF : ∀ f H g, X.Fin f H g → g.status = .running) (hB : ∀ p c, p < X.n → X.B0 ≤ c → ListH X c p X.vs [] (born X.P (X.lisF p c))) (hS : ∀ c, X.B0 ≤ c → SendsH X c X.vs [] (born X.P (X.sndF c)))
    (h0 : gs[0]? = some g) (hLV : LV X.P gs q) (hpast : Past0 w.heap.size t) (hb : X.b0 = gs.size) (hT : X.T0 = t.size) (hB0 : X.B0 ≤ w.heap.size) (hw0 : X.w0 = w) (htb : w.heap[X.tb]? = some (.chan 0 #[] false 0 0 false)) (hsb : ∃ cap x y tm, w.heap[X.sb]? = some (.chan cap #[] false x y tm)) (hts : X.tb < X.B0 ∧ X.sb < X.B0 ∧ X.tb ≠ X.sb)
    (hHm : ∀ p ∈ Hm, w.heap[p.1]? = some p.2 ∧ X.B0 ≤ p.1) (hn : 0 < X.n) (hM : MSpawn X 0 X.n Hm g) :
    ∃ N gs' w' sl' t', runNT X.P N (crowd gs w sl) t = (.next (crowd gs' w' sl'), t') ∧ Ended X gs' w' t' := by
  have h0lt : 0 < gs.size := (Array.getElem?_eq_some_iff.1 h0).1
  obtain ⟨n, hn'⟩ : ∃ n, X.n = n + 1 := ⟨X.n - 1, by omega⟩
  obtain ⟨m, hm⟩ : ∃ m, GH X true (AMake X fun c H g => ∃ m, GH X true (AGo X (X.lisF 0 c) fun H g => ∃ m, GH X true (AGo X (X.sndF c) (MSpawn X (0 + 1) (X.n - (0 + 1)))) m H g) m H g) m Hm g := by
    have := hM
    rw [show MSpawn X 0 X.n Hm g = MSpawn X 0 (n + 1) Hm g by rw [hn']] at this
    rw [show X.n - (0 + 1) = n by omega]
    exact this
  let σ : Nat → GS := fun x => if x = 0 then .mSpawn 0 m Hm else if x < gs.size then .quit (q x) else .unborn
  have I : PInv X σ (fun _ => 0) (fun _ => 0) 0 gs w t := by
    have hnone : ∀ i, ¬ lisI X i < gs.size := fun i => by simp only [lisI]; omega
    have hs : ∀ i, ¬ sndI X i < gs.size := fun i => by simp only [sndI]; omega
    have hno : ∀ i, ¬ hasC X σ gs.size i := by
      rintro i (h | ⟨p, c, m, H, e, _⟩)
      · exact hnone i h
      · simp [σ] at e
    refine ⟨⟨hB0, by rw [hw0], by rw [hw0], by rw [hw0], fun b _ _ _ => by rw [hw0]⟩, ⟨by omega, by omega⟩, fun h y hy => ?_, ?_, fun h h1 h2 => ⟨q h, by simp only [σ]; rw [if_neg (by omega), if_pos (by omega)]⟩, fun i hi => absurd hi (hnone i), fun h hh => by simp only [σ]; rw [if_neg (by omega), if_neg (by omega)], fun i hi => absurd hi (hno i), fun i i' hi => absurd hi (hno i), htb, hsb, hts, fun h hh p hp => ?_, ?_, fun i hi => absurd hi (hs i), fun i hi => absurd hi (hnone i), fun i hi => absurd hi (hnone i)⟩
    · by_cases hx : h = 0
      · subst hx
        rw [h0] at hy
        cases hy
        exact ⟨hn, hm⟩
      · have hlt : h < gs.size := (Array.getElem?_eq_some_iff.1 hy).1
        simp only [σ]
        rw [if_neg hx, if_pos hlt]
        exact hLV h y (by omega) hy
    · refine ⟨by omega, fun x c k sl H q' e => ?_⟩
      simp only [σ] at e
      split at e
      · cases e
      · split at e <;> cases e
    · by_cases hx : h = 0
      · subst hx
        obtain ⟨h1, h2⟩ := hHm p hp
        exact ⟨h1, h2, rfl⟩
      · simp only [σ] at hp
        rw [if_neg hx, if_pos hh] at hp
        simp [GS.hp] at hp
    · rw [hT]
      exact pt_start X.b0 _ hpast (by omega)
  obtain ⟨N, σ', C', own', j', gs', w', sl', t', h1, h2, h3⟩ := phase_run hF hB hS _ _ (sl := sl) I rfl rfl
  exact ⟨N, gs', w', sl', t', h1, h2.ended h3⟩
end
end Go.Proofs.Ytofoplpnpfaofaa
