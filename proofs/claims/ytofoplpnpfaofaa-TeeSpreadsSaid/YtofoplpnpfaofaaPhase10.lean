/- What is proved here: the phase's invariant is kept as the one that starts all makes a channel. No condition beside the invariant. -/
import Derived.Test.YtofoplpnpfaofaaPhase9
set_option linter.unusedSimpArgs false
set_option linter.unusedVariables false
namespace Go.Proofs.Ytofoplpnpfaofaa
open Go Go.Conc
open Go.ConcN (sumTo upd sumTo_upd upd_ne upd_same sumTo_upd_out)

section
variable {X : Cx} {σ : Nat → GS} {C own : Nat → Nat} {j : Nat} {gs : Array Goroutine} {w w' : World} {t : Trace}

theorem alloc_old {w : World} {o : Obj} {b : Nat} (h : b < w.heap.size) : (w.alloc o).heap[b]? = w.heap[b]? := by
  show (w.heap.push o)[b]? = _
  rw [Array.getElem?_push_lt h, Array.getElem?_eq_getElem h]
theorem alloc_new {w : World} {o : Obj} : (w.alloc o).heap[w.heap.size]? = some o := by
  show (w.heap.push o)[w.heap.size]? = _
  simp
theorem alloc_size {w : World} {o : Obj} : (w.alloc o).heap.size = w.heap.size + 1 := by
  show (w.heap.push o).size = _
  simp

theorem make_falls (I : PInv X σ C own j gs w t) (hF : ∀ f H g, X.Fin f H g → g.status = .running) {sl : Option (Nat × Nat)} {p m : Nat} {Hm : Hp} {g : Goroutine} (hg : gs[0]? = some g) (hσ : σ 0 = .mSpawn p m Hm) (hpn : p < X.n)
    (hs : AMake X (fun c H g => ∃ m, GH X true (AGo X (X.lisF p c) fun H g => ∃ m, GH X true (AGo X (X.sndF c) (MSpawn X (p + 1) (X.n - (p + 1)))) m H g) m H g) Hm g) : Falls X σ gs t (runT X.P (crowd gs w sl) 0) := by
  have h0lt : 0 < gs.size := (Array.getElem?_eq_some_iff.1 hg).1
  obtain ⟨hrun, g', hst, hnext⟩ := hs
  have hmn := I.main
  unfold MainR at hmn
  rw [hσ] at hmn
  simp only at hmn
  have hB : X.B0 ≤ w.heap.size := I.base.size
  obtain ⟨m', hm'⟩ := hnext w.heap.size hB
  have hrT := runT_crowd_go (sl := sl) hg (show stepG X.P (0 == 0) g w = _ from hst w)
  have hsame : ∀ b, chanBlock X σ C gs.size b → (w.alloc (.chan X.room #[] false 0 0 false)).heap[b]? = w.heap[b]? := fun b hb => alloc_old (I.chan_lt hb)
  have hget : ∀ k, ((gs.map (Conc.woken X.P g (g' w.heap.size) (w.alloc (.chan X.room #[] false 0 0 false)))).setIfInBounds 0 (g' w.heap.size))[k]? = if k = 0 then some (g' w.heap.size) else gs[k]? := by
    intro k
    by_cases hk : k = 0
    · subst hk
      rw [if_pos rfl, Array.getElem?_setIfInBounds_self_of_lt (by simpa using h0lt)]
    · rw [if_neg hk, Array.getElem?_setIfInBounds_ne (Ne.symm hk), Array.getElem?_map]
      cases hgk : gs[k]? with
      | none => rfl
      | some y => simp only [Option.map_some]; rw [I.woken hF hsame hgk]
  have hsz : ((gs.map (Conc.woken X.P g (g' w.heap.size) (w.alloc (.chan X.room #[] false 0 0 false)))).setIfInBounds 0 (g' w.heap.size)).size = gs.size := by simp
  have ho : ∀ h, h ≠ 0 → upd σ 0 (.mMade p w.heap.size m' Hm) h = σ h := fun h hh => upd_ne _ _ hh
  have hse := upd_same σ 0 (GS.mMade p w.heap.size m' Hm)
  have hip : ∀ i, lisI X i < gs.size → i < p := fun i hi => by simp only [lisI] at hi; omega
  have hC : ∀ i, lisI X i < gs.size → upd C p w.heap.size i = C i := fun i hi => upd_ne _ _ (by have := hip i hi; omega)
  have hown : ∀ b, b < w.heap.size → upd own w.heap.size (X.b0 + 2 * X.n + 5) b = own b := fun b hb => upd_ne _ _ (by omega)
  have hhas : ∀ i, hasC X (upd σ 0 (.mMade p w.heap.size m' Hm)) gs.size i → lisI X i < gs.size ∨ i = p := by
    rintro i (h | ⟨p', c, m, H, e, rfl⟩)
    · exact .inl h
    · rw [hse] at e; cases e; exact .inr rfl
  have I' : PInv X (upd σ 0 (.mMade p w.heap.size m' Hm)) (upd C p w.heap.size) (upd own w.heap.size (X.b0 + 2 * X.n + 5)) j ((gs.map (Conc.woken X.P g (g' w.heap.size) (w.alloc (.chan X.room #[] false 0 0 false)))).setIfInBounds 0 (g' w.heap.size)) (w.alloc (.chan X.room #[] false 0 0 false)) (t ++ #[]) := by
    refine ⟨⟨by rw [alloc_size]; omega, I.base.tape, I.base.os, I.base.output, fun b hb h1 h2 => ?_⟩, ⟨I.b0.1, by rw [hsz]; exact I.b0.2⟩, fun k y hy => ?_, ?_, fun k h1 h2 => ?_, fun i hi => ?_, fun k hk => ?_, fun i hi => ?_, fun i i' hi hi' e => ?_, (hsame _ (.inl rfl)).trans I.tb, ?_, I.tsb, fun k hk p hp => ?_, ?_, fun i hi hs => ?_, fun i hi hs => ?_, fun i hi hs => ?_⟩
    · rw [alloc_old (Nat.lt_of_lt_of_le hb hB)]
      exact I.base.old b hb h1 h2
    · rw [hget] at hy
      by_cases hk : k = 0
      · subst hk
        rw [if_pos rfl] at hy
        cases hy
        rw [hse]
        exact ⟨hpn, hm'⟩
      · rw [if_neg hk] at hy
        rw [ho k hk]
        exact I.loc k y hy
    · unfold MainR
      rw [hse, hsz]
      refine ⟨hmn.1, upd_same .., alloc_new, fun x c k sl H q e => ?_⟩
      by_cases hx : x = 0
      · subst hx; rw [hse] at e; cases e
      · rw [ho x hx] at e; exact hmn.2 _ _ _ _ _ _ e
    · obtain ⟨q, e⟩ := I.old k h1 h2
      exact ⟨q, by rw [ho k (by omega)]; exact e⟩
    · rw [hsz] at hi
      rw [ho _ (I.lis_pos i).1, ho _ (I.lis_pos i).2, hC i hi]
      exact ⟨(Classical.choice (I.pairs i hi)).other (hsame _ (.inr (.inr ⟨i, .inl hi, rfl⟩)))⟩
    · rw [hsz] at hk
      rw [ho k (by omega)]
      exact I.unb k hk
    · rw [hsz] at hi
      rcases hhas i hi with h | rfl
      · obtain ⟨h1, h2, h3⟩ := I.cown i (.inl h)
        rw [hC i h, hown _ h3, alloc_size]
        exact ⟨h1, h2, by omega⟩
      · rw [upd_same, upd_same, alloc_size]
        exact ⟨hB, rfl, by omega⟩
    · rw [hsz] at hi hi'
      rcases hhas i hi with h | rfl
      · have h3 := (I.cown i (.inl h)).2.2
        rw [hC i h] at e
        rcases hhas i' hi' with h' | rfl
        · rw [hC i' h'] at e; exact I.cinj i i' (.inl h) (.inl h') e
        · rw [upd_same] at e; omega
      · rcases hhas i' hi' with h' | rfl
        · have h3 := (I.cown i' (.inl h')).2.2
          rw [upd_same, hC i' h'] at e; omega
        · rfl
    · obtain ⟨cap, x, y, tm, e⟩ := I.sb
      exact ⟨cap, x, y, tm, (hsame _ (.inr (.inl rfl))).trans e⟩
    · rw [hsz] at hk
      have hp' : p ∈ (σ k).hp := by
        by_cases h1 : k = 0
        · subst h1; rw [hse] at hp; rw [hσ]; exact hp
        · rw [ho k h1] at hp; exact hp
      obtain ⟨h1, h2, h3⟩ := I.heaps k hk p hp'
      have hl := lt_of_heap h1
      exact ⟨by rw [alloc_old hl]; exact h1, h2, by rw [hown _ hl]; exact h3⟩
    · rw [hsz, alloc_size]
      exact I.pt.own_app (g := 0) (Nat.le_succ _) hown (.inl rfl) (by simp) (by intro op hop; simp at hop) (by simp) (by simp)
    · rw [hsz] at hi
      have hlt : lisI X i < gs.size := by simp only [lisI, sndI] at *; omega
      rw [ho _ (I.lis_pos i).2] at hs
      rw [hC i hlt]
      exact (I.shut i hi hs).app (by simp)
    · rw [hsz] at hi
      rw [ho _ (I.lis_pos i).1] at hs
      exact (I.kl i hi hs).app (by simp)
    · rw [hsz] at hi
      rw [ho _ (I.lis_pos i).1] at hs
      obtain ⟨k1, k2⟩ := I.km i hi hs
      exact ⟨k1.app (by simp), k2.app (by simp)⟩
  refine ⟨_, _, _, j, _, _, sl, _, hrT.trans (by rw [ofEvents_nil]), I', .inl ?_⟩
  rw [hsz]
  have := alS_upd (X := X) (σ := σ) h0lt (.mMade p w.heap.size m' Hm)
  rw [hσ] at this
  simp only [GS.al] at this
  have e : (X.n - p) * (2 * X.vs.length + 10) = (X.n - (p + 1)) * (2 * X.vs.length + 10) + (2 * X.vs.length + 10) := by
    rw [show X.n - p = (X.n - (p + 1)) + 1 by omega, Nat.add_mul]; omega
  omega

theorem noD_two {h1 h2 : Nat} {x y : GS} (hn : NoD σ) (hx : ∀ c k sl H q, x ≠ .lDone c k sl H q) (hy : ∀ c k sl H q, y ≠ .lDone c k sl H q) : NoD (upd (upd σ h1 x) h2 y) := by
  intro a c k sl H q e
  by_cases e2 : a = h2
  · subst e2; rw [upd_same] at e; exact hy _ _ _ _ _ e
  · rw [upd_ne _ _ e2] at e
    by_cases e1 : a = h1
    · subst e1; rw [upd_same] at e; exact hx _ _ _ _ _ e
    · rw [upd_ne _ _ e1] at e; exact hn _ _ _ _ _ _ e

def PairR.bornS {c k m : Nat} {l s : GS} {H : Hp} (h : PairR X w c k l s) (hs : s = .unborn) {c' : Nat} (hc : c = c') : PairR X w c k l (.sRun c' 0 m H) := by
  subst hs
  subst hc
  refine ⟨h.s, h.r, h.buf, h.cl, h.chan, h.le, h.buff, h.room, ⟨rfl, h.snd.1.symm, h.snd.2⟩, ?_⟩
  have := h.lis
  cases l <;> first | exact this | (obtain ⟨h1, h2, h3, h4, h5, h6⟩ := this; exact ⟨h1, h2, h3, h4, h5, fun a b d e => by cases e⟩)

/-- What a newborn finds. -/
theorem get_born {gs : Array Goroutine} {g' child : Goroutine} (h0 : 0 < gs.size) (h : Nat) : ((gs.setIfInBounds 0 g').push child)[h]? = if h = gs.size then some child else if h = 0 then some g' else gs[h]? := by
  by_cases h1 : h = gs.size
  · subst h1
    rw [if_pos rfl]
    have : (gs.setIfInBounds 0 g').size = gs.size := by simp
    rw [← this, Array.getElem?_push_size]
  · rw [if_neg h1]
    rw [Array.getElem?_push]
    rw [if_neg (by simpa using h1)]
    by_cases h2 : h = 0
    · subst h2
      rw [if_pos rfl, Array.getElem?_setIfInBounds_self_of_lt h0]
    · rw [if_neg h2, Array.getElem?_setIfInBounds_ne (Ne.symm h2)]

theorem alS_grow {n : Nat} {x : GS} {σ : Nat → GS} : alS X (upd σ n x) (n + 1) = alS X σ n + x.al X := by
  show sumTo n (fun a => (upd σ n x a).al X) + (upd σ n x n).al X = _
  rw [sumTo_upd_out σ x (fun s => s.al X) (Nat.le_refl _), upd_same]
  rfl

/-- A birth. -/
theorem PInv.spawn (I : PInv X σ C own j gs w t) {x mn : GS} {g' child : Goroutine} {f1 f2 : FuncId} {p1 p2 : String} (hmn0 : (σ 0).isMn = true) (hx : GI X x child) (hm : GI X mn g') (hxh : x.hp = []) (hmh : ∀ p ∈ mn.hp, p ∈ (σ 0).hp) (hxs : x.shut = false) (hxd : ∀ c q, x ≠ .sDone c q) (hml : mn.isMn = true)
    (hmain : MainR X (upd (upd σ 0 mn) gs.size x) C (gs.size + 1) w) (hhas : ∀ i, hasC X (upd (upd σ 0 mn) gs.size x) (gs.size + 1) i → hasC X σ gs.size i)
    (hpair : ∀ i, lisI X i = gs.size ∨ sndI X i = gs.size → lisI X i < gs.size + 1 → Nonempty (PairR X w (C i) i (upd (upd σ 0 mn) gs.size x (lisI X i)) (upd (upd σ 0 mn) gs.size x (sndI X i)))) :
    PInv X (upd (upd σ 0 mn) gs.size x) C own j ((gs.setIfInBounds 0 g').push child) w (t ++ #[{ g := 0, fn := f1, pos := p1, act := .go gs.size }, { g := gs.size, fn := f2, pos := p2, act := .start }]) := by
  have h0lt : 0 < gs.size := by have := I.b0; omega
  have hne0 : (0 : Nat) ≠ gs.size := by omega
  have hsz : ((gs.setIfInBounds 0 g').push child).size = gs.size + 1 := by simp
  have ex : upd (upd σ 0 mn) gs.size x gs.size = x := upd_same ..
  have e0 : upd (upd σ 0 mn) gs.size x 0 = mn := by rw [upd_ne _ _ hne0, upd_same]
  have eo : ∀ h, h ≠ gs.size → h ≠ 0 → upd (upd σ 0 mn) gs.size x h = σ h := fun h h1 h2 => by rw [upd_ne _ _ h1, upd_ne _ _ h2]
  have hmute : ∀ h, ∀ op ∈ (#[{ g := 0, fn := f1, pos := p1, act := .go gs.size }, { g := gs.size, fn := f2, pos := p2, act := .start }] : Array MemOp), op.g = h → op.act.touch? = none := by
    intro h op hop _
    simp only [List.mem_toArray, List.mem_cons, List.not_mem_nil, or_false] at hop
    rcases hop with rfl | rfl <;> rfl
  refine ⟨I.base, ⟨I.b0.1, by rw [hsz]; have := I.b0.2; omega⟩, fun k y hy => ?_, by rw [hsz]; exact hmain, fun k h1 h2 => ?_, fun i hi => ?_, fun k hk => ?_, fun i hi => ?_, fun i i' hi hi' e => ?_, I.tb, I.sb, I.tsb, fun k hk p hp => ?_, ?_, fun i hi hs => ?_, fun i hi hs => ?_, fun i hi hs => ?_⟩
  · rw [get_born h0lt] at hy
    by_cases h1 : k = gs.size
    · subst h1
      rw [if_pos rfl] at hy
      cases hy
      rw [ex]; exact hx
    · rw [if_neg h1] at hy
      by_cases h2 : k = 0
      · subst h2
        rw [if_pos rfl] at hy
        cases hy
        rw [e0]; exact hm
      · rw [if_neg h2] at hy
        rw [eo k h1 h2]; exact I.loc k y hy
  · obtain ⟨q, e⟩ := I.old k h1 h2
    exact ⟨q, by rw [eo k (by have := I.b0; omega) (by omega)]; exact e⟩
  · rw [hsz] at hi
    by_cases h : lisI X i = gs.size ∨ sndI X i = gs.size
    · exact hpair i h hi
    · have hlt : lisI X i < gs.size := by have : lisI X i ≠ gs.size := fun e => h (.inl e); omega
      rw [eo _ (fun e => h (.inl e)) (I.lis_pos i).1, eo _ (fun e => h (.inr e)) (I.lis_pos i).2]
      exact I.pairs i hlt
  · rw [hsz] at hk
    rw [eo k (by omega) (by omega)]
    exact I.unb k (by omega)
  · rw [hsz] at hi
    exact I.cown i (hhas i hi)
  · rw [hsz] at hi hi'
    exact I.cinj i i' (hhas i hi) (hhas i' hi') e
  · rw [hsz] at hk
    by_cases h1 : k = gs.size
    · subst h1; rw [ex, hxh] at hp; cases hp
    · by_cases h2 : k = 0
      · subst h2; rw [e0] at hp; exact I.heaps 0 h0lt p (hmh p hp)
      · rw [eo k h1 h2] at hp; exact I.heaps k (by omega) p hp
  · rw [hsz]
    exact I.pt.spawn I.b0.2
  · rw [hsz] at hi
    have h1 : sndI X i ≠ gs.size := by
      intro e; rw [e, ex] at hs; obtain ⟨c, q, e'⟩ := hs; exact hxd c q e'
    rw [eo _ h1 (I.lis_pos i).2] at hs
    exact (I.shut i (by omega) hs).app (hmute _)
  · rw [hsz] at hi
    have h1 : lisI X i ≠ gs.size := by
      intro e; rw [e, ex, hxs] at hs; cases hs
    rw [eo _ h1 (I.lis_pos i).1] at hs
    exact (I.kl i (by omega) hs).app (hmute _)
  · rw [hsz] at hi
    have h1 : lisI X i ≠ gs.size := by
      intro e; rw [e, ex] at hs; obtain ⟨_, _, _, _, _, e'⟩ := hs; rw [e'] at hxs; cases hxs
    rw [eo _ h1 (I.lis_pos i).1] at hs
    obtain ⟨k1, k2⟩ := I.km i (by omega) hs
    exact ⟨k1.app (hmute _), k2.app (hmute _)⟩

theorem golis_falls (I : PInv X σ C own j gs w t) (hF : ∀ f H g, X.Fin f H g → g.status = .running) (hB : ∀ p c, p < X.n → X.B0 ≤ c → ListH X c p X.vs [] (born X.P (X.lisF p c))) {sl : Option (Nat × Nat)} {p c m : Nat} {Hm : Hp} {g : Goroutine} (hg : gs[0]? = some g) (hσ : σ 0 = .mMade p c m Hm) (hpn : p < X.n)
    (hs : AGo X (X.lisF p c) (fun H g => ∃ m, GH X true (AGo X (X.sndF c) (MSpawn X (p + 1) (X.n - (p + 1)))) m H g) Hm g) : Falls X σ gs t (runT X.P (crowd gs w sl) 0) := by
  have h0lt : 0 < gs.size := (Array.getElem?_eq_some_iff.1 hg).1
  obtain ⟨hrun, g', hst, m', hm'⟩ := hs
  have hmn := I.main
  unfold MainR at hmn
  rw [hσ] at hmn
  obtain ⟨hsize, hCp, hch, hnd⟩ := hmn
  have hcB : X.B0 ≤ c := by rw [← hCp]; exact (I.cown p (.inr ⟨p, c, m, Hm, hσ, rfl⟩)).1
  obtain ⟨m2, hm2⟩ := (listH_iff _ _ _ _ _ _).1 (hB p c hpn hcB)
  have hrT := runT_crowd_spawn (sl := sl) hg (show stepG X.P (0 == 0) g w = _ from hst w)
  rw [ofEvents_nil] at hrT
  have hne0 : (0 : Nat) ≠ gs.size := by omega
  have e0 : upd (upd σ 0 (.mGone p c m' Hm)) gs.size (.lRun c p 0 m2 []) 0 = .mGone p c m' Hm := by rw [upd_ne _ _ hne0, upd_same]
  have I' := I.spawn (x := .lRun c p 0 m2 []) (mn := .mGone p c m' Hm) (g' := g') (child := born X.P (X.lisF p c)) (f1 := g.frame.fn) (p1 := g.frame.place) (f2 := (born X.P (X.lisF p c)).frame.fn) (p2 := g.frame.place) (by rw [hσ]; rfl) hm2 ⟨hpn, hm'⟩ rfl (by rw [hσ]; exact fun p hp => hp) rfl (fun _ _ e => by cases e) rfl
    (by unfold MainR; rw [e0]; exact ⟨by omega, hCp, noD_two hnd (fun _ _ _ _ _ e => by cases e) (fun _ _ _ _ _ e => by cases e)⟩)
    (fun i hi => by
      rcases hi with h | ⟨p', c', m', H', e, rfl⟩
      · by_cases h' : lisI X i < gs.size
        · exact .inl h'
        · exact .inr ⟨p, c, m, Hm, hσ, by simp only [lisI] at *; omega⟩
      · rw [e0] at e; cases e)
    (fun i hi hlt => by
      have hip : i = p := by simp only [lisI, sndI] at *; omega
      subst hip
      have el : upd (upd σ 0 (.mGone i c m' Hm)) gs.size (.lRun c i 0 m2 []) (lisI X i) = .lRun c i 0 m2 [] := by rw [show lisI X i = gs.size from hsize.symm, upd_same]
      have es : upd (upd σ 0 (.mGone i c m' Hm)) gs.size (.lRun c i 0 m2 []) (sndI X i) = .unborn := by
        rw [upd_ne _ _ (by simp only [sndI]; omega), upd_ne _ _ (I.lis_pos i).2]
        exact I.unb _ (by simp only [sndI]; omega)
      rw [el, es, hCp]
      exact ⟨⟨0, 0, #[], false, hch, ⟨Nat.le_refl _, Nat.zero_le _⟩, by simp, by simp, ⟨rfl, rfl⟩, ⟨rfl, rfl, rfl⟩⟩⟩)
  refine ⟨_, C, own, j, _, _, sl, _, hrT.trans (by rfl), I', .inl ?_⟩
  have e1 := alS_grow (X := X) (n := gs.size) (x := .lRun c p 0 m2 []) (σ := upd σ 0 (.mGone p c m' Hm))
  have e2 := alS_upd (X := X) (σ := σ) h0lt (.mGone p c m' Hm)
  rw [hσ] at e2
  simp only [GS.al] at e1 e2
  rw [show ((gs.setIfInBounds 0 g').push (born X.P (X.lisF p c))).size = gs.size + 1 by simp, e1]
  omega

theorem gosnd_falls (I : PInv X σ C own j gs w t) (hF : ∀ f H g, X.Fin f H g → g.status = .running) (hS : ∀ c, X.B0 ≤ c → SendsH X c X.vs [] (born X.P (X.sndF c))) {sl : Option (Nat × Nat)} {p c m : Nat} {Hm : Hp} {g : Goroutine} (hg : gs[0]? = some g) (hσ : σ 0 = .mGone p c m Hm) (hpn : p < X.n)
    (hs : AGo X (X.sndF c) (MSpawn X (p + 1) (X.n - (p + 1))) Hm g) : Falls X σ gs t (runT X.P (crowd gs w sl) 0) := by
  have h0lt : 0 < gs.size := (Array.getElem?_eq_some_iff.1 hg).1
  obtain ⟨hrun, g', hst, hm'⟩ := hs
  have hmn := I.main
  unfold MainR at hmn
  rw [hσ] at hmn
  obtain ⟨hsize, hCp, hnd⟩ := hmn
  have hpl : lisI X p < gs.size := by simp only [lisI]; omega
  have hcB : X.B0 ≤ c := by rw [← hCp]; exact (I.cown p (.inl hpl)).1
  obtain ⟨m2, hm2⟩ := (sendsH_iff _ _ _ _ _).1 (hS c hcB)
  have hrT := runT_crowd_spawn (sl := sl) hg (show stepG X.P (0 == 0) g w = _ from hst w)
  rw [ofEvents_nil] at hrT
  have hne0 : (0 : Nat) ≠ gs.size := by omega
  obtain ⟨mn, hgi, hal, hmh, hml, hnoc, hmain⟩ : ∃ mn, GI X mn g' ∧ mn.al X = (X.n - (p + 1)) * (2 * X.vs.length + 10) + X.n + 1 ∧ mn.hp = Hm ∧ mn.isMn = true ∧ (∀ p c m H, mn ≠ .mMade p c m H) ∧ MainR X (upd (upd σ 0 mn) gs.size (.sRun c 0 m2 [])) C (gs.size + 1) w := by
    cases hr : X.n - (p + 1) with
    | zero =>
      rw [hr] at hm'
      obtain ⟨m', hm'⟩ := (mrecv_iff _ _ _ _ _).1 (show MRecv X X.n (fun _ => none) Hm g' from hm')
      refine ⟨.mRecv X.n m' (fun _ => none) Hm, hm', by simp [GS.al], rfl, rfl, fun _ _ _ _ e => (by cases e), ?_⟩
      unfold MainR
      rw [upd_ne _ _ hne0, upd_same]
      refine ⟨by omega, ?_, fun k hk => ?_⟩
      · have : ∀ n, n = cntN (fun _ => none) n := by
          intro n
          unfold cntN
          induction n with
          | zero => rfl
          | succ n ih => show _ = sumTo n _ + _; rw [← ih]; rfl
        exact this _
      · intro c' k' sl' H' q' e
        have hkl : lisI X k < gs.size := by simp only [lisI]; omega
        rw [upd_ne _ _ (by omega), upd_ne _ _ (I.lis_pos k).1] at e
        exact hnd _ _ _ _ _ _ e
    | succ r =>
      rw [hr] at hm'
      obtain ⟨m', hm'⟩ := hm'
      refine ⟨.mSpawn (p + 1) m' Hm, ⟨by omega, ?_⟩, by simp [GS.al, hr], rfl, rfl, fun _ _ _ _ e => (by cases e), ?_⟩
      · rw [show X.n - (p + 1 + 1) = r by omega]; exact hm'
      · unfold MainR
        rw [upd_ne _ _ hne0, upd_same]
        exact ⟨by omega, noD_two hnd (fun _ _ _ _ _ e => by cases e) (fun _ _ _ _ _ e => by cases e)⟩
  have e0 : upd (upd σ 0 mn) gs.size (.sRun c 0 m2 []) 0 = mn := by rw [upd_ne _ _ hne0, upd_same]
  have I' := I.spawn (x := .sRun c 0 m2 []) (mn := mn) (g' := g') (child := born X.P (X.sndF c)) (f1 := g.frame.fn) (p1 := g.frame.place) (f2 := (born X.P (X.sndF c)).frame.fn) (p2 := g.frame.place) (by rw [hσ]; rfl) hm2 hgi rfl (by rw [hσ, hmh]; exact fun p hp => hp) rfl (fun _ _ e => by cases e) hml
    hmain
    (fun i hi => by
      rcases hi with h | ⟨p', c', m', H', e, rfl⟩
      · exact .inl (by simp only [lisI] at *; omega)
      · rw [e0] at e; exact absurd e (hnoc _ _ _ _))
    (fun i hi hlt => by
      have hip : i = p := by simp only [lisI, sndI] at *; omega
      subst hip
      have R := Classical.choice (I.pairs i hpl)
      have hub : σ (sndI X i) = .unborn := I.unb _ (by simp only [sndI]; omega)
      have el : upd (upd σ 0 mn) gs.size (.sRun c 0 m2 []) (lisI X i) = σ (lisI X i) := by
        rw [upd_ne _ _ (by omega), upd_ne _ _ (I.lis_pos i).1]
      have es : upd (upd σ 0 mn) gs.size (.sRun c 0 m2 []) (sndI X i) = .sRun c 0 m2 [] := by rw [show sndI X i = gs.size by simp only [sndI]; omega, upd_same]
      rw [el, es]
      exact ⟨R.bornS hub hCp⟩)
  refine ⟨_, C, own, j, _, _, sl, _, hrT.trans (by rfl), I', .inl ?_⟩
  have e1 := alS_grow (X := X) (n := gs.size) (x := .sRun c 0 m2 []) (σ := upd σ 0 mn)
  have e2 := alS_upd (X := X) (σ := σ) h0lt mn
  rw [hσ, hal] at e2
  simp only [GS.al] at e1 e2
  rw [show ((gs.setIfInBounds 0 g').push (born X.P (X.sndF c))).size = gs.size + 1 by simp, e1]
  omega
end
end Go.Proofs.Ytofoplpnpfaofaa
