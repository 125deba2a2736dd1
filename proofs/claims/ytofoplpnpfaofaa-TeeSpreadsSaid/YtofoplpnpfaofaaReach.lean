/- What is proved here: how stretches are put one behind another: goroutine 0's own walk beside goroutines that only leave, a plain piece of code, Spread's phase. Conditions: Spread's list reads as records. -/
import Derived.Test.YtofoplpnpfaofaaSpread
set_option linter.unusedSimpArgs false
set_option linter.unusedVariables false
namespace Go.Proofs.Ytofoplpnpfaofaa
open Go Go.Conc Go.RowKit

section
variable {P : Program} {Stop Stop' : Goroutine → World → Prop}

theorem GoesI.at {g : Goroutine} {w : World} (h : GoesI P Stop g w) (d : Nat) : GoesI P Stop g (w.at d) := by
  cases h with
  | stop h => exact .stop fun d' => h d'
  | step hr ng nw ne h he hn => exact .step hr ng nw ne (fun d' => h d') he hn

theorem GoesI.ctl {g g' : Goroutine} {w : World} (hr : g.status = .running) (h : ∀ w, stepG P true g w = .go g' w #[]) (hg : GoesI P Stop g' w) : GoesI P Stop g w :=
  .step hr (fun _ => g') (fun d => w.at d) (fun _ => #[]) (fun d => h _) (fun d => ⟨Nat.le_refl _, by simp⟩) (fun d => hg.at d)

theorem GoesI.mono (hs : ∀ g w, Stop g w → Stop' g w) {g : Goroutine} {w : World} (h : GoesI P Stop g w) : GoesI P Stop' g w := by
  induction h with
  | stop h => exact .stop fun d => hs _ _ (h d)
  | step hr ng nw ne h he _ ih => exact .step hr ng nw ne h he ih

theorem GoesI.bind {g : Goroutine} {w : World} (h : GoesI P (fun g w => GoesI P Stop g w) g w) : GoesI P Stop g w := by
  induction h with
  | @stop g w h => exact (h w.drawn)
  | step hr ng nw ne h he _ ih => exact .step hr ng nw ne h he ih

/-- Goroutine 0 stands at g; all others only leave; no race so far. -/
structure Sit (P : Program) (gs : Array Goroutine) (w : World) (t : Trace) (g : Goroutine) : Prop where
  at0 : gs[0]? = some g
  lv : ∃ q, LV P gs q
  past : Past0 w.heap.size t

def Reach (P : Program) (g : Goroutine) (w : World) (Post : Goroutine → World → Prop) : Prop :=
  ∀ (gs : Array Goroutine) (sl : Option (Nat × Nat)) (t : Trace), Sit P gs w t g → ∃ N gs' w' sl' t' g', runNT P N (crowd gs w sl) t = (.next (crowd gs' w' sl'), t') ∧ Sit P gs' w' t' g' ∧ Post g' w'

theorem Reach.here {g : Goroutine} {w : World} (h : Stop g w) : Reach P g w Stop := fun gs sl t s => ⟨0, gs, w, sl, t, g, rfl, s, h⟩

theorem Reach.of_goes {g : Goroutine} {w : World} (h : GoesI P Stop g w) : Reach P g w Stop := by
  intro gs sl t ⟨h0, ⟨q, hL⟩, hP⟩
  obtain ⟨N, gs', a', w', sl', t', q', e1, e2, e3, e4, e5, e6, e7⟩ := walk0 h gs sl t q h0 hL hP
  exact ⟨N, gs', w', sl', t', a', e1, ⟨e3, ⟨q', e5⟩, e6⟩, e4 w'.drawn⟩

theorem Reach.trans {g : Goroutine} {w : World} (h : Reach P g w Stop) (h' : ∀ g' w', Stop g' w' → Reach P g' w' Stop') : Reach P g w Stop' := by
  intro gs sl t s
  obtain ⟨N, gs1, w1, sl1, t1, g1, e1, s1, p1⟩ := h gs sl t s
  obtain ⟨N2, gs2, w2, sl2, t2, g2, e2, s2, p2⟩ := h' g1 w1 p1 gs1 sl1 t1 s1
  refine ⟨N + N2, gs2, w2, sl2, t2, g2, ?_, s2, p2⟩
  rw [runNT_add, e1]
  exact e2

/-- A plain piece of code. -/
theorem piece {Q : Part} (hP : Safe P Q) {c : Code} {b : Frame} {a : Act} {w : World} {R : Act → World → Prop} (hR : ∀ a w τ d, R a w → R a (sw w τ d)) (ho : OKs Q (b.at a [.code c]) [])
    (H : ∀ τ d, c.wp P (fun e a' w' => e = .normal ∧ R a' w') a (sw w τ d)) (k : List Item) (L : List Frame) :
    GoesI P (fun g w => ∃ a', g = G (b.at a' k) L ∧ R a' w ∧ OKs Q (b.at a' []) []) (G (b.at a (.code c :: k)) L) w := by
  have h := lift hP (k' := [.code (.refuse "")]) (k := k) (L := L) (R := fun f w => ∃ a', f = b.at a' [] ∧ R a' w) (vA := false) (by simp) (by simp) (by simp) (fun f w τ d ⟨a', e, h⟩ => ⟨a', e, hR _ _ τ d h⟩) (f := b.at a [.code c]) (w := w) ho
    (fun τ d => by
      obtain ⟨e, a', w', ⟨rfl, hRw⟩, harr⟩ := H τ d b [.code (.refuse "")] [trap P]
      obtain ⟨n, hn⟩ := (harr : Steps P _ _)
      exact ⟨n, b.at a' [], w', hn, a', rfl, hRw⟩)
  refine GoesI.mono ?_ h
  rintro g w ⟨f', rfl, ⟨a', rfl, hRw⟩, hok⟩
  exact ⟨a', rfl, hRw, hok⟩
end

/-- The blocks that were there stand. -/
structure Old (w w' : World) (but : Nat → Prop) : Prop where
  size : w.heap.size ≤ w'.heap.size
  os : w'.os = w.os
  output : w'.output = w.output
  block : ∀ b, b < w.heap.size → ¬ but b → w'.heap[b]? = w.heap[b]?

def cellsOf (vs : List Value) : List Value := vs.flatMap fun v => v.cells.toList

noncomputable def teeX (w : World) (n room sb tb : Nat) (own : Value) (vs : List Value) (cs : List Frame) (T0 b0 : Nat) : Cx :=
  { P := Try.prog, b0, B0 := w.heap.size, T0, w0 := w, sb, tb, room, n, vs, hv := fun k sl => .agg #[.int .i64 k, sl], ok := fun k sl H => ∃ Hv, OwnV w.heap.size sl vs.length (cellsOf vs) Hv ∧ ∀ p ∈ Hv, p ∈ H,
    lisF := fun p c => lisD tb p c, sndF := fun c => sndD sb own c, Fin := fun f H g => ∃ ob T, w.heap.size ≤ ob ∧ (ob, .cells (outA f n) 22 (0, 0)) ∈ H ∧ g = atE n room sb tb ob own T cs }

/-- What a list of records reads as. -/
structure Recs (w : World) (own : Value) (vs : List Value) : Prop where
  few : vs.length ≤ 999
  recs : ∀ v ∈ vs, ∃ cells : Array Value, v = .agg cells ∧ cells.size = 12 ∧ ∀ u ∈ cells.toList, u.oneCell' = true
  own : ∃ base cap, own = .slice base vs.length cap ∧ (0 < vs.length → ∃ ob oo, base = some ⟨ob, oo, none⟩ ∧ ob < w.heap.size ∧ (∃ o t fr, w.heap[ob]? = some (.cells o t fr)) ∧ ∀ i cells, vs[i]? = some (.agg cells) → w.rangeAt ob (oo + i * 12) cells.toList)

/-- ████ Spread's phase. ████ -/
theorem spread_phase {w : World} {n room sb tb : Nat} {own : Value} {vs : List Value} {cs : List Frame} {T : Nat → Value} (hn : 0 < n ∧ n ≤ 16) (hroom : room ≤ 64) (hr : Recs w own vs) (htb : w.heap[tb]? = some (.chan 0 #[] false 0 0 false)) (hsb : ∃ cap x y tm, w.heap[sb]? = some (.chan cap #[] false x y tm)) (hts : tb ≠ sb) :
    Reach Try.prog (at5 n room sb tb own T cs) w fun g' w' => ∃ ob f T, g' = atE n room sb tb ob own T cs ∧ Old w w' (fun b => b = sb ∨ b = tb) ∧ w.heap.size ≤ ob ∧ w'.heap[ob]? = some (.cells (outA f n) 22 (0, 0)) ∧
      (∃ cap x y tm, w'.heap[sb]? = some (.chan cap #[] false x y tm)) ∧ ∀ k, k < n → ∃ v Hv, f k = some v ∧ OwnV w.heap.size v vs.length (cellsOf vs) Hv ∧ Has Hv w' := by
  intro gs sl t ⟨h0, ⟨q, hL⟩, hP⟩
  have htlt := lt_of_heap htb
  have hslt : sb < w.heap.size := by obtain ⟨_, _, _, _, e⟩ := hsb; exact lt_of_heap e
  let X := teeX w n room sb tb own vs cs t.size gs.size
  have LX : LisX X := ⟨rfl, fun _ _ => rfl, fun k sl H Hv h1 h2 => ⟨Hv, h1, h2⟩, hr.few, hr.recs⟩
  obtain ⟨base, cap, hown, hbase⟩ := hr.own
  have hsnd : ∀ c, SendsH X c X.vs [] (born X.P (X.sndF c)) := by
    intro c
    by_cases hv : 0 < vs.length
    · obtain ⟨ob, oo, hb, hlt, ⟨o, ty, fr, hob⟩, hread⟩ := hbase hv
      refine snd_all (own := own) (ob := ob) (oo := oo) (cap := cap) ⟨rfl, hr.few, ⟨base, hown, fun _ => hb⟩, hlt, hr.recs, fun w1 hB i cells hi => ?_⟩ c
      have h1 : w1.heap[ob]? = w.heap[ob]? := hB.old ob hlt (fun e => by obtain ⟨_, _, _, _, e'⟩ := hsb; rw [e] at hob; rw [show X.sb = sb from rfl, e'] at hob; cases hob) (fun e => by rw [e] at hob; rw [show X.tb = tb from rfl, htb] at hob; cases hob)
      intro j v hj
      have h2 := hread i cells hi j v hj
      rw [← h2]
      exact World.cell?_of_block h1
    · refine snd_all (own := own) (ob := 0) (oo := 0) (cap := cap) ⟨rfl, hr.few, ⟨base, hown, fun h => absurd h hv⟩, by show 0 < w.heap.size; omega, hr.recs, fun w1 hB i cells hi => ?_⟩ c
      have : i < vs.length := (List.getElem?_eq_some_iff.1 hi).1
      omega
  have SX : SprX X own cs := ⟨rfl, hn.2, hroom, fun _ _ => rfl, fun _ => rfl, fun _ _ => rfl, fun k sl H ⟨Hv, h1, h2⟩ => by
    rcases h1.2 with ⟨rfl, _⟩ | ⟨g, cap, cur, rfl, _⟩ <;> exact ⟨rfl, rfl⟩, fun f H T ob h1 h2 => ⟨ob, T, h1, h2, rfl⟩⟩
  obtain ⟨N, gs', w', sl', t', e1, e2⟩ := phase (X := X) (sl := sl) (Hm := []) (fun f H g ⟨ob, T, _, _, e⟩ => by rw [e]; rfl) (fun p c _ _ => lis_all LX p c) (fun c _ => hsnd c) h0 hL hP rfl rfl (Nat.le_refl _) rfl htb hsb ⟨htlt, hslt, hts⟩ (by simp) hn.1 (spr_all SX [] T)
  obtain ⟨f, Hm, g, ownf, hg, ⟨ob, T', hob1, hob2, rfl⟩, hHm, hk⟩ := e2.fin
  refine ⟨N, gs', w', sl', t', _, e1, ⟨hg, e2.lv, e2.past⟩, ob, f, T', rfl, ⟨e2.base.size, e2.base.os, e2.base.output, fun b hb hbut => e2.base.old b hb (fun e => hbut (.inl e)) (fun e => hbut (.inr e))⟩, hob1, (hHm _ hob2).1, e2.sb, fun k hkn => ?_⟩
  obtain ⟨v, H, hf, ⟨Hv, h1, h2⟩, h3⟩ := hk k hkn
  exact ⟨v, Hv, hf, h1, fun p hp => (h3 p (h2 p hp)).1⟩
end Go.Proofs.Ytofoplpnpfaofaa
