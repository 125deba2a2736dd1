/- What is proved here: copied. Conditions: its transaction's slices read as lists; their room. -/
import Derived.Test.YtnpgjecifllnaaaMay
import Derived.Deep.RegionWith
set_option linter.unusedSimpArgs false
set_option linter.unusedVariables false
namespace Go.Proofs.Ytnpgjecifllnaaa
open Go Go.RowKit

def Ones (l : List Value) : Prop := ∀ u ∈ l, u.oneCell' = true
def RetCopy (port id kind addr beats size : Int) (ds ss : List Value) (w : World) (e : Ending) (w' : World) : Prop := ∃ dv sv, e = .returned (askV port id kind addr beats dv sv size) ∧ RdS w' dv ds ∧ RdS w' sv ss ∧ Old w w' No

/-- The cells of a block of eight. -/
theorem blk8 {w : World} {b : Nat} {t : TypeId} {a0 a1 a2 a3 a4 a5 a6 a7 : Value} (h : w.heap[b]? = some (.cells #[a0, a1, a2, a3, a4, a5, a6, a7] t (0, 0))) :
    (w.cell? ⟨b, 0, none⟩ = some a0 ∧ w.cell? ⟨b, 1, none⟩ = some a1 ∧ w.cell? ⟨b, 2, none⟩ = some a2 ∧ w.cell? ⟨b, 3, none⟩ = some a3 ∧ w.cell? ⟨b, 4, none⟩ = some a4 ∧ w.cell? ⟨b, 5, none⟩ = some a5 ∧ w.cell? ⟨b, 6, none⟩ = some a6 ∧ w.cell? ⟨b, 7, none⟩ = some a7) ∧ ∀ i, w.frozen? ⟨b, i, none⟩ = false := by
  refine ⟨⟨?_, ?_, ?_, ?_, ?_, ?_, ?_, ?_⟩, fun i => by simp [World.frozen?, h]⟩ <;> simp [World.cell?, h]

theorem soft_ne {w : World} {b o : Nat} {c : Array Value} {t : TypeId} {fr : Nat × Nat} (h : w.heap[b]? = some (.cells c t fr)) (h5 : t ≠ 5) (h4 : t ≠ 4) (hs : Soft w o) : o ≠ b := by
  rintro rfl
  obtain ⟨c', t', fr', e, ht⟩ := hs
  rw [h] at e
  cases e
  rcases ht with rfl | rfl
  · exact h5 rfl
  · exact h4 rfl

set_option maxHeartbeats 4000000 in
set_option maxRecDepth 100000 in
theorem copied_calls {port id kind addr beats size : Int} {db sb : Option Addr} {nd dc ns sc : Nat} {ds ss : List Value} {w : World} (hd : Rd w (.slice db nd dc) ds) (hs : Rd w (.slice sb ns sc) ss) (h1 : Ones ds) (h2 : Ones ss) (hb1 : ds.length ≤ 140737488355328) (hb2 : ss.length ≤ 140737488355328) :
    Calls Try.prog 33 #[askV port id kind addr beats (.slice db nd dc) (.slice sb ns sc) size] w (RetCopy port id kind addr beats size ds ss w) := by
  have hnb : ∀ {v : Value} {l : List Value}, Rd w v l → ∀ w1, Old w w1 No → Rd w1 v l := fun h w1 ho => h.on ho fun _ _ _ _ _ _ h => h
  have hc1 : ∀ w1, Old w w1 No → Calls Try.prog 43 #[.slice db nd dc] w1 (RetRd ds w1) := fun w1 ho => clone8 (hnb hd w1 ho) h1 hb1
  have hc2 : ∀ w1, Old w w1 No → Calls Try.prog 44 #[.slice sb ns sc] w1 (RetRd ss w1) := fun w1 ho => cloneB (hnb hs w1 ho) h2 hb2
  have hc1' := Lib.hid hc1
  have hc2' := Lib.hid hc2
  clear hc1 hc2 hnb hd hs h1 h2 hb1 hb2
  go_enter Try.func33, Try.ntmps33
  go_wp2_with fail
  have hA : Hid (∀ w1, Old (((w.alloc (.cells #[.int .i64 port, .int .i64 id, .int .i64 kind, .int .u64 addr, .int .i64 beats, .slice db nd dc, .slice sb ns sc, .int .i64 size] 35)).alloc (.cells #[.int .i64 0, .int .i64 0, .int .i64 0, .int .u64 0, .int .i64 0, .slice none 0 0, .slice none 0 0, .int .i64 0] 35)).drew) w1 No → w1.heap[w.heap.size]? = some (.cells #[.int .i64 port, .int .i64 id, .int .i64 kind, .int .u64 addr, .int .i64 beats, .slice db nd dc, .slice sb ns sc, .int .i64 size] 35 (0, 0)) ∧ w1.heap[w.heap.size + 1]? = some (.cells #[.int .i64 0, .int .i64 0, .int .i64 0, .int .u64 0, .int .i64 0, .slice none 0 0, .slice none 0 0, .int .i64 0] 35 (0, 0))) := fun w1 ho =>
    ⟨(ho.block _ (by show w.heap.size < ((w.alloc _).alloc _).heap.size; rw [al_size, al_size]; omega) (fun h => h)).trans ((al_old (by rw [al_size]; omega)).trans al_new),
     (ho.block _ (by show w.heap.size + 1 < ((w.alloc _).alloc _).heap.size; rw [al_size, al_size]; omega) (fun h => h)).trans (by have h := al_new (w := w.alloc (.cells #[.int .i64 port, .int .i64 id, .int .i64 kind, .int .u64 addr, .int .i64 beats, .slice db nd dc, .slice sb ns sc, .int .i64 size] 35)) (o := .cells #[.int .i64 0, .int .i64 0, .int .i64 0, .int .u64 0, .int .i64 0, .slice none 0 0, .slice none 0 0, .int .i64 0] 35 (0, 0)); rw [al_size] at h; exact h)⟩
  go_region_with (first | (go_at_call 43; refine (hc1'.out _ (by exact (((Old.refl w No).alloc _).alloc _).drew)).mono ?_; rintro e w1 ⟨dv, rfl, hr1, ho1⟩; obtain ⟨⟨bd, cd, rfl, hxd⟩, hyd⟩ := hr1; have hr1' := Lib.hid (show RdS w1 (.slice bd ds.length cd) ds from ⟨⟨bd, cd, rfl, hxd⟩, hyd⟩); clear hxd hyd; have ho1' := Lib.hid ho1; clear ho1; have e6 := (blk8 (hA.out _ ho1'.out).1).1.2.2.2.2.2.2.1) | (go_at_call 44; refine (hc2'.out _ (by exact ((((Old.refl w No).alloc _).alloc _).drew).trans ho1'.out)).mono ?_; rintro e w2 ⟨sv, rfl, hr2, ho2⟩; obtain ⟨⟨bs, cs, rfl, hxs⟩, hys⟩ := hr2; have hr2' := Lib.hid (show RdS w2 (.slice bs ss.length cs) ss from ⟨⟨bs, cs, rfl, hxs⟩, hys⟩); clear hxs hys; have ho2' := Lib.hid ho2; clear ho2; obtain ⟨⟨c0, c1, c2, c3, c4, c5, c6, c7⟩, cf⟩ := blk8 (hA.out _ (ho1'.out.trans ho2'.out)).1; have f5 := cf 5; have f6 := cf 6; clear cf; obtain ⟨⟨r0, r1, r2, r3, r4, r5, r6, r7⟩, rf⟩ := blk8 (hA.out _ (ho1'.out.trans ho2'.out)).2; have g0 := rf 0; have g1 := rf 1; have g2 := rf 2; have g3 := rf 3; have g4 := rf 4; have g5 := rf 5; have g6 := rf 6; have g7 := rf 7; clear rf))
  all_goals go_wp2
  all_goals
    have hAA := hA.out _ (ho1'.out.trans ho2'.out)
    refine bodyPost_ret (v := askV port id kind addr beats (.slice bd ds.length cd) (.slice bs ss.length cs) size) (by simp [results, Try.results33, go_sem, r0, r1, r2, r3, r4, r5, r6, r7]) rfl ⟨_, _, rfl, ?_, ?_, ?_⟩
    · refine (hr1'.out.on ho2'.out (fun _ _ h => h)).on (p := fun b => b = w.heap.size ∨ b = w.heap.size + 1) ?_ (fun o hs hp => hp.elim (soft_ne hAA.1 (by decide) (by decide) hs) (soft_ne hAA.2 (by decide) (by decide) hs))
      repeat' refine Old.setCell ?_ _ (.inr (by simp))
      exact Old.refl _ _
    · refine hr2'.out.on (p := fun b => b = w.heap.size ∨ b = w.heap.size + 1) ?_ (fun o hs hp => hp.elim (soft_ne hAA.1 (by decide) (by decide) hs) (soft_ne hAA.2 (by decide) (by decide) hs))
      repeat' refine Old.setCell ?_ _ (.inr (by simp))
      exact Old.refl _ _
    · repeat' refine Old.setCell ?_ _ (.inl (by omega))
      exact ((((Old.refl w No).alloc _).alloc _).drew).trans (ho1'.out.trans ho2'.out)
end Go.Proofs.Ytnpgjecifllnaaa
