/- What is proved here: awake: the bus answers. Conditions: none. -/
import Derived.Test.YtnpgjecifllnaaaMore
set_option linter.unusedSimpArgs false
set_option linter.unusedVariables false
namespace Go.Proofs.Ytnpgjecifllnaaa
open Go Go.Conc Go.RowKit

def first0 : AskA := ⟨0, 0, 1, 0, 1, 0, [], []⟩
theorem first_may : first0.may := by unfold AskA.may; decide
theorem first_ask : (Mst.new 0).askE first0 = 0 := by
  unfold Mst.askE
  rw [if_neg (fun h => h first_may), if_neg (by simp [Mst.new]), if_neg (by simp [Mst.has, Mst.new])]
theorem first_tick : ((((Mst.new 0).ask first0).tick 0 0).outs).length = 1 := by
  have h1 : (Mst.new 0).ask first0 = ⟨0, fun j => if j = 0 then [(first0, 0)] else [], [], []⟩ := by
    unfold Mst.ask
    rw [if_pos first_ask]
    rfl
  rw [h1]
  have h2 : (Mst.answered ⟨0, fun j => if j = 0 then [(first0, 0)] else [], [], []⟩).pick 0 = some 0 := by decide
  unfold Mst.tick Mst.take
  rw [h2]
  decide

def RetTrue (w : World) (e : Ending) (w' : World) : Prop := e = .returned (.bool true) ∧ Old w w' No

set_option maxHeartbeats 4000000 in
set_option maxRecDepth 100000 in
theorem awake_calls (w : World) : Calls Try.prog 8 #[] w (RetTrue w) := by
  have hnew : Hid (∀ w1, Calls Try.prog 6 #[.int .i64 0, .func (.func 7) #[] #[]] w1 (fun e w' => e = .returned (.tuple #[.pointer (some ⟨w1.heap.size, 0, none⟩), .int .i64 0]) ∧ w' = w1.alloc (.cells (new84 0 Sv.plain.val) 84))) := fun w1 => new_calls (s := .plain) (by omega) (by omega)
  have hrep : Hid (RepX (w.alloc (.cells (new84 0 Sv.plain.val) 84)) w.heap.size Sv.plain.val (Mst.new 0) (fun _ => 0) (fun _ => []) (.slice none 0 0) [] (.slice none 0 0) []) := new_rep al_new
  have hask : Hid (Calls Try.prog 10 #[.pointer (some ⟨w.heap.size, 0, none⟩), askV 0 0 1 0 1 (.slice none 0 0) (.slice none 0 0) 0] (w.alloc (.cells (new84 0 Sv.plain.val) 84)) (fun e w' => e = .returned (.int .i64 0) ∧ (∃ hd q, RepX w' w.heap.size Sv.plain.val ((Mst.new 0).ask first0) hd q (.slice none 0 0) [] (.slice none 0 0) []) ∧ Old (w.alloc (.cells (new84 0 Sv.plain.val) 84)) w' (fun b => b = w.heap.size))) :=
    (askR_calls (a := first0) hrep.out (by simp [first0]) ⟨none, 0, rfl, Nat.le_refl _, .inl rfl, fun i u h => by simp [first0] at h⟩ ⟨none, 0, rfl, Nat.le_refl _, .inl rfl, fun i u h => by simp [first0] at h⟩ (fun u hu => by simp [first0] at hu) (fun u hu => by simp [first0] at hu)).mono fun e w' ⟨h1, h2, h3⟩ => ⟨by rw [h1, first_ask], h2, h3⟩
  have hok : ((Mst.new 0).ask first0).ok 0 := (Mst.new_ok (by omega) (by omega) 0).ask (by simp [first0]) (by simp [first0]) (fun u hu => by simp [first0] at hu) (fun u hu => by simp [first0] at hu)
  have ht1 : Hid (∀ w1 hd q bv bs lv ls, RepX w1 w.heap.size Sv.plain.val ((Mst.new 0).ask first0) hd q bv bs lv ls → Calls Try.prog 11 #[.pointer (some ⟨w.heap.size, 0, none⟩), inV 0 0 0 0] w1 (RetTick w.heap.size .plain 0 ((Mst.new 0).ask first0) 0 0 lv w1)) := fun w1 hd q bv bs lv ls h => tick_calls (n := 0) h hok (by omega) trivial (by omega)
  have ht2 : Hid (∀ w1 hd q bv bs lv ls, RepX w1 w.heap.size Sv.plain.val (((Mst.new 0).ask first0).tick 0 0) hd q bv bs lv ls → Calls Try.prog 11 #[.pointer (some ⟨w.heap.size, 0, none⟩), inV 0 0 0 0] w1 (fun e w' => (∃ b c, e = .returned (.slice b 1 c)) ∧ Old w1 w' (fun b => b = w.heap.size ∨ some b = lv.ownBlock))) := fun w1 hd q bv bs lv ls h =>
    (tick_calls (n := 0) h hok.tick (by omega) trivial (by omega)).mono fun e w' ⟨v3, out, lv', e1, ho, hal, _, _, hold, _⟩ => by
      obtain ⟨b, c, hv⟩ := own_slice2 ho
      have : out.length = 1 := hal.1.trans first_tick
      rw [this] at hv
      exact ⟨⟨b, c, by rw [e1, hv]⟩, hold.weak fun b _ h => by rcases h with h | h | h; exact .inl h; exact h.elim; exact .inr h⟩
  have hW : Hid (Old w (w.alloc (.cells (new84 0 Sv.plain.val) 84)) No) := (Old.refl w No).alloc _
  clear hok hrep
  go_enter Try.func8, Try.ntmps8
  go_wp2_with (first
    | (go_at_call 6; refine (hnew.out _).mono ?_; rintro e w1 ⟨rfl, rfl⟩)
    | (go_at_call 10; refine hask.out.mono ?_; rintro e w2 ⟨rfl, ⟨hd2, q2, hR2⟩, hO2⟩; have hR2' := Lib.hid hR2; have hO2' := Lib.hid (hW.out.no.trans hO2); clear hR2 hO2; have ht1' := Lib.hid (ht1.out _ _ _ _ _ _ _ hR2'.out); clear ht1)
    | (go_at_call 11; first
        | (refine ht1'.out.mono ?_; rintro e w3 ⟨v3, out, lv3, rfl, _, _, ⟨hd3, q3, bv3, bs3, ls3, hR3⟩, _, hO3, hlv3⟩; have hR3' := Lib.hid hR3; have hO3' := Lib.hid hO3; have hlv3' := Lib.hid hlv3; clear hR3 hO3 hlv3; have ht2' := Lib.hid (ht2.out _ _ _ _ _ _ _ hR3'.out); clear ht1' ht2)
        | (refine ht2'.out.mono ?_; rintro e w4 ⟨⟨b4, c4, rfl⟩, hO4⟩; have hO4' := Lib.hid hO4; clear hO4)))
  go_ret
  have hs2 : w.heap.size ≤ w2.heap.size := hO2'.out.size
  have h3 : Old w w3 (fun b => b = w.heap.size) := hO2'.out.trans (hO3'.out.weak fun b _ h => by rcases h with h | h | h; exact h; exact h.elim; cases h)
  refine ⟨rfl, ⟨Nat.le_trans h3.size hO4'.out.size, hO4'.out.os.trans h3.os, hO4'.out.output.trans h3.output, fun b hb _ => ?_⟩⟩
  have hne : b ≠ w.heap.size := by omega
  refine (hO4'.out.block b (Nat.lt_of_lt_of_le hb h3.size) (fun h => ?_)).trans (h3.block b hb hne)
  rcases h with h | h
  · exact hne h
  · rcases hlv3'.out b h with h | h
    · cases h
    · omega
end Go.Proofs.Ytnpgjecifllnaaa
