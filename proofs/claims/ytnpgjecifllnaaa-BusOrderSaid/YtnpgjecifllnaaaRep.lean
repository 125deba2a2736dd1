/- What is proved here: two answers that are alike: Reply. Conditions: their bytes read as one list. -/
import Derived.Test.YtnpgjecifllnaaaOrd0
import Derived.Laws.BytesArg
set_option linter.unusedSimpArgs false
set_option linter.unusedVariables false
namespace Go.Proofs.Ytnpgjecifllnaaa
open Go Go.Conc Go.RowKit

def bytesL (xs : List Int) : List Value := xs.map (Value.int .u8)
theorem served_bytes (ad kd : Int) (n : Nat) : ∃ xs, servedD ad kd n = bytesL xs := by
  unfold servedD
  split
  · exact ⟨[], rfl⟩
  · split
    · exact ⟨[], rfl⟩
    · exact ⟨(List.range n).map fun (i : Nat) => (ad + (i : Int)) % 256, by simp [bytesAt, bytesL]⟩
theorem conv_zero (w : World) (p : Option Addr) (c : Nat) : (Go.convert 32 9 (.slice p 0 c)).run Try.prog w = .ok (.string (strOfNums [])) w := by
  cases p with
  | none => exact run_convert_bytes_nil w 32 5 Try.underlying32 Try.underlying5 0 c 9 Try.underlying9
  | some a =>
    have hl : (loadCells a 0).run Try.prog w = .ok (([] : List Int).map (Value.int .u8)).toArray w := rfl
    rw [run_convert_bytes_string w 32 9 5 _ 0 c Try.underlying32 Try.underlying5 Try.underlying9, run_bytesToString w _ 0 c [] hl]
    rfl
theorem conv_rd {w : World} {v : Value} {xs : List Int} (h : Rd w v (bytesL xs)) : (Go.convert 32 9 v).run Try.prog w = .ok (.string (strOfNums xs)) w := by
  obtain ⟨base, cap, rfl, hc, hb, hr⟩ := h
  have hlen : (bytesL xs).length = xs.length := by simp [bytesL]
  rw [hlen] at hc ⊢
  cases xs with
  | nil => exact conv_zero w base cap
  | cons x r =>
    obtain ⟨o, q, rfl, _, _⟩ := hr 0 _ rfl
    refine run_convert_bytes_arg w 32 5 Try.underlying32 Try.underlying5 o q _ cap (x :: r) rfl (fun i hi => ?_) 9 Try.underlying9
    have hx : (bytesL (x :: r))[i]? = some (.int .u8 ((x :: r).getD i 0)) := by
      unfold bytesL
      rw [List.getElem?_map, List.getElem?_eq_getElem hi]
      simp [List.getD, List.getElem?_eq_getElem hi]
    obtain ⟨o2, q2, e, _, hc2⟩ := hr i _ hx
    cases e
    exact hc2

set_option maxHeartbeats 1000000 in
set_option maxRecDepth 100000 in
theorem bytes_calls {w : World} {b1 b2 : Option Addr} {n1 c1 n2 c2 : Nat} {xs : List Int} (h1 : Rd w (.slice b1 n1 c1) (bytesL xs)) (h2 : Rd w (.slice b2 n2 c2) (bytesL xs)) :
    Calls Try.prog 36 #[.slice b1 n1 c1, .slice b2 n2 c2] w (fun e w' => e = .returned (.bool true) ∧ Old w w' No) := by
  have g1 := conv_rd h1
  have g2 := conv_rd h2
  clear h1 h2
  go_enter Try.func36, Try.ntmps36
  go_wp2
  go_ret
  exact ⟨rfl, Old.refl _ _⟩
set_option maxHeartbeats 1000000 in
set_option maxRecDepth 100000 in
theorem reply_calls {w : World} {p i : Int} {er : Bool} {b1 b2 : Option Addr} {n1 c1 n2 c2 : Nat} {xs : List Int} (h1 : Rd w (.slice b1 n1 c1) (bytesL xs)) (h2 : Rd w (.slice b2 n2 c2) (bytesL xs)) :
    Calls Try.prog 13 #[replyV p i (.slice b1 n1 c1) er, replyV p i (.slice b2 n2 c2) er] w (fun e w' => e = .returned (.bool true) ∧ Old w w' No) := by
  have hby : Hid (∀ w1, Old w w1 No → Calls Try.prog 36 #[.slice b1 n1 c1, .slice b2 n2 c2] w1 (fun e w' => e = .returned (.bool true) ∧ Old w1 w' No)) := fun w1 ho =>
    bytes_calls (h1.on ho (fun _ _ _ _ _ _ h => h)) (h2.on ho (fun _ _ _ _ _ _ h => h))
  have hW : Hid (Old w ((w.alloc (.cells #[.int .i64 p, .int .i64 i, .slice b1 n1 c1, .bool er] 43)).alloc (.cells #[.int .i64 p, .int .i64 i, .slice b2 n2 c2, .bool er] 43)) No) := ((Old.refl w No).alloc _).alloc _
  have hA : Hid (∀ w1, Old ((w.alloc (.cells #[.int .i64 p, .int .i64 i, .slice b1 n1 c1, .bool er] 43)).alloc (.cells #[.int .i64 p, .int .i64 i, .slice b2 n2 c2, .bool er] 43)) w1 No → w1.heap[w.heap.size]? = some (.cells #[.int .i64 p, .int .i64 i, .slice b1 n1 c1, .bool er] 43 (0, 0)) ∧ w1.heap[w.heap.size + 1]? = some (.cells #[.int .i64 p, .int .i64 i, .slice b2 n2 c2, .bool er] 43 (0, 0))) := fun w1 ho =>
    ⟨(ho.block _ (by simp only [al_size]; omega) (fun h => h)).trans ((al_old (by rw [al_size]; omega)).trans al_new), (ho.block _ (by simp only [al_size]; omega) (fun h => h)).trans (by have h := al_new (w := w.alloc (.cells #[.int .i64 p, .int .i64 i, .slice b1 n1 c1, .bool er] 43)) (o := .cells #[.int .i64 p, .int .i64 i, .slice b2 n2 c2, .bool er] 43 (0, 0)); rw [al_size] at h; exact h)⟩
  have heq : ((i == i) : Bool) = true := by simp
  have heq2 : ((p == p) : Bool) = true := by simp
  clear h1 h2
  go_enter Try.func13, Try.ntmps13
  go_wp2_with (go_at_call 36; refine (hby.out _ (by exact hW.out)).mono ?_; rintro e w2 ⟨rfl, ho2⟩; obtain ⟨⟨_, _, _, x3⟩, _⟩ := blk4 (hA.out _ ho2).1; obtain ⟨⟨_, _, _, y3⟩, _⟩ := blk4 (hA.out _ ho2).2; have ho2' := Lib.hid (hW.out.trans ho2); clear ho2)
  go_ret
  exact ⟨rfl, ho2'.out⟩
end Go.Proofs.Ytnpgjecifllnaaa
