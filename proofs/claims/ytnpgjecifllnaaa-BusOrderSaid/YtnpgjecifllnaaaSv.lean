/- What is proved here: what the bus is given that serves: the law's own memory, or that and a count. Conditions: as serve's. -/
import Derived.Test.YtnpgjecifllnaaaTake4
set_option linter.unusedSimpArgs false
set_option linter.unusedVariables false
namespace Go.Proofs.Ytnpgjecifllnaaa
open Go Go.Conc Go.RowKit

/-- What serves: the memory alone, or that and a count in block C. -/
inductive Sv
  | plain
  | cnt (C : Nat)
def Sv.val : Sv → Value
  | .plain => .func (.func 7) #[] #[]
  | .cnt C => .func (.func 15) #[] #[.pointer (some ⟨C, 0, none⟩)]
def Sv.st (s : Sv) (n : Nat) (w : World) : Prop :=
  match s with
  | .plain => True
  | .cnt C => w.heap[C]? = some (.cells #[.int .i64 ((n : Nat) : Int)] 3 (0, 0))
def Sv.but (s : Sv) : Nat → Prop :=
  match s with
  | .plain => No
  | .cnt C => fun b => b = C
theorem Sv.st_on {s : Sv} {n : Nat} {w w1 : World} {p : Nat → Prop} (h : s.st n w) (ho : Old w w1 p) (hp : ∀ b, s.but b → ¬ p b) : s.st n w1 := by
  cases s with
  | plain => trivial
  | cnt C => exact (ho.block C (lt_of_heap h) (hp C rfl)).trans h
theorem Sv.tag {s : Sv} {n : Nat} {w : World} {b : Nat} (h : s.st n w) (hb : s.but b) : Tag w b 3 := by
  cases s with
  | plain => exact hb.elim
  | cnt C => cases hb; exact ⟨_, h⟩

def RetCnt (C : Nat) (addr kind : Int) (m n : Nat) (w : World) (e : Ending) (w' : World) : Prop := ∃ dv, e = .returned (replyV 0 0 dv (oddP addr)) ∧ RdS w' dv (servedD addr kind m) ∧ Old w w' (fun b => b = C) ∧ w'.heap[C]? = some (.cells #[.int .i64 ((n + 1 : Nat) : Int)] 3 (0, 0))

set_option maxHeartbeats 2000000 in
set_option maxRecDepth 100000 in
theorem cnt_calls {C : Nat} {port id kind addr beats size : Int} {db sb : Option Addr} {nd dc ns sc : Nat} {m n : Nat} {w : World} (ha : 0 ≤ addr) (ha2 : addr < 18446744073709551616) (hb : beats = 1 ∨ beats = 8) (hm : (m : Int) = 8 * beats) (hn : n ≤ 1000000) (hC : w.heap[C]? = some (.cells #[.int .i64 ((n : Nat) : Int)] 3 (0, 0))) :
    Calls Try.prog 15 #[askV port id kind addr beats (.slice db nd dc) (.slice sb ns sc) size, .pointer (some ⟨C, 0, none⟩)] w (RetCnt C addr kind m n w) := by
  have hlt := lt_of_heap hC
  have hsv : Hid (∀ w1, Calls Try.prog 7 #[askV port id kind addr beats (.slice db nd dc) (.slice sb ns sc) size] w1 (RetServe addr kind m w1)) := fun w1 => serve_calls ha ha2 hb hm
  have hO : Hid (∀ w2, Old (((w.setCell ⟨C, 0, none⟩ (.int .i64 (((n : Nat) : Int) + 1))).alloc (.cells #[.int .i64 port, .int .i64 id, .int .i64 kind, .int .u64 addr, .int .i64 beats, .slice db nd dc, .slice sb ns sc, .int .i64 size] 35)).alloc (.cells #[.int .i64 0, .int .i64 0, .slice none 0 0, .bool false] 43)) w2 No → Old w w2 (fun b => b = C) ∧ w2.heap[C]? = some (.cells #[.int .i64 (((n : Nat) : Int) + 1)] 3 (0, 0)) ∧ w2.heap[w.heap.size + 1]? = some (.cells #[.int .i64 0, .int .i64 0, .slice none 0 0, .bool false] 43 (0, 0))) := by
    intro w2 ho
    refine ⟨((((Old.refl w (fun b => b = C)).setCell _ (.inr rfl)).alloc _).alloc _).trans ho.no, ?_, ?_⟩
    · rw [ho.block C (by rw [al_size, al_size, World.size_setCell]; omega) (fun h => h), al_old (by rw [al_size, World.size_setCell]; omega), al_old (by rw [World.size_setCell]; exact hlt)]
      exact heap_setCell_same _ C 0 _ 3 _ hC
    · rw [ho.block _ (by rw [al_size, al_size, World.size_setCell]; omega) (fun h => h)]
      have h := al_new (w := (w.setCell ⟨C, 0, none⟩ (.int .i64 (((n : Nat) : Int) + 1))).alloc (.cells #[.int .i64 port, .int .i64 id, .int .i64 kind, .int .u64 addr, .int .i64 beats, .slice db nd dc, .slice sb ns sc, .int .i64 size] 35)) (o := .cells #[.int .i64 0, .int .i64 0, .slice none 0 0, .bool false] 43 (0, 0))
      rw [al_size, World.size_setCell] at h
      exact h
  have c0 : w.cell? ⟨C, 0, none⟩ = some (.int .i64 ((n : Nat) : Int)) := by simp [World.cell?, hC]
  have f0 : w.frozen? ⟨C, 0, none⟩ = false := by simp [World.frozen?, hC]
  have hC' := Lib.hid hC
  clear ha ha2 hb hm hC
  go_enter Try.func15, Try.ntmps15
  go_wp2_with (go_at_call 7; refine (hsv.out _).mono ?_; rintro e w2 ⟨dv, rfl, hrd, ho⟩; obtain ⟨⟨bd, cd, rfl, hxd⟩, hyd⟩ := hrd; have hrd' := Lib.hid (show RdS w2 (.slice bd (servedD addr kind m).length cd) (servedD addr kind m) from ⟨⟨bd, cd, rfl, hxd⟩, hyd⟩); clear hxd hyd; have ho' := Lib.hid (hO.out w2 ho); clear ho; obtain ⟨⟨r0, r1, r2, r3⟩, rf⟩ := blk4 ho'.out.2.2; have g0 := rf 0; have g1 := rf 1; have g2 := rf 2; have g3 := rf 3; clear rf)
  refine bodyPost_ret (v := replyV 0 0 (.slice bd (servedD addr kind m).length cd) (oddP addr)) (by simp [results, Try.results15, go_sem, r0, r1, r2, r3]) rfl ⟨_, rfl, ?_, ?_, ?_⟩
  · refine hrd'.out.on (p := fun b => b = w.heap.size + 1) ?_ (fun o hs hp => soft_ne ho'.out.2.2 (by decide) (by decide) hs hp)
    repeat' refine Old.setCell ?_ _ (.inr (by simp))
    exact Old.refl _ _
  · repeat' refine Old.setCell ?_ _ (.inl (by omega))
    exact ho'.out.1
  · rw [heap_setCell_other _ _ _ _ (by show C ≠ w.heap.size + 1; omega), heap_setCell_other _ _ _ _ (by show C ≠ w.heap.size + 1; omega), heap_setCell_other _ _ _ _ (by show C ≠ w.heap.size + 1; omega), heap_setCell_other _ _ _ _ (by show C ≠ w.heap.size + 1; omega)]
    exact ho'.out.2.1
end Go.Proofs.Ytnpgjecifllnaaa
