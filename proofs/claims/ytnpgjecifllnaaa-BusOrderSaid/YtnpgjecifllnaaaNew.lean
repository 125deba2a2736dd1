/- What is proved here: New. Conditions: the bound as it may be. -/
import Derived.Test.YtnpgjecifllnaaaTick
set_option linter.unusedSimpArgs false
set_option linter.unusedVariables false
namespace Go.Proofs.Ytnpgjecifllnaaa
open Go Go.Conc Go.RowKit

def ring0 : List Value := It.none.cells.toList ++ It.none.cells.toList ++ It.none.cells.toList ++ It.none.cells.toList ++ [.int .i64 0, .int .i64 0]
def z84 : Array Value := (([Value.int .i64 0, Value.nilFunc] : List Value) ++ ring0 ++ ring0 ++ ring0 ++ ([Value.slice none 0 0, Value.slice none 0 0] : List Value)).toArray
theorem info84 : (Try.prog.info? 84).map (fun i => (i.zero, i.size, i.bytes)) = some (some (.agg z84), 178, 2032) := by kernel_rfl
theorem z84_size : z84.size = 178 := by kernel_rfl
theorem z84_ne : ¬ z84 = #[] := fun h => by have := z84_size; rw [h] at this; cases this
theorem run_zero84 (w : World) : (zeroValue 84).run Try.prog w = .ok (.agg z84) w := by
  obtain ⟨i, hi, hz, _, _⟩ := info_parts info84
  unfold zeroValue
  simp [typeInfo, hi, hz]
def new84 (m : Int) (sv : Value) : Array Value := (z84.setIfInBounds 0 (.int .i64 m)).setIfInBounds 1 sv
theorem new84_size (m : Int) (sv : Value) : (new84 m sv).size = 178 := by simp [new84, z84_size]
theorem new84_0 (m : Int) (sv : Value) : (new84 m sv)[0]? = some (.int .i64 m) := by simp [new84, Array.getElem?_setIfInBounds, z84_size]
theorem new84_1 (m : Int) (sv : Value) : (new84 m sv)[1]? = some sv := by simp [new84, Array.getElem?_setIfInBounds, z84_size]
theorem new84_more (m : Int) (sv : Value) (j : Nat) (h : 2 ≤ j) : (new84 m sv)[j]? = z84[j]? := by
  simp only [new84, Array.getElem?_setIfInBounds]
  rw [if_neg (by omega), if_neg (by omega)]
theorem z58 : z84[58]? = some (.int .i64 0) := by kernel_rfl
theorem z59 : z84[59]? = some (.int .i64 0) := by kernel_rfl
theorem z116 : z84[116]? = some (.int .i64 0) := by kernel_rfl
theorem z117 : z84[117]? = some (.int .i64 0) := by kernel_rfl
theorem z174 : z84[174]? = some (.int .i64 0) := by kernel_rfl
theorem z175 : z84[175]? = some (.int .i64 0) := by kernel_rfl
theorem z176 : z84[176]? = some (.slice none 0 0) := by kernel_rfl
theorem z177 : z84[177]? = some (.slice none 0 0) := by kernel_rfl
def Mst.new (m : Int) : Mst := ⟨m, fun _ => [], [], []⟩
theorem Mst.new_ok {m : Int} (h0 : 0 ≤ m) (h1 : m ≤ 1000) (T : Nat) : (Mst.new m).ok T := ⟨h0, h1, fun k _ a ha => by simp [Mst.new] at ha, fun y hy => by simp [Mst.new] at hy, by simp [Mst.new], by simp [Mst.new], fun a ha => by simp [Mst.new] at ha⟩

theorem new_rep {w : World} {m : Int} {sv : Value} {B : Nat} (hB : w.heap[B]? = some (.cells (new84 m sv) 84 (0, 0))) : RepX w B sv (Mst.new m) (fun _ => 0) (fun _ => []) (.slice none 0 0) [] (.slice none 0 0) [] := by
  have hc : ∀ j v, (new84 m sv)[j]? = some v → w.cell? ⟨B, j, none⟩ = some v := fun j v h => by simp only [World.cell?, hB]; simpa using h
  have hz : ∀ j, w.frozen? ⟨B, j, none⟩ = false := fun j => by simp [World.frozen?, hB]
  have hth : ∀ o n, o + n ≤ 178 → w.there B o n := fun o n h j hj => by
    refine ⟨?_, hz _⟩
    have h2 : o + j < (new84 m sv).size := by rw [new84_size]; omega
    rw [hc (o + j) _ (Array.getElem?_eq_getElem h2)]
    rfl
  have hm : ∀ j v, 2 ≤ j → z84[j]? = some v → w.cell? ⟨B, j, none⟩ = some v := fun j v h1 h2 => hc j v ((new84_more m sv j h1).trans h2)
  refine ⟨⟨lt_of_heap hB, ⟨_, hB⟩, hc 0 _ (new84_0 m sv), hc 1 _ (new84_1 m sv), fun k hk => ?_, hm 176 _ (by omega) z176, ⟨none, 0, rfl, fun i x h => by simp at h⟩, by simp⟩, hth 0 178 (by omega), ⟨rfl, .inl ⟨rfl, rfl⟩⟩, hm 177 _ (by omega) z177, ⟨rfl, .inl ⟨rfl, rfl⟩⟩, fun k hk => All2.nil, All2.nil, All2.nil⟩
  have h012 : k = 0 ∨ k = 1 ∨ k = 2 := by omega
  refine ⟨by omega, by simp, ?_, ?_, fun j x h => by simp at h, hth _ _ (by omega)⟩
  · rcases h012 with rfl | rfl | rfl
    · exact hm 58 _ (by omega) z58
    · exact hm 116 _ (by omega) z116
    · exact hm 174 _ (by omega) z174
  · rcases h012 with rfl | rfl | rfl
    · exact hm 59 _ (by omega) z59
    · exact hm 117 _ (by omega) z117
    · exact hm 175 _ (by omega) z175

set_option maxHeartbeats 4000000 in
set_option maxRecDepth 100000 in
theorem new_calls {m : Int} {s : Sv} {w : World} (h0 : 0 ≤ m) (h1 : m ≤ 1000) :
    Calls Try.prog 6 #[.int .i64 m, s.val] w (fun e w' => e = .returned (.tuple #[.pointer (some ⟨w.heap.size, 0, none⟩), .int .i64 0]) ∧ w' = w.alloc (.cells (new84 m s.val) 84)) := by
  have hlt : (m < 0) = False := by simp; omega
  have hgt : (1000 < m) = False := by simp; omega
  have hn7 : ∀ w, (Go.binOp .eql 29 (.func (.func 7) #[] #[]) .nilFunc).run Try.prog w = .ok (.bool false) w := fun w => rfl
  have hn15 : ∀ C w, (Go.binOp .eql 29 (.func (.func 15) #[] #[.pointer (some ⟨C, 0, none⟩)]) .nilFunc).run Try.prog w = .ok (.bool false) w := fun C w => rfl
  have hz := run_zero84
  have hne : (z84 = #[]) = False := by simp [z84_ne]
  have hsz := z84_size
  cases s <;> simp only [Sv.val]
  all_goals
    go_enter Try.func6, Try.ntmps6
    go_wp2
    exact bodyPost_ret (v := .tuple #[.pointer (some ⟨w.heap.size, 0, none⟩), .int .i64 0]) (by simp [results, Try.results6, go_sem]) rfl ⟨rfl, rfl⟩
end Go.Proofs.Ytnpgjecifllnaaa
