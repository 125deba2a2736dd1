/- What is proved here: what is put into the bus's rings. Conditions: the block reads as the ring. -/
import Derived.Test.YtnpgjecifllnaaaRing
import Derived.Conc.WalkWords
set_option linter.unusedSimpArgs false
set_option linter.unusedVariables false
namespace Go.Proofs.Ytnpgjecifllnaaa
open Go Go.Conc Go.RowKit

section
variable {P : Program} {ops : Array Oper} {w : World} {Q : Act → Prop} {a : Act} {o : Oper} {rest : List Oper}
theorem still_val (v : Value) (hw : Region.wanted o (yielded ops a.tmps) = true) (hr : ∀ w1, w1 = w → (execOp a.eval o).run P w1 = .ok (.value v) w1) (h : wpStill P ops w Q rest (a.put o.dst v)) : wpStill P ops w Q (o :: rest) a :=
  wpStill_step fun K hK => by
    rw [if_pos hw]
    unfold Oper.still
    rw [hr w rfl, Oper.stillUpon_value]
    exact hK _ h
theorem still_skip (hw : Region.wanted o (yielded ops a.tmps) = false) (h : wpStill P ops w Q rest (a.put o.dst undef)) : wpStill P ops w Q (o :: rest) a :=
  wpStill_step fun K hK => by
    rw [if_neg (by rw [hw]; exact Bool.false_ne_true)]
    exact hK _ h
theorem run_load_cell {g off : Nat} {ty : TypeId} {x : Operand} {d : TypeDesc} {v : Value} (hop : o.op = .load ty x) (hx : a.eval x = .pointer (some ⟨g, off, none⟩)) (hu : P.underlying ty = some d) (hd : d.isRow = false) (hc : w.cell? ⟨g, off, none⟩ = some v) :
    (execOp a.eval o).run P w = .ok (.value v) w := by
  have hagg : (isAgg ty).run P w = .ok false w := by
    unfold isAgg
    rw [Sem.run_bind, run_underlying hu w]
    cases d <;> simp_all
  unfold execOp
  simp [hop, hx, Instr.loadAt, Instr.sureAddr, loadVar, hagg, hc]
end
theorem size77 : (Try.prog.info? 77).map (·.size) = some 14 := by kernel_rfl
theorem run_load_row77 {o : Oper} {a : Act} {w : World} {x : Operand} {g off : Nat} {it : It} (hop : o.op = .load 77 x) (hx : a.eval x = .pointer (some ⟨g, off, none⟩)) (hr : w.rangeAt g off it.cells.toList) : (execOp a.eval o).run Try.prog w = .ok (.value (.agg it.cells)) w := by
  unfold execOp
  simp only [hop, hx, Instr.loadAt, Instr.sureAddr, Sem.run_bind, Sem.run_pure, Result.andThen_ok, run_loadVar_mid w g off 77 it.cells.toList _ hr Try.underlying77 rfl (by rw [size77]; simp [It.size_cells])]
theorem run_rem4 {o : Oper} {a : Act} {w : World} {x y : Operand} {s k : Nat} (hop : o.op = .binOp .rem 3 x y 3) (hx : a.eval x = .int .i64 ((s : Nat) : Int)) (hy : a.eval y = .int .i64 4) (hk : s % 4 = k) : (execOp a.eval o).run Try.prog w = .ok (.value (.int .i64 ((k : Nat) : Int))) w := by
  have h1 : Int.tmod (s : Int) 4 = ((k : Nat) : Int) := by
    rw [Int.tmod_eq_emod_of_nonneg (by omega)]
    omega
  unfold execOp
  simp [hop, hx, hy, Go.binOp]
  go_simp
theorem run_index78 {o : Oper} {a : Act} {w : World} {x y : Operand} {g off k : Nat} (hop : o.op = .indexAddr 78 x y) (hx : a.eval x = .pointer (some ⟨g, off, none⟩)) (hy : a.eval y = .int .i64 ((k : Nat) : Int)) (hk : k < 4) : (execOp a.eval o).run Try.prog w = .ok (.value (.pointer (some ⟨g, off + k * 14, none⟩))) w := by
  obtain ⟨i77, hi, hz, hs, hb⟩ := info_parts info77
  unfold execOp
  simp [hop, hx, hy, Instr.indexAt, asIntOf, run_underlying Try.underlying78, sizeOf, typeInfo, hi, hs, hk, Instr.sureAddr, add_mid]

theorem range_at {w w1 : World} {B o : Nat} {l : List Value} (h : w.rangeAt B o l) (hb : w1.heap[B]? = w.heap[B]?) : w1.rangeAt B o l := fun j v hj => (World.cell?_of_block hb).trans (h j v hj)
theorem Ring.on {w w1 : World} {B off hd : Nat} {q : List It} {p : Nat → Prop} (h : Ring w B off hd q) (ho : Old w w1 p) (hB : B < w.heap.size) (hp : ¬ p B) : Ring w1 B off hd q := by
  have hb := ho.block B hB hp
  exact ⟨h.hd4, h.len, (World.cell?_of_block hb).trans h.head, (World.cell?_of_block hb).trans h.num, fun j x hj => range_at (h.item j x hj) hb, fun j hj => by
    rw [World.cell?_of_block hb, World.frozen?_of_block hb]; exact h.room j hj⟩
theorem range_new {w : World} {c : Array Value} {t : TypeId} : (w.alloc (.cells c t (0, 0))).drew.rangeAt w.heap.size 0 c.toList := by
  intro j v hj
  have h : (w.alloc (.cells c t (0, 0))).drew.heap[w.heap.size]? = some (.cells c t (0, 0)) := al_new
  simp only [World.cell?, h, Nat.zero_add]
  simpa using hj
def RetPush (B off hd : Nat) (q : List It) (w : World) (e : Ending) (w' : World) : Prop := e = .returned (.tuple #[]) ∧ Ring w' B off hd q ∧ Upon w w' B off (off + 58)

set_option maxHeartbeats 1000000 in
set_option maxRecDepth 100000 in
theorem push_calls {B off hd : Nat} {q : List It} {x : It} {w : World} (hB : B < w.heap.size) (hr : Ring w B off hd q) (hq : q.length < 4) :
    Calls Try.prog 32 #[.pointer (some ⟨B, off, none⟩), .agg x.cells] w (RetPush B off hd (q ++ [x]) w) := by
  obtain ⟨n, hn0⟩ : ∃ n, q.length = n := ⟨_, rfl⟩
  obtain ⟨k, hk0⟩ : ∃ k, (hd + n) % 4 = k := ⟨_, rfl⟩
  have hk4 : k < 4 := by omega
  have hd4 := hr.hd4
  rw [hn0] at hq
  have hn' := Lib.hid hn0
  have hk' := Lib.hid hk0
  have hU : Upon w (w.alloc (.cells x.cells 77)).drew B off (off + 58) := Upon.of_old ((Old.refl w No).alloc _).drew hB
  have hr2 : Ring (w.alloc (.cells x.cells 77)).drew B off hd q := hr.on ((Old.refl w No).alloc _).drew hB (fun h => h)
  have hc1 : (w.alloc (.cells x.cells 77)).drew.cell? ⟨B, off + 56, none⟩ = _ := hr2.head
  have hc2 : (w.alloc (.cells x.cells 77)).drew.cell? ⟨B, off + 57, none⟩ = _ := hr2.num
  rw [hn0] at hc2
  have hload : (w.alloc (.cells x.cells 77)).drew.rangeAt w.heap.size 0 x.cells.toList := range_new
  have hU' := Lib.hid hU
  have hr2' := Lib.hid hr2
  have hc1' := Lib.hid hc1
  have hc2' := Lib.hid hc2
  have hl' := Lib.hid hload
  have hB' := Lib.hid hB
  have hroom := Lib.hid hr.room
  clear hr hn0 hk0 hB hU hr2 hc1 hc2 hload
  go_enter Try.func32, Try.ntmps32
  go_wp2_with fail
  refine wp_region_still_tail 15 (by kernel_rfl) (by kernel_rfl) ?_
  simp only [List.take_succ_cons, List.take_zero, List.drop_succ_cons, List.drop_zero]
  have hc1 := hc1'.out
  have hc2 := hc2'.out
  have hload := hl'.out
  refine still_val (.pointer (some ⟨B, off, none⟩)) rfl (fun w hC => by go_simp) ?_
  walk_nrm
  refine still_val (.pointer (some ⟨B, off, none⟩)) rfl (fun w hC => by go_simp) ?_
  walk_nrm
  refine still_val (.pointer (some ⟨B, off, none⟩)) rfl (fun w hC => by go_simp) ?_
  walk_nrm
  refine still_val (.pointer (some ⟨B, (off + 56), none⟩)) rfl (fun w hC => by go_simp) ?_
  walk_nrm
  refine still_val (.int .i64 ((hd : Nat) : Int)) rfl (fun w hC => run_load_cell (d := .int .i64) rfl rfl Try.underlying3 rfl (hC ▸ hc1)) ?_
  walk_nrm
  refine still_val (.pointer (some ⟨B, off, none⟩)) rfl (fun w hC => by go_simp) ?_
  walk_nrm
  refine still_val (.pointer (some ⟨B, off, none⟩)) rfl (fun w hC => by go_simp) ?_
  walk_nrm
  refine still_val (.pointer (some ⟨B, (off + 57), none⟩)) rfl (fun w hC => by go_simp) ?_
  walk_nrm
  refine still_val (.int .i64 ((n : Nat) : Int)) rfl (fun w hC => run_load_cell (d := .int .i64) rfl rfl Try.underlying3 rfl (hC ▸ hc2)) ?_
  walk_nrm
  refine still_val (.int .i64 ((hd + n : Nat) : Int)) rfl (fun w hC => by go_simp; try (rw [IntKind.wrap_i64]; omega)) ?_
  walk_nrm
  refine still_val (.int .i64 ((k : Nat) : Int)) rfl (fun w hC => run_rem4 rfl rfl rfl hk'.out) ?_
  walk_nrm
  refine still_val (.agg x.cells) rfl (fun w hC => run_load_row77 rfl rfl (hC ▸ hload)) ?_
  walk_nrm
  refine still_val (.pointer (some ⟨B, off, none⟩)) rfl (fun w hC => by go_simp) ?_
  walk_nrm
  refine still_val (.pointer (some ⟨B, off, none⟩)) rfl (fun w hC => by go_simp) ?_
  walk_nrm
  refine still_val (.pointer (some ⟨B, (off + k * 14), none⟩)) rfl (fun w hC => run_index78 rfl rfl rfl hk4) ?_
  walk_nrm
  refine wpStill_nil ?_
  clear hc1 hc2 hload
  refine wpList_store_mid rfl 77 _ _ rfl B (off + k * 14) x.cells rfl rfl (fun j hj => by have h := hr2'.out.room (k * 14 + j) (by rw [It.size_cells] at hj; omega); rw [← Nat.add_assoc] at h; exact h) (by rw [size77]; rfl) x.one ?_
  obtain ⟨w3, hw3⟩ : ∃ w3, w3 = (w.alloc (.cells x.cells 77)).drew.setCells B (off + k * 14) x.cells.toList := ⟨_, rfl⟩
  have hW3 : { w.alloc (.cells x.cells 77) with drawn := (w.alloc (.cells x.cells 77)).drawn + 1 }.setCells B (off + k * 14) x.cells.toList = w3 := hw3.symm
  rw [hW3]
  have hU3 : Hid (Upon w w3 B off (off + 58)) := by rw [hw3]; exact Upon.setCells _ _ _ hU'.out (by omega) (by simp [It.size_cells]; omega)
  have hc57 : w3.cell? ⟨B, off + 57, none⟩ = some (.int .i64 ((n : Nat) : Int)) := by rw [hw3, World.cell?_setCells_out _ _ _ _ _ (fun _ _ => by right; simp [It.size_cells]; omega)]; exact hc2'.out
  have hf57 : w3.frozen? ⟨B, off + 57, none⟩ = false := by rw [hw3, World.frozen?_setCells]; exact (hr2'.out.room 57 (by omega)).2
  have hw3' := Lib.hid hw3
  clear hW3 hw3
  go_wp2
  go_end0
  refine ⟨rfl, ?_, hU3.out.setCell _ (by omega) (by omega)⟩
  have hr3 := hr2'.out
  have hn := hn'.out
  have hk := hk'.out
  have hw3 := hw3'.out
  have hlen : x.cells.toList.length = 14 := by simp [It.size_cells]
  have hap : ∀ {o' : Nat} {cs : List Value}, (w.alloc (.cells x.cells 77)).drew.rangeAt B o' cs → o' + cs.length ≤ off + k * 14 ∨ off + k * 14 + 14 ≤ o' → o' + cs.length ≤ off + 57 ∨ off + 58 ≤ o' → (w3.setCell ⟨B, off + 57, none⟩ (.int .i64 ((n : Int) + 1))).rangeAt B o' cs := by
    intro o' cs h h1 h2
    have h3 : w3.rangeAt B o' cs := by rw [hw3]; exact World.rangeAt_setCells_apart h B (off + k * 14) _ (.inr (by rw [hlen]; exact h1))
    exact World.rangeAt_setCells_apart h3 B (off + 57) [.int .i64 ((n : Int) + 1)] (.inr h2)
  refine ⟨hd4, by simp; omega, ?_, ?_, fun j y hj => ?_, ?_⟩
  · have h := hap (o' := off + 56) (cs := [.int .i64 ((hd : Nat) : Int)]) (fun j v hj => by
      have hj0 : j = 0 := by have := (List.getElem?_eq_some_iff.1 hj).1; simp at this; exact this
      subst hj0
      simp at hj
      subst hj
      exact hr3.head) (by simp; omega) (by simp)
    exact h 0 _ rfl
  · rw [World.cell?_setCell_same _ _ _ hc57]
    simp [hn]
  · rcases Nat.lt_or_ge j q.length with hlt | hge
    · rw [List.getElem?_append_left hlt] at hj
      refine hap (hr3.item j y hj) ?_ ?_
      · simp only [Array.length_toList, It.size_cells]
        rcases Nat.lt_or_ge ((hd + j) % 4) k with h | h
        · left; omega
        · right
          have : (hd + j) % 4 ≠ k := by omega
          omega
      · left
        simp only [Array.length_toList, It.size_cells]
        omega
    · rw [List.getElem?_append_right hge] at hj
      have hj0 : j = n := by have := (List.getElem?_eq_some_iff.1 hj).1; simp at this; omega
      subst hj0
      simp [hn] at hj
      subst hj
      rw [hk]
      have h3 : w3.rangeAt B (off + k * 14) x.cells.toList := by rw [hw3]; exact World.rangeAt_setCells_same _ _ _ _ (fun i hi => by rw [hlen] at hi; have h := hr3.room (k * 14 + i) (by omega); rw [← Nat.add_assoc] at h; exact h)
      exact World.rangeAt_setCells_apart h3 B (off + 57) [.int .i64 ((j : Int) + 1)] (.inr (.inl (by rw [hlen]; omega)))
  · exact World.there_setCells (hU3.out.there _ _ hroom.out) B (off + 57) [_]
end Go.Proofs.Ytnpgjecifllnaaa
