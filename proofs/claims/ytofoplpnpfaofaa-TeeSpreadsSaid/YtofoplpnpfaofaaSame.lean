/- What is proved here: two lists of alike records are found alike, alone. Conditions: both read as the same records, their cells of the fields' kinds. -/
import Derived.Test.YtofoplpnpfaofaaAlike
import Derived.WalkKit
import Derived.WalkSpells
import Derived.WalkLawsBesides
import Derived.IntWalk
import Derived.Lib.Hide
set_option linter.unusedSimpArgs false
set_option linter.unusedVariables false
namespace Go.Proofs.Ytofoplpnpfaofaa
open Go Go.Conc Go.RowKit


theorem Old.trans {w w1 w2 : World} (h1 : Old w w1 (fun _ => False)) (h2 : Old w1 w2 (fun _ => False)) : Old w w2 (fun _ => False) :=
  ⟨Nat.le_trans h1.size h2.size, h2.os.trans h1.os, h2.output.trans h1.output, fun b hb _ => (h2.block b (Nat.lt_of_lt_of_le hb h1.size) id).trans (h1.block b hb id)⟩
theorem Old.sw {w w1 : World} {but : Nat → Prop} (h : Old w w1 but) (τ : Nat → Question → Nat) (d : Nat) : Old w (Ytofoplpnpfaofaa.sw w1 τ d) but := ⟨h.size, h.os, h.output, h.block⟩
theorem Old.alloc {w w1 : World} (h : Old w w1 (fun _ => False)) (o : Obj) : Old w (w1.alloc o) (fun _ => False) :=
  h.trans ⟨by rw [alloc_size]; omega, rfl, rfl, fun b hb _ => alloc_old hb⟩
theorem Old.cell {w w1 : World} {but : Nat → Prop} (h : Old w w1 but) {g o : Nat} (hb : g < w.heap.size) (hn : ¬ but g) : w1.cell? ⟨g, o, none⟩ = w.cell? ⟨g, o, none⟩ := World.cell?_of_block (h.block g hb hn)
theorem Old.range {w w1 : World} {but : Nat → Prop} (h : Old w w1 but) {g o : Nat} {l : List Value} (hb : g < w.heap.size) (hn : ¬ but g) (hr : w.rangeAt g o l) : w1.rangeAt g o l := fun j v hj => (h.cell hb hn).trans (hr j v hj)

theorem run_index22 {o : Oper} {a : Act} {w : World} {x y : Operand} {g q n c i : Nat} (hop : o.op = .indexAddr 22 x y) (hx : a.eval x = .slice (some ⟨g, q, none⟩) n c) (hy : a.eval y = .int .i64 ((i : Nat) : Int)) (hlt : i < n) :
    (execOp a.eval o).run Try.prog w = .ok (.value (.pointer (some ⟨g, q + i * 12, none⟩))) w := by
  obtain ⟨i27, hi, hz, hs27, hb27⟩ := info_parts info27
  unfold execOp
  simp [hop, hx, hy, Instr.indexAt, asIntOf, run_underlying Try.underlying22, sizeOf, typeInfo, hi, hs27, hlt, Addr.add]

theorem run_load_row27 {o : Oper} {a : Act} {w : World} {x : Operand} {g q : Nat} {v : Value} (hop : o.op = .load 27 x) (hx : a.eval x = .pointer (some ⟨g, q, none⟩)) (hv : Rec12 v) (hr : w.rangeAt g q v.cells.toList) :
    (execOp a.eval o).run Try.prog w = .ok (.value v) w := by
  obtain ⟨i27, hi, hz, hs27, hb27⟩ := info_parts info27
  obtain ⟨cells, rfl, hs, _⟩ := hv
  exact run_load_row hop hx Try.underlying27 rfl (by simp [hi, hs27, hs]) hr

set_option maxRecDepth 100000 in
theorem calls18 {v : Value} (hv : RecT v) (w : World) : Calls Try.prog 18 #[v, v] w fun e w' => e = .returned (.bool true) ∧ Old w w' (fun _ => False) := by
  have h27 := eq27 hv
  have hg := fun (w : World) (x y : Operand) cs => run_eqGuard_agg (P := Try.prog) w .eql 27 x y cs cs guard27
  obtain ⟨a0, a1, a2, b, a4, a5, a6, a7, a8, a9, a10, a11, rfl⟩ := hv
  go_enter Try.func18, Try.ntmps18
  go_wp2
  go_ret
  exact ⟨rfl, ((Old.refl w _).alloc _).alloc _⟩

/-- A list's i-th record stands there. -/
def RowAt (w : World) (b : Option Addr) (vs : List Value) : Prop := ∀ i v, vs[i]? = some v → ∃ o q, b = some ⟨o, q, none⟩ ∧ o < w.heap.size ∧ w.rangeAt o (q + i * 12) v.cells.toList

theorem Rows.at {w : World} {v : Value} {vs : List Value} (h : Rows w v vs) : ∃ base cap, v = .slice base vs.length cap ∧ RowAt w base vs := by
  obtain ⟨base, cap, rfl, hx⟩ := h.own
  refine ⟨base, cap, rfl, fun i v hi => ?_⟩
  have hlt := (List.getElem?_eq_some_iff.1 hi).1
  obtain ⟨ob, oo, e, hb, _, hr⟩ := hx (by omega)
  obtain ⟨cells, rfl, _⟩ := h.recs v (List.mem_of_getElem? hi)
  exact ⟨ob, oo, e, hb, hr i cells hi⟩

def RetOld (v : Value) (w : World) (e : Ending) (w' : World) : Prop := e = .returned v ∧ Old w w' (fun _ => False)
def At17 (n : Nat) (w : World) (v : Value) (wr : World) : Prop := ∃ i : Nat, i ≤ n ∧ v = .int .i64 i ∧ Old w wr (fun _ => False)

set_option maxRecDepth 100000 in
theorem same_calls {b1 b2 : Option Addr} {n c1 c2 : Nat} {vs : List Value} {w : World} (hl : vs.length = n) (h63 : n ≤ 9223372036854775806) (hv : ∀ v ∈ vs, RecT v) (h1 : RowAt w b1 vs) (h2 : RowAt w b2 vs) :
    Calls Try.prog 17 #[.slice b1 n c1, .slice b2 n c2, .func (.func 18) #[] #[]] w (RetOld (.bool true) w) := by
  have hlow := Lib.hid hl
  have h1' := Lib.hid h1
  have h2' := Lib.hid h2
  have hv' := Lib.hid hv
  clear hl h1 h2 hv
  go_enter Try.func17, Try.ntmps17
  go_wp2
  go_loopw [7] (fun v wr => At17 n w v wr) (fun v _ => n - (intOf v).toNat)
  case atStart => exact ⟨0, Nat.zero_le _, rfl, Old.refl _ _⟩
  case round =>
    obtain ⟨i, hi, rfl, ho⟩ := hrel
    go_wp2
    · have hlt : i < n := by assumption
      obtain ⟨v, hvi⟩ : ∃ v, vs[i]? = some v := ⟨vs[i]'(by have := hlow.out; omega), List.getElem?_eq_getElem _⟩
      have hv := hv'.out v (List.mem_of_getElem? hvi)
      obtain ⟨o1, q1, rfl, hb1, hr1'⟩ := h1'.out i v hvi
      obtain ⟨o2, q2, rfl, hb2, hr2'⟩ := h2'.out i v hvi
      have hr1 : ∀ w1, Old w w1 (fun _ => False) → w1.rangeAt o1 (q1 + i * 12) v.cells.toList := fun w1 h => h.range hb1 id hr1'
      have hr2 : ∀ w1, Old w w1 (fun _ => False) → w1.rangeAt o2 (q2 + i * 12) v.cells.toList := fun w1 h => h.range hb2 id hr2'
      refine wp_region_quiet (C := fun w1 => Old w w1 (fun _ => False)) (by kernel_rfl) (by kernel_rfl) ⟨ho.size, ho.os, ho.output, ho.block⟩ ?_
      refine wpQuiet_val (.func (.func 18) #[] #[]) rfl (fun w hC => by go_simp) ?_
      walk_nrm
      refine wpQuiet_val (.slice (some ⟨o1, q1, none⟩) n c1) rfl (fun w hC => by go_simp) ?_
      walk_nrm
      refine wpQuiet_val (.int .i64 i) rfl (fun w hC => by go_simp) ?_
      walk_nrm
      refine wpQuiet_val (.pointer (some ⟨o1, q1 + i * 12, none⟩)) rfl (fun w hC => run_index22 rfl rfl rfl hlt) ?_
      walk_nrm
      refine wpQuiet_val (v) rfl (fun w hC => run_load_row27 rfl rfl hv.rec (hr1 w hC)) ?_
      walk_nrm
      refine wpQuiet_val (.slice (some ⟨o2, q2, none⟩) n c2) rfl (fun w hC => by go_simp) ?_
      walk_nrm
      refine wpQuiet_val (.int .i64 i) rfl (fun w hC => by go_simp) ?_
      walk_nrm
      refine wpQuiet_val (.pointer (some ⟨o2, q2 + i * 12, none⟩)) rfl (fun w hC => run_index22 rfl rfl rfl hlt) ?_
      walk_nrm
      refine wpQuiet_val (v) rfl (fun w hC => run_load_row27 rfl rfl hv.rec (hr2 w hC)) ?_
      walk_nrm
      refine wpQuiet_call (.bool true) (f := 18) (args := #[v, v]) rfl (fun w hC => by go_simp) (fun w1 hC => (calls18 hv w1).mono fun e w2 h => ⟨h.1, hC.trans h.2⟩) ?_
      walk_nrm
      refine wpQuiet_val (.bool false) rfl (fun w hC => by go_simp) ?_
      walk_nrm
      refine wpQuiet_nil fun w2 ho2 => ?_
      clear hr1 hr2 hr1' hr2' hvi
      go_wp2
      go_roundw
      case rel => exact ⟨i + 1, by omega, by go_num, ho2⟩
      case measure => simp [intOf]; omega
    · have hge : ¬ i < n := by assumption
      go_ret
      exact ⟨rfl, ho⟩

set_option maxRecDepth 100000 in
theorem plain_calls {b1 b2 : Option Addr} {n c1 c2 : Nat} {vs : List Value} {w : World} (hl : vs.length = n) (h63 : n ≤ 9223372036854775806) (hv : ∀ v ∈ vs, RecT v) (h1 : RowAt w b1 vs) (h2 : RowAt w b2 vs) :
    Calls Try.prog 10 #[.slice b1 n c1, .slice b2 n c2] w (RetOld (.bool true) w) := by
  have hs := Lib.hid (same_calls (c1 := c1) (c2 := c2) hl h63 hv h1 h2)
  clear hl h1 h2 hv
  go_enter Try.func10, Try.ntmps10
  go_wp2_with (go_at_call 17; refine hs.out.mono ?_; rintro e w1 ⟨rfl, ho⟩)
  go_ret
  exact ⟨rfl, ho⟩
end Go.Proofs.Ytofoplpnpfaofaa
