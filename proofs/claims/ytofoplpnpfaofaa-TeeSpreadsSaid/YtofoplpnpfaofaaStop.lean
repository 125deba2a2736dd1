/- What is proved here: the law's own closure, and slices.Clone, alone. Conditions: the records' cells are of the fields' kinds; the room of the copy. -/
import Derived.Test.YtofoplpnpfaofaaKept
import Derived.OneCell
set_option linter.unusedSimpArgs false
set_option linter.unusedVariables false
namespace Go.Proofs.Ytofoplpnpfaofaa
open Go Go.Conc Go.RowKit

def pcOf : Value → Int
  | .agg cells => match cells[1]? with
    | some (Value.int _ a) => a
    | _ => 0
  | _ => 0

theorem run_eql24 {o : Oper} {a : Act} {w : World} {x y : Operand} {p q : Int} (hop : o.op = .binOp .eql 24 x y 24) (hx : a.eval x = .int .u64 p) (hy : a.eval y = .int .u64 q) : (execOp a.eval o).run Try.prog w = .ok (.value (.bool (p == q))) w := by
  unfold execOp
  simp [hop, hx, hy]
  go_simp

set_option maxRecDepth 100000 in
theorem stop_calls {v : Value} {ab pb k : Nat} {pc : Int} {w : World} (hv : RecT v) (ha : w.heap[ab]? = some (.cells #[.int .i64 k] 3 (0, 0))) (hp : w.cell? ⟨pb, 0, none⟩ = some (.int .u64 pc)) (hk : k ≤ 9223372036854775806) (hne : ab ≠ pb) :
    Calls Try.prog 12 #[v, .pointer (some ⟨ab, 0, none⟩), .pointer (some ⟨pb, 0, none⟩)] w fun e w' => e = .returned (.bool (pcOf v == pc)) ∧ Old w w' (fun b => b = ab) ∧ w'.heap[ab]? = some (.cells #[.int .i64 ((k + 1 : Nat) : Int)] 3 (0, 0)) := by
  have hal := lt_of_heap ha
  have hca : w.cell? ⟨ab, 0, none⟩ = some (.int .i64 k) := by simp [World.cell?, ha]
  have hfa : w.frozen? ⟨ab, 0, none⟩ = false := by simp [World.frozen?, ha]
  obtain ⟨a0, a1, a2, b, a4, a5, a6, a7, a8, a9, a10, a11, rfl⟩ := hv
  have hpb : pb < w.heap.size := by
    unfold World.cell? at hp
    split at hp
    · rename_i e; exact lt_of_heap e
    · cases hp
  have ha' := Lib.hid ha
  clear ha
  go_enter Try.func12, Try.ntmps12
  go_wp2
  go_ret
  refine ⟨rfl, ⟨?_, rfl, rfl, fun c hc hn => ?_⟩, ?_⟩
  · rw [alloc_size, World.size_setCell]; omega
  · rw [alloc_old (by rw [World.size_setCell]; exact hc)]
    exact heap_setCell_other _ _ _ _ hn
  · rw [alloc_old (by rw [World.size_setCell]; exact hal), one_setCell ha'.out]
    rfl

def RetRows (vs : List Value) (w : World) (e : Ending) (w' : World) : Prop := ∃ v, e = .returned v ∧ Rows w' v vs ∧ Old w w' (fun _ => False)

set_option maxRecDepth 100000 in
theorem clone_calls {base : Option Addr} {cap n : Nat} {vs : List Value} {w : World} (hl : vs.length = n) (hv : ∀ v ∈ vs, Rec12 v) (h : RowAt w base vs) (hb : n * 88 ≤ 140737488355328) : Calls Try.prog 14 #[.slice base n cap] w (RetRows vs w) := by
  obtain ⟨i27, hi, hz, hs27, hb27⟩ := info_parts info27
  cases hbs : base with
  | none =>
    have hv : vs = [] := by
      cases vs with
      | nil => rfl
      | cons v vs => obtain ⟨_, _, e, _⟩ := h 0 v rfl; rw [hbs] at e; cases e
    subst hv
    clear hb
    have hnil : ∀ w, (Go.binOp .eql 22 (.slice none n cap) (.slice none 0 0)).run Try.prog w = .ok (.bool true) w := fun w => rfl
    clear hl
    go_enter Try.func14, Try.ntmps14
    go_wp2
    go_ret
    exact ⟨_, rfl, ⟨by simp, none, 0, rfl, fun hp => by simp at hp⟩, Old.refl _ _⟩
  | some ad =>
    have hnews : ∀ j u, (cellsOf vs)[j]? = some u → (w.alloc (.cells #[] 27)).cell? (ad.add j) = some u := by
      intro j u hj
      obtain ⟨cells, h1, h2⟩ := cellsOf_inv hv hj
      obtain ⟨ob, oo, e, hlt, hread⟩ := h _ _ h1
      rw [hbs] at e
      cases e
      have h3 := hread _ _ h2
      rw [Addr.add_mid]
      rw [show oo + j / 12 * 12 + j % 12 = oo + j by omega] at h3
      rw [← h3]
      exact World.cell?_of_block (alloc_old hlt)
    have hown : (w.alloc (.cells #[] 27)).ownsRow w.heap.size 27 12 (.slice (some ⟨w.heap.size, 0, none⟩) 0 0) 0 [] :=
      ⟨rfl, .inr ⟨w.heap.size, 0, #[], rfl, Nat.le_refl _, alloc_new, Nat.le_refl _, by simp [maxLen], rfl, rfl⟩⟩
    have hnews' := Lib.hid hnews
    have hown' := Lib.hid hown
    have hb' := Lib.hid hb
    have hv' := Lib.hid hv
    have hl' := Lib.hid hl
    have hlen := Lib.hid (cellsOf_len hv)
    have hone := Lib.hid (cellsOf_one hv)
    clear hnews hown hb hbs h hv hl
    have hnil : ∀ w, (Go.binOp .eql 22 (.slice (some ad) n cap) (.slice none 0 0)).run Try.prog w = .ok (.bool false) w := fun w => rfl
    go_enter Try.func14, Try.ntmps14
    go_wp2_with (at_builtin; refine wpList_append_own _ rfl _ _ 22 rfl w.heap.size 27 i27 (.agg zRec) 12 88 Try.underlying22 hi hz hs27 hb27 rfl (by decide) _ _ _ rfl hown'.out ad n cap (cellsOf vs) rfl (by rw [hlen.out, hl'.out]) hnews'.out hone.out (by have := hb'.out; unfold maxLen; omega) (by have := hb'.out; omega) (by rw [alloc_size]; omega) ?_; intro v' w1 hown1 hgrow _)
    clear hnil
    go_ret
    refine ⟨v', rfl, rows_of (B := w.heap.size) hv'.out ?_, ?_, hgrow.os, hgrow.output, fun b hb _ => ?_⟩
    · rw [hl'.out]; simpa using hown1
    · have h1 := hgrow.size
      rw [alloc_size] at h1
      omega
    · rw [hgrow.block b (by rw [alloc_size]; omega) (by simp [Value.ownBlock, Act.eval]; omega)]
      exact alloc_old hb
end Go.Proofs.Ytofoplpnpfaofaa
