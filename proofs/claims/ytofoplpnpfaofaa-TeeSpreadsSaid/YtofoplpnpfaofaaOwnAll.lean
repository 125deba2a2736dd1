/- What is proved here: a copy with spare room behind it, whole. Conditions: the list reads as records; at most 1000 of them. -/
import Derived.Test.YtofoplpnpfaofaaOwnMid
set_option linter.unusedSimpArgs false
set_option linter.unusedVariables false
namespace Go.Proofs.Ytofoplpnpfaofaa
open Go Go.Conc Go.RowKit

theorem run_append_void {w : World} {g n c cap : Nat} (hr : n ≤ c) : (Builtin.append_ #[22, 22] 22 #[.slice (some ⟨g, 0, none⟩) n c, .slice none 0 cap]).run Try.prog w = .ok (.slice (some ⟨g, 0, none⟩) n c) w := by
  obtain ⟨i27, hi, hz, hs27, hb27⟩ := info_parts info27
  simp [Builtin.append_, run_underlying Try.underlying22, sizeOf, typeInfo, hi, Builtin.lenOf, hr, run_firstCells_none, Addr.add_lit]
  simp [storeCells]

/-- What a copy with spare room behind it is. -/
structure Owned (w' : World) (N0 : Nat) (v : Value) (vs : List Value) (fill : Array Value) : Prop where
  own : ∃ N arr, v = .slice (some ⟨N, 0, none⟩) vs.length (vs.length + 3) ∧ N0 ≤ N ∧ w'.heap[N]? = some (.cells arr 27 (0, 0)) ∧ arr.toList = cellsOf vs ++ (List.replicate 3 fill.toList).flatten

theorem own_goes {lv : Value} {vs : List Value} {fill : Array Value} {w : World} (h : Rows w lv vs) (hn : vs.length ≤ 1000) (hfs : fill.size = 12) (hf1 : ∀ u ∈ fill.toList, u.oneCell' = true) (c : Frame) (cs : List Frame) :
    GoesI Try.prog (fun g w' => ∃ v, g = G (c.finish v) cs ∧ Owned w' w.heap.size v vs fill ∧ Old w w' (fun _ => False)) (G (Frame.enter Try.prog 6 #[lv, .agg fill] .normal) (c :: cs)) w := by
  obtain ⟨base, cap, rfl, hx⟩ := h.own
  obtain ⟨i27, hi, hz, hs27, hb27⟩ := info_parts info27
  refine own_start hn fun d d1 T _ => ?_
  have hW1 : ∀ d2, (((((w.at d).alloc (.cells fill 27)).at d1).alloc (.cells (madeCells zRec ((vs.length + 3) * 12)) 27)).at d2).heap[w.heap.size]? = some (.cells fill 27 (0, 0)) := by
    intro d2
    have h1 : ((w.at d).alloc (.cells fill 27)).heap[w.heap.size]? = some (.cells fill 27 (0, 0)) := alloc_new (w := w.at d)
    rw [← h1]
    exact alloc_old (w := ((w.at d).alloc (.cells fill 27)).at d1) (by show _ < (w.heap.push _).size; simp)
  have hsz : ((w.at d).alloc (.cells fill 27)).heap.size = w.heap.size + 1 := alloc_size (w := w.at d)
  have hW2 : ∀ d2, (((((w.at d).alloc (.cells fill 27)).at d1).alloc (.cells (madeCells zRec ((vs.length + 3) * 12)) 27)).at d2).heap[w.heap.size + 1]? = some (.cells (madeCells zRec ((vs.length + 3) * 12)) 27 (0, 0)) := by
    intro d2
    have h1 := alloc_new (w := ((w.at d).alloc (.cells fill 27)).at d1) (o := .cells (madeCells zRec ((vs.length + 3) * 12)) 27 (0, 0))
    rw [show (((w.at d).alloc (.cells fill 27)).at d1).heap.size = w.heap.size + 1 from hsz] at h1
    exact h1
  have hold : ∀ d2 b, b < w.heap.size → (((((w.at d).alloc (.cells fill 27)).at d1).alloc (.cells (madeCells zRec ((vs.length + 3) * 12)) 27)).at d2).heap[b]? = w.heap[b]? := by
    intro d2 b hb
    have h1 : ((w.at d).alloc (.cells fill 27)).heap[b]? = w.heap[b]? := alloc_old (w := w.at d) hb
    rw [← h1]
    exact alloc_old (w := ((w.at d).alloc (.cells fill 27)).at d1) (by show b < (w.heap.push _).size; simp; omega)
  have hsize : ∀ d2, (((((w.at d).alloc (.cells fill 27)).at d1).alloc (.cells (madeCells zRec ((vs.length + 3) * 12)) 27)).at d2).heap.size = w.heap.size + 2 := by
    intro d2
    have h1 := alloc_size (w := ((w.at d).alloc (.cells fill 27)).at d1) (o := .cells (madeCells zRec ((vs.length + 3) * 12)) 27 (0, 0))
    rw [show (((w.at d).alloc (.cells fill 27)).at d1).heap.size = w.heap.size + 1 from hsz] at h1
    exact h1
  have hmade : (madeCells zRec ((vs.length + 3) * 12)).size = (vs.length + 3) * 12 := size_madeCells _ _
  -- the world behind the append
  have fin : ∀ (w2 : World) (arr : Array Value), w2.heap[w.heap.size]? = some (.cells fill 27 (0, 0)) → w2.heap[w.heap.size + 1]? = some (.cells arr 27 (0, 0)) → arr.size = (vs.length + 3) * 12 → arr.toList.take (vs.length * 12) = cellsOf vs →
      (∀ b, b < w.heap.size → w2.heap[b]? = w.heap[b]?) → w2.heap.size = w.heap.size + 2 → w2.os = w.os → w2.output = w.output → ∀ T', GoesI Try.prog (fun g w' => ∃ v, g = G (c.finish v) cs ∧ Owned w' w.heap.size v vs fill ∧ Old w w' (fun _ => False)) (at6 w.heap.size (w.heap.size + 1) vs.length vs.length T' (c :: cs)) w2 := by
    intro w2 arr e1 e2 e3 e4 e5 e6 e7 e8 T'
    refine GoesI.mono ?_ (own_loop hn hfs hf1 (by omega) 3 vs.length arr T' w2 rfl e1 e2 e3)
    rintro g w3 ⟨rfl, ⟨arr', f1, f2⟩, f3, f4, f5, f6⟩
    refine ⟨_, rfl, ⟨w.heap.size + 1, arr', rfl, by omega, f1, by rw [f2, e4]⟩, ⟨by omega, f5.trans e7, f6.trans e8, fun b hb _ => ?_⟩⟩
    rw [f3 b (by omega), e5 b hb]
  refine own_mid hn fun d2 => ?_
  generalize hwq : ((((w.at d).alloc (.cells fill 27)).at d1).alloc (.cells (madeCells zRec ((vs.length + 3) * 12)) 27)) = w1 at hW1 hW2 hold hsize ⊢
  have hos : w1.os = w.os := by rw [← hwq]; rfl
  have hout : w1.output = w.output := by rw [← hwq]; rfl
  cases hbs : base with
  | none =>
    have hv : vs = [] := by
      cases vs with
      | nil => rfl
      | cons v vs => obtain ⟨_, _, e, _⟩ := hx (by simp); rw [hbs] at e; cases e
    subst hv
    exact ⟨w1.at d2, run_append_void (by simp), fin _ _ (hW1 d2) (hW2 d2) hmade (by simp [cellsOf]) (hold d2) (hsize d2) hos hout⟩
  | some ad =>
    have hnews : ∀ j u, (cellsOf vs)[j]? = some u → (w1.at d2).cell? (ad.add j) = some u := by
      intro j u hj
      obtain ⟨cells, h1, h2⟩ := cellsOf_inv h.recs hj
      have hp : 0 < vs.length := by have := (List.getElem?_eq_some_iff.1 h1).1; omega
      obtain ⟨ob, oo, e, hlt, _, hread⟩ := hx hp
      rw [hbs] at e
      cases e
      have h3 := hread _ _ h1 _ _ h2
      rw [Addr.add_mid]
      rw [show oo + j / 12 * 12 + j % 12 = oo + j by omega] at h3
      rw [← h3]
      exact World.cell?_of_block (hold d2 ob hlt)
    have hl := cellsOf_len h.recs
    have hr := run_append_room (P := Try.prog) (w := w1.at d2) 22 22 27 i27 Try.underlying22 hi (w.heap.size + 1) 0 (vs.length + 3) _ (hW2 d2) ad vs.length cap (cellsOf vs) (by rw [hs27]; exact hl) hnews (cellsOf_one h.recs) (by omega) (by rw [hs27, hl, hmade]; omega)
    rw [hs27, Nat.zero_mul, Nat.zero_add, List.take_zero, List.nil_append, Nat.zero_add, hl] at hr
    refine ⟨_, hr, fin _ _ ?_ (setRow_self (hW2 d2)) ?_ ?_ (fun b hb => ?_) ?_ ?_ ?_⟩
    · rw [setRow_same (by omega)]; exact hW1 d2
    · simp [hl, hmade]; omega
    · simp [hl]
    · rw [setRow_same (by omega)]; exact hold d2 b hb
    · rw [setRow_size]; exact hsize d2
    · exact hos
    · exact hout
end Go.Proofs.Ytofoplpnpfaofaa
