/- What is proved here: a call of Spread, beside goroutines that only leave, comes back with every list. No condition beside the copy's contract. -/
import Derived.Test.YtofoplpnpfaofaaBegin
set_option linter.unusedSimpArgs false
set_option linter.unusedVariables false
namespace Go.Proofs.Ytofoplpnpfaofaa
open Go Go.Conc Go.RowKit

theorem Old.refl (w : World) (p : Nat → Prop) : Old w w p := ⟨Nat.le_refl _, rfl, rfl, fun _ _ _ => rfl⟩

theorem rangeAt_block {w w' : World} {b o : Nat} {cs : List Value} (h : w.rangeAt b o cs) (hb : w'.heap[b]? = w.heap[b]?) : w'.rangeAt b o cs := by
  intro j v hj
  rw [← h j v hj]
  exact World.cell?_of_block hb

theorem Recs.old {w w' : World} {own : Value} {vs : List Value} (h : Recs w own vs) (hs : w.heap.size ≤ w'.heap.size) (hb : ∀ b, b < w.heap.size → w'.heap[b]? = w.heap[b]?) : Recs w' own vs := by
  obtain ⟨base, cap, e, hx⟩ := h.own
  refine ⟨h.few, h.recs, base, cap, e, fun hp => ?_⟩
  obtain ⟨ob, oo, h1, h2, ⟨o, t, fr, h3⟩, h4⟩ := hx hp
  exact ⟨ob, oo, h1, by omega, ⟨o, t, fr, by rw [hb ob h2]; exact h3⟩, fun i cells hi => rangeAt_block (h4 i cells hi) (hb ob h2)⟩

theorem OwnV.mono {B B' : Nat} {v : Value} {n : Nat} {xs : List Value} {Hv : Hp} (h : OwnV B v n xs Hv) (hB : B' ≤ B) : OwnV B' v n xs Hv := by
  obtain ⟨h1, h2 | ⟨g, cap, cur, h2, h3, h4⟩⟩ := h
  · exact ⟨h1, .inl h2⟩
  · exact ⟨h1, .inr ⟨g, cap, cur, h2, by omega, h4⟩⟩

theorem OwnV.keys {B : Nat} {v : Value} {n : Nat} {xs : List Value} {Hv : Hp} (h : OwnV B v n xs Hv) : ∀ p ∈ Hv, B ≤ p.1 := by
  obtain ⟨h1, ⟨_, _, rfl⟩ | ⟨g, cap, cur, _, h3, rfl, _⟩⟩ := h
  · intro p hp; cases hp
  · intro p hp; rw [List.mem_singleton.1 hp]; exact h3

/-- What Spread hands back. -/
def Spread (w : World) (n : Nat) (vs : List Value) (c : Frame) (cs : List Frame) (g' : Goroutine) (w' : World) : Prop :=
  ∃ (ob : Nat) (f : Nat → Option Value), g' = G (c.finish (.tuple #[.slice (some ⟨ob, 0, none⟩) n n, .int .i64 0])) cs ∧ Old w w' (fun _ => False) ∧ w.heap.size ≤ ob ∧ w'.heap[ob]? = some (.cells (outA f n) 22 (0, 0)) ∧
    ∀ k, k < n → ∃ v Hv, f k = some v ∧ OwnV w.heap.size v vs.length (cellsOf vs) Hv ∧ Has Hv w'

/-- ████ Spread. ████ -/
theorem spread_runs {n room : Nat} {lv : Value} {vs : List Value} {c : Frame} {cs : List Frame} {w : World} (hn : 0 < n ∧ n ≤ 16) (hroom : room ≤ 64)
    (hC : ∀ (c : Frame) (cs : List Frame), GoesI Try.prog (fun g w' => ∃ v, g = G (c.finish v) cs ∧ Recs w' v vs ∧ Old w w' (fun _ => False)) (G (Frame.enter Try.prog 14 #[lv] .normal) (c :: cs)) w) :
    Reach Try.prog (G (Frame.enter Try.prog 7 #[lv, .int .i64 n, .int .i64 room] .normal) (c :: cs)) w (Spread w n vs c cs) := by
  refine (Reach.of_goes (spread_begin (RC := fun v w' => Recs w' v vs ∧ Old w w' (fun _ => False)) hn hroom hC)).trans ?_
  rintro g1 w2 ⟨own, w1, sb, tb, T, rfl, ⟨hrec, hold⟩, hts, h1, h2, h3, h4, h5, h6, h7, h8⟩
  refine (spread_phase hn hroom (hrec.old h5 h8) h4 ⟨_, _, _, _, h3⟩ hts).trans ?_
  rintro g3 w3 ⟨ob, f, T3, rfl, hold3, hob, hcell, ⟨cap, x, y, tm, hsb⟩, hk⟩
  refine Reach.of_goes (GoesI.mono ?_ (spread_leave hsb))
  rintro g4 w4 ⟨rfl, d, rfl⟩
  have hslt := lt_of_heap h3
  have hsame : ∀ b, b ≠ sb → ((w3.setChan sb cap #[] true x y tm).at d).heap[b]? = w3.heap[b]? := fun b hb => setChan_same' hb
  have hsz : ((w3.setChan sb cap #[] true x y tm).at d).heap.size = w3.heap.size := setChan_size'
  refine ⟨ob, f, rfl, ⟨?_, ?_, ?_, fun b hb _ => ?_⟩, ?_, ?_, fun k hkn => ?_⟩
  · rw [hsz]; have := hold.size; have := hold3.size; omega
  · exact hold3.os.trans (h6.trans hold.os)
  · exact hold3.output.trans (h7.trans hold.output)
  · have hb1 : b < w1.heap.size := Nat.lt_of_lt_of_le hb hold.size
    rw [hsame b (by omega), hold3.block b (by omega) (by rintro (e | e) <;> omega), h8 b hb1, hold.block b hb (fun h => h)]
  · have := hold.size; omega
  · rw [hsame ob (by omega)]; exact hcell
  · obtain ⟨v, Hv, e1, e2, e3⟩ := hk k hkn
    refine ⟨v, Hv, e1, e2.mono (by have := hold.size; omega), fun p hp => ?_⟩
    rw [hsame p.1 (by have := e2.keys p hp; omega)]
    exact e3 p hp
end Go.Proofs.Ytofoplpnpfaofaa
