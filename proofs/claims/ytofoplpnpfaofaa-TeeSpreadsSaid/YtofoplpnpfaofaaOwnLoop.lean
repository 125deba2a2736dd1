/- What is proved here: the loop of a copy with spare room behind it. No condition beside the row's size. -/
import Derived.Test.YtofoplpnpfaofaaOwn
set_option linter.unusedSimpArgs false
set_option linter.unusedVariables false
namespace Go.Proofs.Ytofoplpnpfaofaa
open Go Go.Conc Go.RowKit

theorem own_loop {fb g n : Nat} {fill : Array Value} {c : Frame} {cs : List Frame} (hn : n ≤ 1000) (hfs : fill.size = 12) (hf1 : ∀ u ∈ fill.toList, u.oneCell' = true) (hne : fb ≠ g) : ∀ (r j : Nat) (arr : Array Value) (T : Nat → Value) (w : World), j + r = n + 3 →
    w.heap[fb]? = some (.cells fill 27 (0, 0)) → w.heap[g]? = some (.cells arr 27 (0, 0)) → arr.size = (n + 3) * 12 →
    GoesI Try.prog (fun g' w' => g' = G (c.finish (.slice (some ⟨g, 0, none⟩) n (n + 3))) cs ∧ (∃ arr' : Array Value, w'.heap[g]? = some (.cells arr' 27 (0, 0)) ∧ arr'.toList = arr.toList.take (j * 12) ++ (List.replicate r fill.toList).flatten) ∧ (∀ b, b ≠ g → w'.heap[b]? = w.heap[b]?) ∧ w'.heap.size = w.heap.size ∧ w'.os = w.os ∧ w'.output = w.output)
      (at6 fb g n j T (c :: cs)) w := by
  intro r
  induction r with
  | zero =>
    intro j arr T w hj hfb hg ha
    obtain rfl : j = n + 3 := by omega
    refine GoesI.mono ?_ (own_end hn c cs w)
    rintro g' w' ⟨rfl, d, rfl⟩
    refine ⟨rfl, ⟨arr, hg, ?_⟩, fun _ _ => rfl, rfl, rfl, rfl⟩
    rw [List.take_of_length_le (by rw [Array.length_toList, ha]; exact Nat.le_refl _)]
    simp
  | succ r ih =>
    intro j arr T w hj hfb hg ha
    refine own_round hn (by omega) hfb hfs hf1 hg ha hne fun T' d => ?_
    have hlen : (arr.toList.take (j * 12)).length = j * 12 := by rw [List.length_take, Array.length_toList, ha]; omega
    have hfl : fill.toList.length = 12 := by rw [Array.length_toList, hfs]
    have h1 : ((w.at d).setRow g (arr.toList.take (j * 12) ++ fill.toList ++ arr.toList.drop (j * 12 + 12)).toArray).heap[fb]? = some (.cells fill 27 (0, 0)) := by
      rw [setRow_same hne]; exact hfb
    have h2 : ((w.at d).setRow g (arr.toList.take (j * 12) ++ fill.toList ++ arr.toList.drop (j * 12 + 12)).toArray).heap[g]? = some (.cells (arr.toList.take (j * 12) ++ fill.toList ++ arr.toList.drop (j * 12 + 12)).toArray 27 (0, 0)) := setRow_self (w := w.at d) hg
    have h3 : (arr.toList.take (j * 12) ++ fill.toList ++ arr.toList.drop (j * 12 + 12)).toArray.size = (n + 3) * 12 := by
      simp only [List.size_toArray, List.length_append, hlen, hfl, List.length_drop, Array.length_toList, ha]
      omega
    refine GoesI.mono ?_ (ih (j + 1) _ T' _ (by omega) h1 h2 h3)
    rintro g' w' ⟨rfl, ⟨arr', e1, e2⟩, e3, e4, e5, e6⟩
    refine ⟨rfl, ⟨arr', e1, ?_⟩, fun b hb => (e3 b hb).trans (setRow_same hb), e4.trans setRow_size, e5, e6⟩
    rw [e2]
    have h4 : (arr.toList.take (j * 12) ++ fill.toList ++ arr.toList.drop (j * 12 + 12)).take ((j + 1) * 12) = arr.toList.take (j * 12) ++ fill.toList := by
      rw [List.take_append_of_le_length (by rw [List.length_append, hlen, hfl]; omega), List.take_of_length_le (by rw [List.length_append, hlen, hfl]; omega)]
    rw [h4, List.append_assoc]
    rfl
end Go.Proofs.Ytofoplpnpfaofaa
