/- What is proved here: a copy with spare room behind it is found kept, alone. Conditions: it reads as the records and the spare ones, the list as the records. -/
import Derived.Test.YtofoplpnpfaofaaSame
set_option linter.unusedSimpArgs false
set_option linter.unusedVariables false
namespace Go.Proofs.Ytofoplpnpfaofaa
open Go Go.Conc Go.RowKit

theorem RowAt.mono {w w1 : World} {b : Option Addr} {vs : List Value} (h : RowAt w b vs) (ho : Old w w1 (fun _ => False)) : RowAt w1 b vs := by
  intro i v hi
  obtain ⟨o, q, e, hb, hr⟩ := h i v hi
  exact ⟨o, q, e, Nat.lt_of_lt_of_le hb ho.size, ho.range hb id hr⟩
theorem RowAt.left {w : World} {b : Option Addr} {vs us : List Value} (h : RowAt w b (vs ++ us)) : RowAt w b vs := fun i v hi => h i v (by rw [List.getElem?_append_left (List.getElem?_eq_some_iff.1 hi).1]; exact hi)

def At9 (n : Nat) (w : World) (v : Value) (wr : World) : Prop := ∃ i : Nat, n ≤ i ∧ i ≤ n + 3 ∧ v = .int .i64 i ∧ Old w wr (fun _ => False)

set_option maxRecDepth 100000 in
theorem kept_calls {N : Nat} {b2 : Option Addr} {n c2 : Nat} {vs : List Value} {fill : Array Value} {w : World} (hl : vs.length = n) (h63 : n ≤ 1000) (hv : ∀ v ∈ vs, RecT v) (hf : RecT (.agg fill)) (h1 : RowAt w (some ⟨N, 0, none⟩) (vs ++ List.replicate 3 (.agg fill))) (h2 : RowAt w b2 vs) :
    Calls Try.prog 9 #[.slice (some ⟨N, 0, none⟩) n (n + 3), .slice b2 n c2, .agg fill] w (RetOld (.bool true) w) := by
  have hNw : N < w.heap.size := by
    obtain ⟨o, q, e, hb, _⟩ := h1 n (.agg fill) (by rw [List.getElem?_append_right (by omega), hl]; simp)
    cases e
    exact hb
  have hs := fun (w1 : World) (ho : Old w w1 (fun _ => False)) => plain_calls (c1 := n + 3) (c2 := c2) hl (by omega) hv (h1.left.mono ho) (h2.mono ho)
  have hrow : ∀ i, n ≤ i → i < n + 3 → w.rangeAt N (0 + i * 12) fill.toList := by
    intro i hi hi3
    obtain ⟨o, q, e, hb, hr⟩ := h1 i (.agg fill) (by rw [List.getElem?_append_right (by omega), hl]; rw [List.getElem?_replicate, if_pos (by omega)])
    cases e
    exact hr
  have hs' := Lib.hid hs
  have hrow' := Lib.hid hrow
  have hf' := Lib.hid hf
  have hN' := Lib.hid hNw
  clear hs hrow hl hv h1 h2 hf hNw
  have hfs : (Try.prog.info? 27).map (·.size) = some fill.size := by
    obtain ⟨i27, hi, hz, hs27, hb27⟩ := info_parts info27
    obtain ⟨cells, e, hs, _⟩ := hf'.out.rec
    cases e
    simp [hi, hs27, hs]
  have hfs' := Lib.hid hfs
  clear hfs
  go_enter Try.func9, Try.ntmps9
  go_wp2_with (go_at_call 10; refine (hs'.out _ ((Old.refl w _).alloc _)).mono ?_; rintro e w1 ⟨rfl, ho⟩)
  have hwb := Lib.hid ((Old.refl w (fun _ => False)).alloc (.cells fill 27))
  have hr2' : Hid ((w.alloc (.cells fill 27)).rangeAt w.heap.size 0 fill.toList) := by
    intro q v hq
    have e : (w.alloc (.cells fill 27)).heap[w.heap.size]? = some (.cells fill 27 (0, 0)) := alloc_new
    simp only [World.cell?, e, Nat.zero_add]
    simpa using hq
  have hsz : Hid (w.heap.size < (w.alloc (.cells fill 27)).heap.size) := by
    show w.heap.size < _
    rw [alloc_size]; omega
  generalize hwbe : w.alloc (.cells fill 27) = wb at hwb hr2' hsz ho
  clear hwbe
  go_loopw [8] (fun v wr => At9 n wb v wr) (fun v _ => n + 3 - (intOf v).toNat)
  case atStart => exact ⟨n, Nat.le_refl _, by omega, rfl, ho⟩
  case round =>
    clear ho
    obtain ⟨i, hi0, hi, rfl, ho⟩ := hrel
    go_wp2
    · have hlt : i < n + 3 := by
        have : (i : Int) < (n : Int) + 3 := by assumption
        omega
      have hr1 : ∀ w1, Old wb w1 (fun _ => False) → w1.rangeAt N (0 + i * 12) fill.toList := fun w1 h => (hwb.out.trans h).range hN'.out id (hrow'.out i hi0 hlt)
      have hr2 : ∀ w1, Old wb w1 (fun _ => False) → w1.rangeAt w.heap.size 0 fill.toList := fun w1 h => h.range hsz.out id hr2'.out
      have hf := hf'.out
      refine wp_region_quiet (C := fun w1 => Old wb w1 (fun _ => False)) (by kernel_rfl) (by kernel_rfl) ⟨ho.size, ho.os, ho.output, ho.block⟩ ?_
      refine wpQuiet_val (.slice (some ⟨N, 0, none⟩) (n + 3) (n + 3)) rfl (fun w hC => by go_simp) ?_
      walk_nrm
      refine wpQuiet_val (.int .i64 i) rfl (fun w hC => by go_simp) ?_
      walk_nrm
      refine wpQuiet_val (.pointer (some ⟨N, 0 + i * 12, none⟩)) rfl (fun w hC => run_index22 rfl rfl rfl hlt) ?_
      walk_nrm
      refine wpQuiet_val (.agg fill) rfl (fun w hC => run_load_row27 rfl rfl hf.rec (hr1 w hC)) ?_
      walk_nrm
      refine wpQuiet_val (.agg fill) rfl (fun w hC => run_load_row27 rfl rfl hf.rec (hr2 w hC)) ?_
      walk_nrm
      refine wpQuiet_val (.bool false) rfl (fun w hC => run_neq27 hf rfl rfl rfl) ?_
      walk_nrm
      refine wpQuiet_nil fun w2 ho2 => ?_
      clear hr1 hr2 hf
      go_wp2
      go_roundw
      case rel => exact ⟨i + 1, by omega, by omega, by go_num, ho2⟩
      case measure => simp [intOf]; omega
    · go_ret
      exact ⟨rfl, hwb.out.trans ho⟩
end Go.Proofs.Ytofoplpnpfaofaa
