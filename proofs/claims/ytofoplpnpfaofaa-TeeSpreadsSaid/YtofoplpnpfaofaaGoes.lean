/- What is proved here: the helpers' calls, beside goroutines that only leave. Conditions: those of their lone walks. -/
import Derived.Test.YtofoplpnpfaofaaLaw
set_option linter.unusedSimpArgs false
set_option linter.unusedVariables false
namespace Go.Proofs.Ytofoplpnpfaofaa
open Go Go.Conc Go.RowKit

theorem RowAt.sw {w : World} {b : Option Addr} {vs : List Value} (h : RowAt w b vs) (τ : Nat → Question → Nat) (d : Nat) : RowAt (sw w τ d) b vs := h
theorem Old.unsw {w w1 : World} {p : Nat → Prop} {τ : Nat → Question → Nat} {d : Nat} (h : Old (Ytofoplpnpfaofaa.sw w τ d) w1 p) : Old w w1 p := ⟨h.size, h.os, h.output, h.block⟩

theorem plain_goes {b1 b2 : Option Addr} {n c1 c2 : Nat} {vs : List Value} {w : World} (hl : vs.length = n) (h63 : n ≤ 9223372036854775806) (hv : ∀ v ∈ vs, RecT v) (h1 : RowAt w b1 vs) (h2 : RowAt w b2 vs) (c : Frame) (cs : List Frame) :
    GoesI Try.prog (fun g w' => g = G (c.finish (.bool true)) cs ∧ Old w w' (fun _ => False)) (G (Frame.enter Try.prog 10 #[.slice b1 n c1, .slice b2 n c2] .normal) (c :: cs)) w := by
  refine GoesI.mono ?_ (call_lift safeQ (S := []) (R := fun v w' => v = .bool true ∧ Old w w' (fun _ => False)) Try.func10 (plainRes1 rfl) (fr_enter safeQ rfl (by simp)) (fun v w' τ d ⟨e, h⟩ => ⟨e, h.sw τ d⟩) (fun τ d => ?_) c cs)
  · rintro g w' ⟨v, rfl, rfl, h⟩
    exact ⟨rfl, h⟩
  · exact (plain_calls hl h63 hv (h1.sw τ d) (h2.sw τ d)).mono fun e w' ⟨h3, h4⟩ => ⟨_, h3, rfl, h4.unsw⟩

theorem kept_goes {N : Nat} {b2 : Option Addr} {n c2 : Nat} {vs : List Value} {fill : Array Value} {w : World} (hl : vs.length = n) (h63 : n ≤ 1000) (hv : ∀ v ∈ vs, RecT v) (hf : RecT (.agg fill)) (h1 : RowAt w (some ⟨N, 0, none⟩) (vs ++ List.replicate 3 (.agg fill))) (h2 : RowAt w b2 vs) (c : Frame) (cs : List Frame) :
    GoesI Try.prog (fun g w' => g = G (c.finish (.bool true)) cs ∧ Old w w' (fun _ => False)) (G (Frame.enter Try.prog 9 #[.slice (some ⟨N, 0, none⟩) n (n + 3), .slice b2 n c2, .agg fill] .normal) (c :: cs)) w := by
  refine GoesI.mono ?_ (call_lift safeQ (S := []) (R := fun v w' => v = .bool true ∧ Old w w' (fun _ => False)) Try.func9 (plainRes1 rfl) (fr_enter safeQ rfl (by simp)) (fun v w' τ d ⟨e, h⟩ => ⟨e, h.sw τ d⟩) (fun τ d => ?_) c cs)
  · rintro g w' ⟨v, rfl, rfl, h⟩
    exact ⟨rfl, h⟩
  · exact (kept_calls hl h63 hv hf (h1.sw τ d) (h2.sw τ d)).mono fun e w' ⟨h3, h4⟩ => ⟨_, h3, rfl, h4.unsw⟩

theorem merge_goes {b1 b2 : Option Addr} {n1 n2 c1 c2 : Nat} {us ts : List Value} {w : World} (hl1 : us.length = n1) (hl2 : ts.length = n2) (hc1 : n1 ≤ c1) (hc2 : n2 ≤ c2) (h1 : RowAt w b1 us) (h2 : RowAt w b2 ts) (hb1 : b1 = none ∨ ∃ g o, b1 = some ⟨g, o, none⟩) (hb2 : b2 = none ∨ ∃ g o, b2 = some ⟨g, o, none⟩)
    (hva : ∀ v ∈ us, RecT v) (hvb : ∀ v ∈ ts, RecT v) (hfew : us.length + ts.length ≤ 1000) (c : Frame) (cs : List Frame) :
    GoesI Try.prog (fun g w' => ∃ v, g = G (c.finish v) cs ∧ Rows w' v (mrg us ts) ∧ Old w w' (fun _ => False)) (G (Frame.enter Try.prog 13 #[.slice b1 n1 c1, .slice b2 n2 c2] .normal) (c :: cs)) w :=
  call_lift safeQ (S := []) (R := fun v w' => Rows w' v (mrg us ts) ∧ Old w w' (fun _ => False)) Try.func13 (plainRes1 rfl) (fr_enter safeQ rfl (by simp)) (fun v w' τ d ⟨⟨h1, h2⟩, h⟩ => ⟨⟨h1, h2⟩, h.sw τ d⟩)
    (fun τ d => (merge_calls hl1 hl2 hc1 hc2 (h1.sw τ d) (h2.sw τ d) hb1 hb2 hva hvb hfew).mono fun e w' ⟨v, h3, h4, h5⟩ => ⟨v, h3, h4, h5.unsw⟩) c cs

theorem Reach.ctl {P : Program} {g g' : Goroutine} {w : World} {Post : Goroutine → World → Prop} (hr : g.status = .running) (h : ∀ w, stepG P true g w = .go g' w #[]) (hg : ∀ d, Reach P g' (w.at d) Post) : Reach P g w Post := by
  refine (Reach.of_goes (GoesI.ctl (Stop := fun g1 w1 => g1 = g' ∧ ∃ d, w1 = w.at d) hr h (.stop fun d => ⟨rfl, d, rfl⟩))).trans ?_
  rintro g1 w1 ⟨rfl, d, rfl⟩
  exact hg d
theorem Old.at_ {w w1 : World} {p : Nat → Prop} (h : Old w w1 p) (d : Nat) : Old w (w1.at d) p := ⟨h.size, h.os, h.output, h.block⟩
theorem Old.unat {w w1 : World} {p : Nat → Prop} {d : Nat} (h : Old (w.at d) w1 p) : Old w w1 p := ⟨h.size, h.os, h.output, h.block⟩
end Go.Proofs.Ytofoplpnpfaofaa
