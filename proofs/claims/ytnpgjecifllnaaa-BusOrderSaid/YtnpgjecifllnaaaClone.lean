/- What is proved here: slices.Clone of bytes and of bools. Conditions: the slice reads as a list; its room. -/
import Derived.Test.YtnpgjecifllnaaaBase
set_option linter.unusedSimpArgs false
set_option linter.unusedVariables false
namespace Go.Proofs.Ytnpgjecifllnaaa
open Go Go.RowKit

theorem add_mid (g o j : Nat) : (⟨g, o, none⟩ : Addr).add j = ⟨g, o + j, none⟩ := by
  unfold Addr.add
  split <;> simp_all

set_option maxRecDepth 100000 in
theorem clone8 {lv : Value} {l : List Value} {w : World} (h : Rd w lv l) (h1 : ∀ u ∈ l, u.oneCell' = true) (hb : l.length ≤ 140737488355328) : Calls Try.prog 43 #[lv] w (RetRd l w) := by
  obtain ⟨ie, hi, hz, hse, hbe⟩ := info_parts info5
  obtain ⟨base, cap, rfl, hcap, hbs, hr⟩ := h
  obtain ⟨n, hn0⟩ : ∃ n, l.length = n := ⟨_, rfl⟩
  rw [hn0] at hcap hb ⊢
  have hn := Lib.hid hn0
  rcases hbs with rfl | ⟨ad, rfl⟩
  · have hl : l = [] := by
      cases l with
      | nil => rfl
      | cons v l => obtain ⟨_, _, e, _⟩ := hr 0 v rfl; cases e
    subst hl
    have hnil : ∀ w, (Go.binOp .eql 32 (.slice none n cap) (.slice none 0 0)).run Try.prog w = .ok (.bool true) w := fun w => rfl
    clear hr h1 hb hn0
    go_enter Try.func43, Try.ntmps43
    go_wp2
    go_ret
    exact ⟨_, rfl, ⟨⟨none, 0, rfl, Nat.le_refl _, .inl rfl, fun i u hi => by simp at hi⟩, fun o q n c e => by cases e⟩, Old.refl _ _⟩
  · have hnews : ∀ j u, l[j]? = some u → (w.alloc (.cells #[] 5)).cell? (ad.add j) = some u := by
      intro j u hj
      obtain ⟨ob, oo, e, hlt, hread⟩ := hr j u hj
      cases e
      rw [add_mid, ← hread]
      exact World.cell?_of_block (al_old hlt)
    have hown : (w.alloc (.cells #[] 5)).ownsRow w.heap.size 5 1 (.slice (some ⟨w.heap.size, 0, none⟩) 0 0) 0 [] :=
      ⟨rfl, .inr ⟨w.heap.size, 0, #[], rfl, Nat.le_refl _, al_new, Nat.le_refl _, by simp [maxLen], rfl, rfl⟩⟩
    have hnews' := Lib.hid hnews
    have hown' := Lib.hid hown
    have hb' := Lib.hid hb
    have hone := Lib.hid h1
    have hnil : ∀ w, (Go.binOp .eql 32 (.slice (some ad) n cap) (.slice none 0 0)).run Try.prog w = .ok (.bool false) w := fun w => rfl
    clear hnews hown hb hr h1 hn0
    go_enter Try.func43, Try.ntmps43
    go_wp2_with (at_builtin; refine wpList_append_own _ rfl _ _ 32 rfl w.heap.size 5 ie (.int .u8 0) 1 1 Try.underlying32 hi hz hse hbe rfl (by decide) _ _ _ rfl hown'.out ad n cap l rfl (by rw [hn.out]; simp) hnews'.out hone.out (by have := hb'.out; unfold maxLen; omega) (by have := hb'.out; omega) (by rw [al_size]; omega) ?_; intro v' w1 hown1 hgrow _)
    clear hnil
    go_ret
    refine ⟨v', rfl, rdS_of (B := w.heap.size) (n := n) hn.out (.inl rfl) (by simpa using hown1), ?_, hgrow.os, hgrow.output, fun b hb _ => ?_⟩
    · have h1 := hgrow.size
      rw [al_size] at h1
      omega
    · rw [hgrow.block b (by rw [al_size]; omega) (by simp [Value.ownBlock, Act.eval]; omega)]
      exact al_old hb

set_option maxRecDepth 100000 in
theorem cloneB {lv : Value} {l : List Value} {w : World} (h : Rd w lv l) (h1 : ∀ u ∈ l, u.oneCell' = true) (hb : l.length ≤ 140737488355328) : Calls Try.prog 44 #[lv] w (RetRd l w) := by
  obtain ⟨ie, hi, hz, hse, hbe⟩ := info_parts info4
  obtain ⟨base, cap, rfl, hcap, hbs, hr⟩ := h
  obtain ⟨n, hn0⟩ : ∃ n, l.length = n := ⟨_, rfl⟩
  rw [hn0] at hcap hb ⊢
  have hn := Lib.hid hn0
  rcases hbs with rfl | ⟨ad, rfl⟩
  · have hl : l = [] := by
      cases l with
      | nil => rfl
      | cons v l => obtain ⟨_, _, e, _⟩ := hr 0 v rfl; cases e
    subst hl
    have hnil : ∀ w, (Go.binOp .eql 33 (.slice none n cap) (.slice none 0 0)).run Try.prog w = .ok (.bool true) w := fun w => rfl
    clear hr h1 hb hn0
    go_enter Try.func44, Try.ntmps44
    go_wp2
    go_ret
    exact ⟨_, rfl, ⟨⟨none, 0, rfl, Nat.le_refl _, .inl rfl, fun i u hi => by simp at hi⟩, fun o q n c e => by cases e⟩, Old.refl _ _⟩
  · have hnews : ∀ j u, l[j]? = some u → (w.alloc (.cells #[] 4)).cell? (ad.add j) = some u := by
      intro j u hj
      obtain ⟨ob, oo, e, hlt, hread⟩ := hr j u hj
      cases e
      rw [add_mid, ← hread]
      exact World.cell?_of_block (al_old hlt)
    have hown : (w.alloc (.cells #[] 4)).ownsRow w.heap.size 4 1 (.slice (some ⟨w.heap.size, 0, none⟩) 0 0) 0 [] :=
      ⟨rfl, .inr ⟨w.heap.size, 0, #[], rfl, Nat.le_refl _, al_new, Nat.le_refl _, by simp [maxLen], rfl, rfl⟩⟩
    have hnews' := Lib.hid hnews
    have hown' := Lib.hid hown
    have hb' := Lib.hid hb
    have hone := Lib.hid h1
    have hnil : ∀ w, (Go.binOp .eql 33 (.slice (some ad) n cap) (.slice none 0 0)).run Try.prog w = .ok (.bool false) w := fun w => rfl
    clear hnews hown hb hr h1 hn0
    go_enter Try.func44, Try.ntmps44
    go_wp2_with (at_builtin; refine wpList_append_own _ rfl _ _ 33 rfl w.heap.size 4 ie (.bool false) 1 1 Try.underlying33 hi hz hse hbe rfl (by decide) _ _ _ rfl hown'.out ad n cap l rfl (by rw [hn.out]; simp) hnews'.out hone.out (by have := hb'.out; unfold maxLen; omega) (by have := hb'.out; omega) (by rw [al_size]; omega) ?_; intro v' w1 hown1 hgrow _)
    clear hnil
    go_ret
    refine ⟨v', rfl, rdS_of (B := w.heap.size) (n := n) hn.out (.inr rfl) (by simpa using hown1), ?_, hgrow.os, hgrow.output, fun b hb _ => ?_⟩
    · have h1 := hgrow.size
      rw [al_size] at h1
      omega
    · rw [hgrow.block b (by rw [al_size]; omega) (by simp [Value.ownBlock, Act.eval]; omega)]
      exact al_old hb
end Go.Proofs.Ytnpgjecifllnaaa
