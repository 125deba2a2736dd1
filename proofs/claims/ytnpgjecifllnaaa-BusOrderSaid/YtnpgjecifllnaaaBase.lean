/- What is proved here: words for what stands in memory; slices.Clone of bytes and of bools. Conditions: the slice reads as a list; its room. -/
import Derived.Test.YtnpgjecifllnaaaChecked
import Derived.WalkKit
import Derived.WalkSpells
import Derived.WalkLawsBesides
import Derived.IntWalk
import Derived.Lib.Hide
import Derived.OneCell
import Derived.BigQuiet
import Derived.Deep.AppendLies
import Derived.Deep.RegionLaw
import Derived.Deep.Slices
set_option linter.unusedSimpArgs false
set_option linter.unusedVariables false
namespace Go.Proofs.Ytnpgjecifllnaaa
open Go Go.RowKit

theorem lt_of_heap {w : World} {b : Nat} {o : Obj} (h : w.heap[b]? = some o) : b < w.heap.size := (Array.getElem?_eq_some_iff.1 h).1
theorem al_old {w : World} {o : Obj} {b : Nat} (h : b < w.heap.size) : (w.alloc o).heap[b]? = w.heap[b]? := by
  show (w.heap.push o)[b]? = _
  rw [Array.getElem?_push_lt h, Array.getElem?_eq_getElem h]
theorem al_new {w : World} {o : Obj} : (w.alloc o).heap[w.heap.size]? = some o := by
  show (w.heap.push o)[w.heap.size]? = _
  simp
theorem al_size {w : World} {o : Obj} : (w.alloc o).heap.size = w.heap.size + 1 := by
  show (w.heap.push o).size = _
  simp

/-- The blocks that were there stand, but for these. -/
structure Old (w w' : World) (but : Nat → Prop) : Prop where
  size : w.heap.size ≤ w'.heap.size
  os : w'.os = w.os
  output : w'.output = w.output
  block : ∀ b, b < w.heap.size → ¬ but b → w'.heap[b]? = w.heap[b]?
abbrev No : Nat → Prop := fun _ => False
theorem Old.refl (w : World) (p : Nat → Prop) : Old w w p := ⟨Nat.le_refl _, rfl, rfl, fun _ _ _ => rfl⟩
theorem Old.trans {w w1 w2 : World} {p : Nat → Prop} (h1 : Old w w1 p) (h2 : Old w1 w2 p) : Old w w2 p :=
  ⟨Nat.le_trans h1.size h2.size, h2.os.trans h1.os, h2.output.trans h1.output, fun b hb hn => (h2.block b (Nat.lt_of_lt_of_le hb h1.size) hn).trans (h1.block b hb hn)⟩
theorem Old.weak {w w1 : World} {p q : Nat → Prop} (h : Old w w1 p) (hpq : ∀ b, b < w.heap.size → p b → q b) : Old w w1 q := ⟨h.size, h.os, h.output, fun b hb hn => h.block b hb fun hp => hn (hpq b hb hp)⟩
theorem Old.no {w w1 : World} {q : Nat → Prop} (h : Old w w1 No) : Old w w1 q := h.weak fun _ _ h => h.elim
theorem Old.alloc {w w1 : World} {p : Nat → Prop} (h : Old w w1 p) (o : Obj) : Old w (w1.alloc o) p :=
  h.trans ⟨by rw [al_size]; omega, rfl, rfl, fun b hb _ => al_old hb⟩
theorem Old.drew {w w1 : World} {p : Nat → Prop} (h : Old w w1 p) : Old w w1.drew p := ⟨h.size, h.os, h.output, h.block⟩
theorem Old.drewN {w w1 : World} {p : Nat → Prop} (h : Old w w1 p) (n : Nat) : Old w (w1.drewN n) p := ⟨h.size, h.os, h.output, h.block⟩
theorem Old.cell {w w1 : World} {but : Nat → Prop} (h : Old w w1 but) {g o : Nat} (hb : g < w.heap.size) (hn : ¬ but g) : w1.cell? ⟨g, o, none⟩ = w.cell? ⟨g, o, none⟩ := World.cell?_of_block (h.block g hb hn)
theorem Old.setCell {w w1 : World} {p : Nat → Prop} (h : Old w w1 p) {g o : Nat} (v : Value) (hg : w.heap.size ≤ g ∨ p g) : Old w (w1.setCell ⟨g, o, none⟩ v) p := by
  refine ⟨by rw [World.size_setCell]; exact h.size, h.os, h.output, fun b hb hn => ?_⟩
  have hne : b ≠ g := fun e => by subst e; rcases hg with hg | hg; omega; exact hn hg
  rw [heap_setCell_other _ _ _ _ hne]
  exact h.block b hb hn

/-- A slice that reads as this list of one-cell values. -/
def Rd (w : World) (v : Value) (l : List Value) : Prop := ∃ base cap, v = .slice base l.length cap ∧ l.length ≤ cap ∧ (base = none ∨ ∃ ad, base = some ad) ∧ ∀ i u, l[i]? = some u → ∃ o q, base = some ⟨o, q, none⟩ ∧ o < w.heap.size ∧ w.cell? ⟨o, q + i, none⟩ = some u
/-- A block of bytes or of bools. -/
def Soft (w : World) (o : Nat) : Prop := ∃ c t fr, w.heap[o]? = some (.cells c t fr) ∧ (t = 5 ∨ t = 4)
/-- .. that lies in a block of bytes or of bools. -/
def RdS (w : World) (v : Value) (l : List Value) : Prop := Rd w v l ∧ ∀ o q n c, v = .slice (some ⟨o, q, none⟩) n c → 0 < l.length → Soft w o

theorem Rd.on {w w1 : World} {v : Value} {l : List Value} {p : Nat → Prop} (h : Rd w v l) (ho : Old w w1 p) (hp : ∀ o q n c, v = .slice (some ⟨o, q, none⟩) n c → 0 < l.length → ¬ p o) : Rd w1 v l := by
  obtain ⟨base, cap, rfl, hc, hb, hr⟩ := h
  refine ⟨base, cap, rfl, hc, hb, fun i u hi => ?_⟩
  obtain ⟨o, q, e, hlt, hcell⟩ := hr i u hi
  refine ⟨o, q, e, Nat.lt_of_lt_of_le hlt ho.size, ?_⟩
  rw [ho.cell hlt (hp o q _ _ (by rw [e]) (by have := (List.getElem?_eq_some_iff.1 hi).1; omega))]
  exact hcell
theorem Soft.on {w w1 : World} {o : Nat} {p : Nat → Prop} (h : Soft w o) (ho : Old w w1 p) (hp : ∀ o, Soft w o → ¬ p o) : Soft w1 o := by
  have hn := hp o h
  obtain ⟨c, t, fr, e, ht⟩ := h
  exact ⟨c, t, fr, (ho.block o (lt_of_heap e) hn).trans e, ht⟩
theorem RdS.on {w w1 : World} {v : Value} {l : List Value} {p : Nat → Prop} (h : RdS w v l) (ho : Old w w1 p) (hp : ∀ o, Soft w o → ¬ p o) : RdS w1 v l :=
  ⟨h.1.on ho fun o q n c e hl => hp o (h.2 o q n c e hl), fun o q n c e hl => (h.2 o q n c e hl).on ho hp⟩

def RetRd (l : List Value) (w : World) (e : Ending) (w' : World) : Prop := ∃ v, e = .returned v ∧ RdS w' v l ∧ Old w w' No

theorem info5 : (Try.prog.info? 5).map (fun i => (i.zero, i.size, i.bytes)) = some (some (.int .u8 0), 1, 1) := by kernel_rfl
theorem info4 : (Try.prog.info? 4).map (fun i => (i.zero, i.size, i.bytes)) = some (some (.bool false), 1, 1) := by kernel_rfl

theorem rdS_of {w : World} {B ty : Nat} {v : Value} {n : Nat} {l : List Value} (hn : l.length = n) (hty : ty = 5 ∨ ty = 4) (h : w.ownsRow B ty 1 v n l) : RdS w v l := by
  subst hn
  obtain ⟨h1, ⟨rfl, h2⟩ | ⟨g, cap, cur, rfl, h3, h4, h5, h6, h7, h8⟩⟩ := h
  · refine ⟨⟨none, 0, by rw [h2], by omega, .inl rfl, fun i u hi => ?_⟩, fun o q n c e => by cases e⟩
    have := (List.getElem?_eq_some_iff.1 hi).1; omega
  · refine ⟨⟨some ⟨g, 0, none⟩, cap, rfl, h5, .inr ⟨_, rfl⟩, fun i u hi => ⟨g, 0, rfl, lt_of_heap h4, ?_⟩⟩, fun o q n c e _ => ?_⟩
    · have hlt := (List.getElem?_eq_some_iff.1 hi).1
      have h9 := congrArg (fun l => l[i]?) h8
      simp only [List.getElem?_take] at h9
      rw [if_pos (by omega), hi] at h9
      simp only [World.cell?, h4, Nat.zero_add]
      simpa using h9
    · cases e
      exact ⟨_, _, _, h4, hty⟩
end Go.Proofs.Ytnpgjecifllnaaa
