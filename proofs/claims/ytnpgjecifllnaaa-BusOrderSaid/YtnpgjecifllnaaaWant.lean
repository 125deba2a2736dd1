/- What is proved here: lists of answers to which is appended, and of which the first is taken. Conditions: none. -/
import Derived.Test.YtnpgjecifllnaaaRep
import Derived.ArgAppend
import Derived.Deep.RegionLawGrows
set_option linter.unusedSimpArgs false
set_option linter.unusedVariables false
namespace Go.Proofs.Ytnpgjecifllnaaa
open Go Go.Conc Go.RowKit

theorem gives_len (l : List It) : (gives l).length = l.length * 4 := by
  induction l with
  | nil => rfl
  | cons x l ih =>
    have e : gives (x :: l) = x.give.toList ++ gives l := by simp [gives]
    rw [e, List.length_append, ih]
    simp [It.give]
    omega
/-- A list of answers that may have lost its first ones. -/
def Wq (w : World) (v : Value) (l : List It) : Prop := (v = .slice none 0 0 ∧ l = []) ∨ ∃ g off cap cur, v = .slice (some ⟨g, off, none⟩) l.length cap ∧ w.heap[g]? = some (.cells cur 43 (0, 0)) ∧ l.length ≤ cap ∧ cap ≤ maxLen ∧ off + cap * 4 ≤ cur.size ∧ w.rangeAt g off (gives l)
theorem Wq.on {w w1 : World} {v : Value} {l : List It} {p : Nat → Prop} (h : Wq w v l) (ho : Old w w1 p) (hp : ∀ b, some b = v.ownBlock → ¬ p b) : Wq w1 v l := by
  rcases h with h | ⟨g, off, cap, cur, rfl, h1, h2, h3, h4, h5⟩
  · exact .inl h
  · have hb := ho.block g (lt_of_heap h1) (hp g rfl)
    exact .inr ⟨g, off, cap, cur, rfl, hb.trans h1, h2, h3, h4, range_at h5 hb⟩
theorem Wq.tag {w : World} {v : Value} {l : List It} (h : Wq w v l) {b : Nat} (hb : some b = v.ownBlock) : Tag w b 43 := by
  rcases h with ⟨rfl, _⟩ | ⟨g, off, cap, cur, rfl, h1, _⟩
  · cases hb
  · cases hb
    exact ⟨_, h1⟩
theorem Wq.form {w : World} {v : Value} {l : List It} (h : Wq w v l) : ∃ b c, v = .slice b l.length c := by
  rcases h with ⟨rfl, rfl⟩ | ⟨g, off, cap, cur, rfl, _⟩
  · exact ⟨_, _, rfl⟩
  · exact ⟨_, _, rfl⟩
theorem Wq.of_own {w : World} {base : Nat} {v : Value} {l : List It} (h : w.ownsRow base 43 4 v l.length (gives l)) : Wq w v l := by
  rcases h.2 with ⟨rfl, h2⟩ | ⟨g, cap, cur, rfl, h3, h4, h5, h6, h7, h8⟩
  · exact .inl ⟨rfl, List.eq_nil_of_length_eq_zero h2⟩
  · refine .inr ⟨g, 0, cap, cur, rfl, h4, h5, h6, by omega, fun j v hj => ?_⟩
    have hj2 := (List.getElem?_eq_some_iff.1 hj).1
    rw [gives_len] at hj2
    have h9 := congrArg (fun l => l[j]?) h8
    simp only [List.getElem?_take] at h9
    rw [if_pos hj2, hj] at h9
    simp only [World.cell?, h4, Nat.zero_add]
    simpa using h9
/-- The rest of it, the first one taken. -/
theorem Wq.pop {w : World} {b : Option Addr} {n c : Nat} {x : It} {l : List It} (h : Wq w (.slice b n c) (x :: l)) : ∃ g off, b = some ⟨g, off, none⟩ ∧ n = l.length + 1 ∧ l.length + 1 ≤ c ∧ Wq w (.slice (some ⟨g, off + 4, none⟩) l.length (c - 1)) l ∧ w.rangeAt g off x.give.toList := by
  rcases h with ⟨_, h⟩ | ⟨g, off, cap, cur, e, h1, h2, h3, h4, h5⟩
  · cases h
  · cases e
    have e : gives (x :: l) = x.give.toList ++ gives l := by simp [gives]
    have hx : x.give.toList.length = 4 := by simp [It.give]
    rw [e] at h5
    simp only [List.length_cons] at h2
    refine ⟨g, off, rfl, rfl, h2, .inr ⟨g, off + 4, c - 1, cur, rfl, h1, by omega, by omega, by omega, fun j v hj => ?_⟩, fun j v hj => ?_⟩
    · have := h5 (4 + j) v (by rw [List.getElem?_append_right (by omega), hx, Nat.add_sub_cancel_left]; exact hj)
      rw [← Nat.add_assoc] at this
      exact this
    · have hj4 := (List.getElem?_eq_some_iff.1 hj).1
      exact h5 j v (by rw [List.getElem?_append_left hj4]; exact hj)

theorem setCells_block {w : World} {g : Nat} {t : TypeId} : ∀ (vs : List Value) (o : Nat) (w : World) (cur : Array Value), w.heap[g]? = some (.cells cur t (0, 0)) → ∃ cur', (w.setCells g o vs).heap[g]? = some (.cells cur' t (0, 0)) ∧ cur'.size = cur.size
  | [], _, _, cur, h => ⟨cur, h, rfl⟩
  | v :: vs, o, w, cur, h => by
    rw [World.setCells]
    obtain ⟨c, h1, h2⟩ := setCells_block (w := w) vs (o + 1) _ _ (heap_setCell_same w g o cur t v h)
    exact ⟨c, h1, by rw [h2]; simp⟩
theorem old_setCells {w : World} {g : Nat} {p : Nat → Prop} (hp : p g) : ∀ (vs : List Value) (o : Nat) (w1 : World), Old w w1 p → Old w (w1.setCells g o vs) p
  | [], _, _, h => h
  | v :: vs, o, w1, h => by
    rw [World.setCells]
    exact old_setCells hp vs (o + 1) _ (h.setCell v (.inr hp))

/-- One is appended. -/
def Pushed (w w' : World) (v v' : Value) (l : List It) (x : It) : Prop := Wq w' v' (l ++ [x]) ∧ Old w w' (fun b => some b = v.ownBlock) ∧ ∀ b, some b = v'.ownBlock → some b = v.ownBlock ∨ w.heap.size ≤ b
theorem give_one (x : It) : ∀ u ∈ x.give.toList, u.oneCell' = true := by
  intro u hu
  simp [It.give] at hu
  rcases hu with rfl | rfl | rfl | rfl <;> rfl
theorem step_push {w : World} {ops : Array Oper} {o : Oper} {a : Act} {K : Act → World → Prop} {Q : Exit → Act → World → Prop} {E : Prop} {v : Value} {l : List It} {x : It}
    (hg : o.guard = none) (s y : Operand) (hop : o.op = Op.call { callee := Callee.builtin Builtin.append, args := #[s, y], argTypes := #[37, 37] })
    (hs : a.eval s = v) (hq : Wq w v l) (ad : Addr) (c : Nat) (hy : a.eval y = .slice (some ad) 1 c) (hc : ∀ j u, x.give.toList[j]? = some u → w.cell? (ad.add j) = some u) (hlen : l.length ≤ 1000)
    (hK : ∀ v' w', Pushed w w' v v' l x → K (a.put o.dst v') w') : if Region.wanted o (yielded ops a.tmps) = true then Oper.wp Try.prog o a w K Q else E := by
  obtain ⟨i43, hi, hz, hs4, hb4⟩ := info_parts info43
  have hsnoc : gives (l ++ [x]) = gives l ++ x.give.toList := gives_snoc l x
  have hx4 : x.give.toList.length = 1 * 4 := by simp [It.give]
  have hgrown : ∀ v' w', w'.ownsRow w.heap.size 43 4 v' (l.length + 1) (gives l ++ x.give.toList) → w.grownBy w' none → Pushed w w' v v' l x := fun v' w' h1 h2 => by
    have h1' : w'.ownsRow w.heap.size 43 4 v' (l ++ [x]).length (gives (l ++ [x])) := by rw [hsnoc]; simpa using h1
    refine ⟨Wq.of_own h1', (grown_old h2).weak fun b _ h => (by cases h), fun b hb => .inr ?_⟩
    rcases Nat.lt_or_ge b w.heap.size with h | h
    · exact absurd hb (owns_ge h1 h)
    · exact h
  rcases hq with ⟨rfl, rfl⟩ | ⟨g, off, cap, cur, rfl, h1, h2, h3, h4, h5⟩
  · refine step_append_grows hg s y 37 hop 43 i43 _ 4 48 Try.underlying37 hi hz hs4 hb4 rfl (by decide) none 0 0 [] hs (fun _ => ⟨rfl, rfl⟩) rfl (fun b e => by cases e) ad 1 c _ hy hx4 hc (give_one x) (by decide) (by unfold maxLen; omega) (by omega) (fun v' w' r1 r2 => hK v' w' (hgrown v' w' (by simpa [gives] using r1) r2))
  · have hth : w.there g off (cap * 4) := fun j hj => by
      have h6 : off + j < cur.size := by omega
      refine ⟨?_, by simp [World.frozen?, h1]⟩
      simp [World.cell?, h1, h6]
    by_cases hr : l.length + 1 ≤ cap
    · have hsp : ∀ j, j < x.give.toList.length → (w.cell? ⟨g, off + l.length * 4 + j, none⟩).isSome = true ∧ w.frozen? ⟨g, off + l.length * 4 + j, none⟩ = false := fun j hj => by
        have := hth (l.length * 4 + j) (by rw [hx4] at hj; omega)
        rw [← Nat.add_assoc] at this
        exact this
      refine step_append_room hg s y 37 hop 43 i43 4 Try.underlying37 hi hs4 g off l.length cap hs ad 1 c _ hy hx4 hc (give_one x) hr hsp (hK _ _ ?_)
      obtain ⟨cur', e1, e2⟩ := setCells_block (w := w) x.give.toList (off + l.length * 4) w cur h1
      refine ⟨.inr ⟨g, off, cap, cur', by simp, e1, by simp; omega, h3, by omega, ?_⟩, old_setCells (p := fun b => some b = (Value.slice (some ⟨g, off, none⟩) l.length cap).ownBlock) rfl _ _ _ (Old.refl _ _), fun b hb => .inl hb⟩
      rw [hsnoc]
      have ha : (w.setCells g (off + l.length * 4) x.give.toList).rangeAt g off (gives l) := World.rangeAt_setCells_apart h5 g _ _ (.inr (.inl (by rw [gives_len]; exact Nat.le_refl _)))
      have hb : (w.setCells g (off + l.length * 4) x.give.toList).rangeAt g (off + l.length * 4) x.give.toList := World.rangeAt_setCells_same _ _ _ _ hsp
      intro j u hj
      rcases Nat.lt_or_ge j (gives l).length with hlt | hge
      · rw [List.getElem?_append_left hlt] at hj
        exact ha j u hj
      · rw [List.getElem?_append_right hge] at hj
        have := hb (j - (gives l).length) u hj
        rw [gives_len] at this hge
        rwa [show off + l.length * 4 + (j - l.length * 4) = off + j by omega] at this
    · exact step_append_grows hg s y 37 hop 43 i43 _ 4 48 Try.underlying37 hi hz hs4 hb4 rfl (by decide) (some ⟨g, off, none⟩) l.length cap (gives l) hs (fun e => by cases e) (gives_len l) (fun b e j u hj => by cases e; rw [add_mid]; exact h5 j u hj) ad 1 c _ hy hx4 hc (give_one x) (by omega) (by unfold maxLen; omega) (by omega) (fun v' w' r1 r2 => hK v' w' (hgrown v' w' r1 r2))

/-- What an answer that is still to come reads as. -/
def RpR (w : World) (x : It) (y : GiveA) : Prop := x.gport = y.port ∧ x.gid = y.id ∧ RdS w (.slice x.gb x.gn x.gc) y.data ∧ x.gerr = y.err
theorem RpR.on {w w1 : World} {x : It} {y : GiveA} {p : Nat → Prop} (h : RpR w x y) (ho : Old w w1 p) (hp : ∀ o, Soft w o → ¬ p o) : RpR w1 x y := ⟨h.1, h.2.1, h.2.2.1.on ho hp, h.2.2.2⟩
/-- The law's three lists. -/
structure Wants (w : World) (Wb lo : Nat) (vs : Nat → Value) (ls : Nat → List It) (E : Nat → List GiveA) : Prop where
  blk : ∃ c : Array Value, w.heap[Wb]? = some (.cells c 45 (0, 0)) ∧ c.size = 3 ∧ ∀ p : Nat, p < 3 → c[p]? = some (vs p)
  q : ∀ p, p < 3 → Wq w (vs p) (ls p)
  lo_ : ∀ p, p < 3 → ∀ g, some g = (vs p).ownBlock → lo ≤ g
  ap : ∀ p p', p < 3 → p' < 3 → p ≠ p' → ∀ g, some g = (vs p).ownBlock → some g ≠ (vs p').ownBlock
  rp : ∀ p, p < 3 → All2 (RpR w) (ls p) (E p)
theorem Wants.on {w w1 : World} {Wb lo : Nat} {vs : Nat → Value} {ls : Nat → List It} {E : Nat → List GiveA} {P : Nat → Prop} (h : Wants w Wb lo vs ls E) (ho : Old w w1 P) (h45 : ∀ b, Tag w b 45 → ¬ P b) (h43 : ∀ b, Tag w b 43 → ¬ P b) (hs : ∀ o, Soft w o → ¬ P o) : Wants w1 Wb lo vs ls E := by
  obtain ⟨c, h1, h2, h3⟩ := h.blk
  exact ⟨⟨c, (ho.block Wb (lt_of_heap h1) (h45 _ ⟨_, h1⟩)).trans h1, h2, h3⟩, fun p hp => (h.q p hp).on ho (fun b hb => h43 b ((h.q p hp).tag hb)), h.lo_, h.ap, fun p hp => (h.rp p hp).mono fun x y hxy => hxy.on ho hs⟩
theorem Wants.no {w w1 : World} {Wb lo : Nat} {vs : Nat → Value} {ls : Nat → List It} {E : Nat → List GiveA} (h : Wants w Wb lo vs ls E) (ho : Old w w1 No) : Wants w1 Wb lo vs ls E := h.on ho (fun _ _ h => h) (fun _ _ h => h) (fun _ _ h => h)
def setN {α : Type} (f : Nat → α) (p : Nat) (v : α) : Nat → α := fun j => if j = p then v else f j
theorem setN_same {α : Type} (f : Nat → α) (p : Nat) (v : α) : setN f p v p = v := by simp [setN]
theorem setN_other {α : Type} (f : Nat → α) {p j : Nat} (v : α) (h : j ≠ p) : setN f p v j = f j := by simp [setN, h]

/-- One list is another now: its value is stored. -/
theorem Wants.put {w w1 : World} {Wb lo p : Nat} {vs : Nat → Value} {ls : Nat → List It} {E : Nat → List GiveA} {v' : Value} {l' : List It} {e' : List GiveA} (h : Wants w Wb lo vs ls E) (hlo : lo ≤ w.heap.size) (hp : p < 3) (ho : Old w w1 (fun b => some b = (vs p).ownBlock)) (hq : Wq w1 v' l') (hn : ∀ b, some b = v'.ownBlock → some b = (vs p).ownBlock ∨ w.heap.size ≤ b) (hr : All2 (RpR w1) l' e') :
    Wants (w1.setCell ⟨Wb, p, none⟩ v') Wb lo (setN vs p v') (setN ls p l') (setN E p e') ∧ Old w (w1.setCell ⟨Wb, p, none⟩ v') (fun b => b = Wb ∨ some b = (vs p).ownBlock) := by
  obtain ⟨c, h1, h2, h3⟩ := h.blk
  have hWo : some Wb ≠ (vs p).ownBlock := fun e => absurd (Tag.inj ⟨_, h1⟩ ((h.q p hp).tag e)) (by decide)
  have hW1 := (ho.block Wb (lt_of_heap h1) (fun e => hWo e)).trans h1
  have hWl := lt_of_heap h1
  have hst : Old w1 (w1.setCell ⟨Wb, p, none⟩ v') (fun b => b = Wb) := (Old.refl w1 _).setCell _ (.inr rfl)
  have h43 : ∀ {v : Value} {l : List It}, Wq w1 v l → ∀ b, some b = v.ownBlock → ¬ b = Wb := fun hq b hb e => by subst e; exact absurd (Tag.inj ⟨_, hW1⟩ (hq.tag hb)) (by decide)
  have hsf : ∀ o, Soft w1 o → ¬ o = Wb := fun o hs e => by subst e; exact soft_not hs ⟨_, hW1⟩ (by decide) (by decide)
  have hoth : ∀ j, j < 3 → j ≠ p → Wq w1 (vs j) (ls j) := fun j hj hne => (h.q j hj).on ho (fun b hb e => h.ap j p hj hp hne b hb e)
  have hso : ∀ o, Soft w o → ¬ some o = (vs p).ownBlock := fun o hs e => soft_not hs ((h.q p hp).tag e) (by decide) (by decide)
  refine ⟨⟨⟨c.setIfInBounds p v', heap_setCell_same w1 Wb p c 45 v' hW1, by simp [h2], fun j hj => ?_⟩, fun j hj => ?_, fun j hj g hg => ?_, fun i j hi hj hij g hg => ?_, fun j hj => ?_⟩, (ho.weak fun _ _ h => .inr h).trans (hst.weak fun _ _ h => .inl h)⟩
  · rw [Array.getElem?_setIfInBounds]
    by_cases e : p = j
    · subst e
      rw [if_pos rfl, if_pos (by omega), setN_same]
    · rw [if_neg e, setN_other _ _ (fun h => e h.symm), h3 j hj]
  · by_cases e : j = p
    · subst e
      rw [setN_same, setN_same]
      exact hq.on hst (h43 hq)
    · rw [setN_other _ _ e, setN_other _ _ e]
      exact (hoth j hj e).on hst (h43 (hoth j hj e))
  · by_cases e : j = p
    · subst e
      rw [setN_same] at hg
      rcases hn g hg with h1 | h1
      · exact h.lo_ j hj g h1
      · omega
    · rw [setN_other _ _ e] at hg
      exact h.lo_ j hj g hg
  · by_cases ei : i = p
    · subst ei
      rw [setN_same] at hg
      rw [setN_other _ _ (fun h => hij h.symm)]
      rcases hn g hg with h1 | h1
      · exact h.ap i j hi hj hij g h1
      · intro e
        obtain ⟨_, hl⟩ := (h.q j hj).tag e
        have := lt_of_heap hl
        omega
    · rw [setN_other _ _ ei] at hg
      by_cases ej : j = p
      · subst ej
        rw [setN_same]
        intro e
        rcases hn g e with h1 | h1
        · exact h.ap i j hi hj hij g hg h1
        · obtain ⟨_, hl⟩ := (h.q i hi).tag hg
          have := lt_of_heap hl
          omega
      · rw [setN_other _ _ ej]
        exact h.ap i j hi hj hij g hg
  · by_cases e : j = p
    · subst e
      rw [setN_same, setN_same]
      exact hr.mono fun x y hxy => hxy.on hst hsf
    · rw [setN_other _ _ e, setN_other _ _ e]
      exact ((h.rp j hj).mono fun x y hxy => hxy.on ho hso).mono fun x y hxy => hxy.on hst hsf
end Go.Proofs.Ytnpgjecifllnaaa
