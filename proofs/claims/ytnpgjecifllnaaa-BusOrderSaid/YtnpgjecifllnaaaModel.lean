/- What is proved here: what the bus does, with no program in sight; that its state stands where its blocks stand. Conditions: none. -/
import Derived.Test.YtnpgjecifllnaaaTake7
import Derived.Test.YtnpgjecifllnaaaTake8
set_option linter.unusedSimpArgs false
set_option linter.unusedVariables false
namespace Go.Proofs.Ytnpgjecifllnaaa
open Go Go.Conc Go.RowKit

theorem cellsI_get : ∀ (l : List It) (i j : Nat) (x : It), l[i]? = some x → j < 14 → (cellsI l)[i * 14 + j]? = x.cells.toList[j]?
  | [], i, j, x, h, _ => by simp at h
  | y :: l, i, j, x, h, hj => by
    have hy : y.cells.toList.length = 14 := by simp [It.size_cells]
    have e : cellsI (y :: l) = y.cells.toList ++ cellsI l := by simp [cellsI]
    rw [e]
    cases i with
    | zero =>
      simp at h
      subst h
      rw [List.getElem?_append_left (by rw [hy]; omega)]
      simp
    | succ i =>
      rw [List.getElem?_append_right (by rw [hy]; omega), hy]
      have : (i + 1) * 14 + j - 14 = i * 14 + j := by omega
      rw [this]
      exact cellsI_get l i j x (by simpa using h) hj
theorem items_of_own {w : World} {base : Nat} {v : Value} {l : List It} (h : w.ownsRow base 77 14 v l.length (cellsI l)) : Items w v l := by
  rcases h.2 with ⟨rfl, h2⟩ | ⟨g, cap, cur, rfl, h3, h4, h5, h6, h7, h8⟩
  · refine ⟨none, 0, by rw [h2], fun i x hi => ?_⟩
    have := (List.getElem?_eq_some_iff.1 hi).1; omega
  · refine ⟨some ⟨g, 0, none⟩, cap, rfl, fun i x hi => ⟨g, 0, rfl, lt_of_heap h4, fun j u hj => ?_⟩⟩
    have hi2 := (List.getElem?_eq_some_iff.1 hi).1
    have hj2 : j < 14 := by have := (List.getElem?_eq_some_iff.1 hj).1; simpa [It.size_cells] using this
    have h9 := congrArg (fun l => l[i * 14 + j]?) h8
    simp only [List.getElem?_take] at h9
    rw [if_pos (by omega), cellsI_get l i j x hi hj2, hj] at h9
    simp only [World.cell?, h4, Nat.zero_add]
    simpa using h9

/-- All that the bus's state hangs on. -/
theorem RepX.on {w w1 : World} {B : Nat} {sv : Value} {M : Mst} {hd : Nat → Nat} {q : Nat → List It} {bv lv : Value} {bs : List It} {ls : List Lg} {p : Nat → Prop} (h : RepX w B sv M hd q bv bs lv ls) (ho : Old w w1 p) (hB : ¬ p B) (hb : ∀ b, some b = bv.ownBlock → ¬ p b) (hl : ∀ b, some b = lv.ownBlock → ¬ p b) (hs : ∀ o, Soft w o → ¬ p o) : RepX w1 B sv M hd q bv bs lv ls := by
  have hlt := h.bus.lt
  have hbl := ho.block B hlt hB
  have hbo := own_kept h.busyo ho hb
  refine ⟨⟨Nat.lt_of_lt_of_le hlt ho.size, ?_, (ho.cell hlt hB).trans h.bus.most, (ho.cell hlt hB).trans h.bus.serve, fun k hk => (h.bus.ring k hk).on ho hlt hB, (ho.cell hlt hB).trans h.bus.busyc, items_of_own hbo, h.bus.few⟩, ?_, hbo, (ho.cell hlt hB).trans h.logc, own_kept h.logo ho hl, fun k hk => (h.wt k hk).mono fun x y hxy => hxy.on ho hs, h.wy.mono fun x y hxy => hxy.on ho hs, h.lg.mono fun x y hxy => hxy.on ho hs⟩
  · obtain ⟨c, t⟩ := h.bus.tag
    exact ⟨c, hbl.trans t⟩
  · intro j hj
    rw [World.cell?_of_block hbl, World.frozen?_of_block hbl]
    exact h.room j hj
theorem RepX.no {w w1 : World} {B : Nat} {sv : Value} {M : Mst} {hd : Nat → Nat} {q : Nat → List It} {bv lv : Value} {bs : List It} {ls : List Lg} (h : RepX w B sv M hd q bv bs lv ls) (ho : Old w w1 No) : RepX w1 B sv M hd q bv bs lv ls := h.on ho (fun h => h) (fun _ _ h => h) (fun _ _ h => h) (fun _ _ h => h)

/-! ### Which is taken -/
theorem better_congr {q q' : Nat → List It} (h : ∀ k, k < 3 → (q k).map (·.age) = (q' k).map (·.age)) {b : Option Nat} {k : Nat} (hk : k < 3) (hb : ∀ j, b = some j → j < 3) : betterB q b k = betterB q' b k := by
  have hkk := h k hk
  unfold betterB
  cases e1 : q k with
  | nil =>
    rw [e1] at hkk
    cases e2 : q' k with
    | nil => rfl
    | cons y r => rw [e2] at hkk; simp at hkk
  | cons x r =>
    rw [e1] at hkk
    cases e2 : q' k with
    | nil => rw [e2] at hkk; simp at hkk
    | cons y r2 =>
      rw [e2] at hkk
      simp only [List.map_cons, List.cons.injEq] at hkk
      cases b with
      | none => simp [hkk.1]
      | some j =>
        have hj := h j (hb j rfl)
        cases f1 : q j with
        | nil =>
          rw [f1] at hj
          cases f2 : q' j with
          | nil => simp [f1, f2]
          | cons z s => rw [f2] at hj; simp at hj
        | cons z s =>
          rw [f1] at hj
          cases f2 : q' j with
          | nil => rw [f2] at hj; simp at hj
          | cons z2 s2 =>
            rw [f2] at hj
            simp only [List.map_cons, List.cons.injEq] at hj
            simp [hkk.1, hj.1, f1, f2]
theorem best_congr {q q' : Nat → List It} (h : ∀ k, k < 3 → (q k).map (·.age) = (q' k).map (·.age)) : ∀ n, n ≤ 3 → bestOf q n = bestOf q' n := by
  intro n
  induction n with
  | zero => intro _; rfl
  | succ n ih =>
    intro hn
    have e := ih (by omega)
    unfold bestOf
    rw [e, better_congr h (by omega) (fun j hj => by rw [← e] at hj; have := best_spec q n j hj; omega)]
theorem at_lt (pick : Int) (i : Nat) : atOf pick i < 3 := Nat.mod_lt _ (by omega)
theorem choose_congr {q q' : Nat → List It} (h : ∀ k, k < 3 → (q k).map (·.age) = (q' k).map (·.age)) (pick : Int) : chooseF q pick = chooseF q' pick := by
  have he : ∀ i, (q (atOf pick i) ≠ []) = (q' (atOf pick i) ≠ []) := fun i => by
    have hh := h _ (at_lt pick i)
    apply propext
    constructor
    · intro hn e; apply hn; rw [e] at hh; simpa using hh
    · intro hn e; apply hn; rw [e] at hh; simpa using hh.symm
  unfold chooseF
  rw [best_congr h 3 (Nat.le_refl _)]
  simp only [he]
def ghost (a : AskA × Int) : It := { It.none with age := a.2 }
def chooseM (Q : Nat → List (AskA × Int)) (pk : Int) : Int := chooseF (fun k => (Q k).map ghost) pk
theorem ages_of {w : World} {l : List It} {m : List (AskA × Int)} (h : All2 (WtR w) l m) : l.map (·.age) = (m.map ghost).map (·.age) := by
  apply List.ext_getElem?
  intro i
  simp only [List.getElem?_map]
  cases e : l[i]? with
  | none =>
    have h1 := List.getElem?_eq_none_iff.1 e
    have h2 : m[i]? = none := List.getElem?_eq_none_iff.2 (by rw [← h.1]; exact h1)
    simp [h2]
  | some x =>
    have h1 := (List.getElem?_eq_some_iff.1 e).1
    obtain ⟨y, hy⟩ : ∃ y, m[i]? = some y := ⟨m[i]'(by rw [← h.1]; exact h1), List.getElem?_eq_getElem _⟩
    have hr := (h.2 i x y e hy).2.2.2.2.2.2.1
    simp [hy, ghost, hr]
theorem choose_eq {w : World} {q : Nat → List It} {Q : Nat → List (AskA × Int)} (h : ∀ k, k < 3 → All2 (WtR w) (q k) (Q k)) (pk : Int) : chooseF q pk = chooseM Q pk := choose_congr (fun k hk => ages_of (h k hk)) pk
theorem choose_spec (q : Nat → List It) (pk : Int) : (chooseF q pk = -1 ∧ ∀ k, k < 3 → q k = []) ∨ ∃ k : Nat, k < 3 ∧ chooseF q pk = (k : Int) ∧ q k ≠ [] := by
  unfold chooseF
  cases hb : bestOf q 3 with
  | some k =>
    obtain ⟨h1, x, r, h2, _⟩ := best_spec q 3 k hb
    exact .inr ⟨k, h1, rfl, by rw [h2]; simp⟩
  | none =>
    simp only
    by_cases h0 : q (atOf pk 0) ≠ []
    · exact .inr ⟨_, at_lt pk 0, by rw [if_pos h0], h0⟩
    · by_cases h1 : q (atOf pk 1) ≠ []
      · exact .inr ⟨_, at_lt pk 1, by rw [if_neg h0, if_pos h1], h1⟩
      · by_cases h2 : q (atOf pk 2) ≠ []
        · exact .inr ⟨_, at_lt pk 2, by rw [if_neg h0, if_neg h1, if_pos h2], h2⟩
        · refine .inl ⟨by rw [if_neg h0, if_neg h1, if_neg h2], fun k hk => ?_⟩
          simp only [ne_eq, Decidable.not_not] at h0 h1 h2
          have : k = atOf pk 0 ∨ k = atOf pk 1 ∨ k = atOf pk 2 := by unfold atOf; omega
          rcases this with rfl | rfl | rfl <;> assumption

def AskA.served (a : AskA) (due : Int) : WayA := ⟨a.port, a.id, 0, due, servedD a.addr a.kind (8 * a.beats).toNat, oddP a.addr⟩
/-- The port whose first one is taken. -/
def Mst.pick (M : Mst) (pk : Int) : Option Nat := if 4 ≤ M.W.length then none else if chooseM M.Q pk < 0 then none else some (chooseM M.Q pk).toNat
def Mst.takeK (M : Mst) (k : Nat) (dl : Int) : Mst :=
  match M.Q k with
  | [] => M
  | a :: r => { M with Q := fun j => if j = k then r else M.Q j, W := M.W ++ [a.1.served (dueF dl M.most)], L := M.L ++ [a.1] }
def Mst.take (M : Mst) (dl pk : Int) : Mst :=
  match M.pick pk with
  | none => M
  | some k => M.takeK k dl
theorem pick_spec {M : Mst} {pk : Int} {k : Nat} (h : M.pick pk = some k) : M.W.length < 4 ∧ k < 3 ∧ chooseM M.Q pk = (k : Int) ∧ ∃ a r, M.Q k = a :: r := by
  unfold Mst.pick at h
  split at h
  · cases h
  · split at h
    · cases h
    · rename_i h1 h2
      cases h
      rcases choose_spec (fun k => (M.Q k).map ghost) pk with ⟨e, _⟩ | ⟨k, hk, e, hne⟩
      · exact absurd (show chooseM M.Q pk < 0 by unfold chooseM; omega) h2
      · have e2 : chooseM M.Q pk = (k : Int) := e
        rw [e2]
        refine ⟨by omega, hk, rfl, ?_⟩
        simp only [Int.toNat_natCast]
        cases hq : M.Q k with
        | nil => rw [hq] at hne; simp at hne
        | cons a r => exact ⟨a, r, rfl⟩
theorem pick_none {M : Mst} {pk : Int} (h : M.pick pk = none) : 4 ≤ M.W.length ∨ (chooseM M.Q pk = -1 ∧ ∀ k, k < 3 → M.Q k = []) := by
  unfold Mst.pick at h
  split at h
  · exact .inl (by assumption)
  · split at h
    · rename_i h1 h2
      rcases choose_spec (fun k => (M.Q k).map ghost) pk with ⟨e, he⟩ | ⟨k, hk, e, hne⟩
      · exact .inr ⟨e, fun k hk => by simpa using he k hk⟩
      · exact absurd h2 (show ¬ chooseM M.Q pk < 0 by unfold chooseM; omega)
    · cases h
end Go.Proofs.Ytnpgjecifllnaaa
