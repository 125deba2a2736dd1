/- What is proved here: a transaction of a port that had none that waited comes through within its bound, with no program in sight. Conditions: none. -/
import Derived.Test.YtnpgjecifllnaaaAskR
set_option linter.unusedSimpArgs false
set_option linter.unusedVariables false
namespace Go.Proofs.Ytnpgjecifllnaaa
open Go Go.Conc Go.RowKit

/-! ### The answers -/
theorem ans_split (l1 l2 : List WayA) (y : WayA) : ansW (l1 ++ y :: l2) = l2.foldl ansWStep (ansWStep (ansW l1) y) := by simp [ansW, List.foldl_append]
/-- None of that port: it is not held. -/
theorem ans_none : ∀ (l : List WayA) (s : AnsW) (p : Int), (∀ y ∈ l, y.port ≠ p) → (l.foldl ansWStep s).held p = s.held p
  | [], s, p, _ => rfl
  | x :: l, s, p, h => by
    rw [List.foldl_cons, ans_none l _ p (fun y hy => h y (by simp [hy]))]
    unfold ansWStep
    split
    · have : p ≠ x.port := fun e => h x (by simp) e.symm
      simp [this]
    · rfl
/-- What was there stays ahead. -/
theorem ans_more : ∀ (l : List WayA) (s : AnsW), ∃ l1 o1, (l.foldl ansWStep s).left = s.left ++ l1 ∧ (l.foldl ansWStep s).out = s.out ++ o1 ∧ (∀ z ∈ l1, ∃ y ∈ l, z = y.older) ∧ (∀ z ∈ o1, ∃ y ∈ l, z = y.older)
  | [], s => ⟨[], [], by simp, by simp, by simp, by simp⟩
  | x :: l, s => by
    obtain ⟨l1, o1, h1, h2, h3, h4⟩ := ans_more l (ansWStep s x)
    rw [List.foldl_cons, h1, h2]
    unfold ansWStep
    split
    · refine ⟨x.older :: l1, o1, by simp, rfl, fun z hz => ?_, fun z hz => ?_⟩
      · rcases List.mem_cons.1 hz with rfl | hz
        · exact ⟨x, by simp, rfl⟩
        · obtain ⟨y, hy, e⟩ := h3 z hz; exact ⟨y, by simp [hy], e⟩
      · obtain ⟨y, hy, e⟩ := h4 z hz; exact ⟨y, by simp [hy], e⟩
    · refine ⟨l1, x.older :: o1, rfl, by simp, fun z hz => ?_, fun z hz => ?_⟩
      · obtain ⟨y, hy, e⟩ := h3 z hz; exact ⟨y, by simp [hy], e⟩
      · rcases List.mem_cons.1 hz with rfl | hz
        · exact ⟨x, by simp, rfl⟩
        · obtain ⟨y, hy, e⟩ := h4 z hz; exact ⟨y, by simp [hy], e⟩
theorem ansW_parts (l : List WayA) : (∀ z ∈ (ansW l).left, ∃ y ∈ l, z = y.older) ∧ (∀ z ∈ (ansW l).out, ∃ y ∈ l, z = y.older) := by
  obtain ⟨l1, o1, h1, h2, h3, h4⟩ := ans_more l ⟨fun _ => false, [], []⟩
  unfold ansW
  rw [h1, h2]
  simp only [List.nil_append]
  exact ⟨h3, h4⟩
/-- The first of those that are left is not due. -/
theorem ans_first : ∀ (l : List WayA) (s : AnsW), (s.left = [] → ∀ k, s.held k = false) → (∀ y r, s.left = y :: r → y.age < y.due) → ∀ y r, (l.foldl ansWStep s).left = y :: r → y.age < y.due
  | [], s, _, h2, y, r, e => h2 y r e
  | x :: l, s, h1, h2, y, r, e => by
    refine ans_first l (ansWStep s x) (fun he => ?_) (fun z t he => ?_) y r e
    · unfold ansWStep at he ⊢
      split at he
      · simp at he
      · rename_i hc
        rw [if_neg hc]
        exact h1 he
    · unfold ansWStep at he
      split at he
      · rename_i hc
        cases hl : s.left with
        | nil =>
          rw [hl] at he
          simp only [List.nil_append, List.cons.injEq] at he
          rw [h1 hl] at hc
          simp only [Bool.false_or, decide_eq_true_eq] at hc
          rw [← he.1]
          exact hc
        | cons a b =>
          rw [hl] at he
          simp only [List.cons_append, List.cons.injEq] at he
          rw [← he.1]
          exact h2 a b hl
      · exact h2 z t he
/-- Where none is answered they all are a tick older. -/
theorem ans_all_left : ∀ (l : List WayA) (s : AnsW), (l.foldl ansWStep s).out.length = s.out.length → (l.foldl ansWStep s).left = s.left ++ l.map WayA.older
  | [], s, _ => by simp
  | x :: l, s, h => by
    rw [List.foldl_cons] at h ⊢
    obtain ⟨l1, o1, h1, h2, _, _⟩ := ans_more l (ansWStep s x)
    have hs : (ansWStep s x).out = s.out ∧ (ansWStep s x).left = s.left ++ [x.older] := by
      have hl := congrArg List.length h2
      rw [List.length_append] at hl
      unfold ansWStep at hl ⊢
      split
      · exact ⟨rfl, rfl⟩
      · rename_i hc
        rw [if_neg hc] at hl
        simp only [List.length_append, List.length_singleton] at hl
        unfold ansWStep at h
        rw [if_neg hc] at h
        omega
    rw [ans_all_left l (ansWStep s x) (by rw [h, hs.1]), hs.2]
    simp
/-- Just one of that port: it is answered, or stays and is not due. -/
theorem ans_one {p : Int} {l1 l2 : List WayA} {y : WayA} (h1 : ∀ z ∈ l1, z.port ≠ p) (h2 : ∀ z ∈ l2, z.port ≠ p) (hy : y.port = p) :
    (y.age + 1 < y.due ∧ ∃ m1 m2, (ansW (l1 ++ y :: l2)).left = m1 ++ y.older :: m2 ∧ (∀ z ∈ m1, z.port ≠ p) ∧ (∀ z ∈ m2, z.port ≠ p) ∧ ∀ z ∈ (ansW (l1 ++ y :: l2)).out, z.port ≠ p) ∨
    (y.due ≤ y.age + 1 ∧ ∃ m1 m2, (ansW (l1 ++ y :: l2)).out = m1 ++ y.older :: m2 ∧ (∀ z ∈ m1, z.port ≠ p) ∧ (∀ z ∈ m2, z.port ≠ p)) := by
  have hh : (ansW l1).held y.port = false := by rw [hy]; exact ans_none l1 _ p h1
  obtain ⟨a1, a2⟩ := ansW_parts l1
  have b1 : ∀ z ∈ (ansW l1).left, z.port ≠ p := fun z hz => by obtain ⟨x, hx, rfl⟩ := a1 z hz; exact h1 x hx
  have b2 : ∀ z ∈ (ansW l1).out, z.port ≠ p := fun z hz => by obtain ⟨x, hx, rfl⟩ := a2 z hz; exact h1 x hx
  rw [ans_split]
  obtain ⟨m, o, e1, e2, e3, e4⟩ := ans_more l2 (ansWStep (ansW l1) y)
  have c1 : ∀ z ∈ m, z.port ≠ p := fun z hz => by obtain ⟨x, hx, rfl⟩ := e3 z hz; exact h2 x hx
  have c2 : ∀ z ∈ o, z.port ≠ p := fun z hz => by obtain ⟨x, hx, rfl⟩ := e4 z hz; exact h2 x hx
  rw [e1, e2]
  unfold ansWStep
  rw [hh]
  by_cases hd : y.age + 1 < y.due
  · rw [if_pos (by simp [hd])]
    refine .inl ⟨hd, (ansW l1).left, m, by simp, b1, c1, fun z hz => ?_⟩
    rcases List.mem_append.1 hz with hz | hz
    · exact b2 z hz
    · exact c2 z hz
  · rw [if_neg (by simp [hd])]
    exact .inr ⟨by omega, (ansW l1).out, o, by simp, b2, c2⟩

/-! ### The choice -/
theorem best_max (q : Nat → List It) : ∀ n k x r, k < n → q k = x :: r → 8 ≤ x.age → ∃ j y t, bestOf q n = some j ∧ q j = y :: t ∧ x.age ≤ y.age := by
  intro n
  induction n with
  | zero => intro k x r h; omega
  | succ n ih =>
    intro k x r hk hq h8
    have hcase : ∀ (x : It) r, q n = x :: r → 8 ≤ x.age → ∃ j y t, bestOf q (n + 1) = some j ∧ q j = y :: t ∧ x.age ≤ y.age := by
      intro x r hq h8
      cases hb : bestOf q n with
      | none =>
        refine ⟨n, x, r, ?_, hq, Int.le_refl _⟩
        rw [bestOf, if_pos]
        unfold betterB
        rw [hq, hb]
        simp [h8]
      | some j =>
        obtain ⟨_, y, t, hy, _⟩ := best_spec q n j hb
        by_cases hlt : y.age < x.age
        · refine ⟨n, x, r, ?_, hq, Int.le_refl _⟩
          rw [bestOf, if_pos]
          unfold betterB
          rw [hq, hb]
          simp [h8, hy, hlt]
        · refine ⟨j, y, t, ?_, hy, by omega⟩
          rw [bestOf, if_neg, hb]
          unfold betterB
          rw [hq, hb]
          simp [hy, hlt]
    rcases Nat.lt_or_ge k n with h | h
    · obtain ⟨j, y, t, hb, hy, hle⟩ := ih k x r h hq h8
      by_cases hbt : betterB q (bestOf q n) n = true
      · have hbt' := hbt
        unfold betterB at hbt
        cases hqn : q n with
        | nil => rw [hqn] at hbt; simp at hbt
        | cons z s =>
          rw [hqn, hb] at hbt
          simp only [hy, Bool.and_eq_true, decide_eq_true_eq] at hbt
          refine ⟨n, z, s, ?_, hqn, by omega⟩
          rw [bestOf, if_pos hbt']
      · exact ⟨j, y, t, by rw [bestOf, if_neg hbt, hb], hy, hle⟩
    · obtain rfl : k = n := by omega
      exact hcase x r hq h8
theorem choose_old {Q : Nat → List (AskA × Int)} {pk : Int} {p k : Nat} {a : AskA × Int} {r : List (AskA × Int)} (hp : p < 3) (hq : Q p = a :: r) (h8 : 8 ≤ a.2) (hc : chooseM Q pk = (k : Int)) : ∃ b t, Q k = b :: t ∧ a.2 ≤ b.2 := by
  obtain ⟨j, y, t, hb, hy, hle⟩ := best_max (fun k => (Q k).map ghost) 3 p (ghost a) (r.map ghost) hp (by simp [hq]) (by simpa [ghost] using h8)
  have : chooseM Q pk = (j : Int) := by unfold chooseM chooseF; rw [hb]
  have hjk : j = k := by omega
  subst hjk
  cases hQ : Q j with
  | nil => simp [hQ] at hy
  | cons b t2 =>
    simp only [hQ, List.map_cons, List.cons.injEq] at hy
    refine ⟨b, t2, rfl, ?_⟩
    rw [← hy.1] at hle
    simpa [ghost] using hle
end Go.Proofs.Ytnpgjecifllnaaa
