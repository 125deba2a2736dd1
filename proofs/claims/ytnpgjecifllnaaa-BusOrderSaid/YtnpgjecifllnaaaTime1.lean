/- What is proved here: how far a transaction is from its answer, tick by tick, with no program in sight. Conditions: none. -/
import Derived.Test.YtnpgjecifllnaaaTime0
set_option linter.unusedSimpArgs false
set_option linter.unusedVariables false
namespace Go.Proofs.Ytnpgjecifllnaaa
open Go Go.Conc Go.RowKit

/-- What the law asks for. -/
def ours (p : Nat) : AskA := ⟨(p : Int), 3, 1, 64, 8, 0, [], []⟩
def cntQ (l : List (AskA × Int)) (g : Int) : Nat := l.countP (fun a => decide (g ≤ a.2))
def elderF (c : Nat → Nat) (p : Nat) : Nat := (if 0 = p then 0 else c 0) + (if 1 = p then 0 else c 1) + (if 2 = p then 0 else c 2)
def elder (M : Mst) (p : Nat) (g : Int) : Nat := elderF (fun k => cntQ (M.Q k) g) p
def remW (W : List WayA) : Int := if W.length = 4 then (match W with | y :: _ => y.due - y.age | [] => 0) else 0
def phiA (T : Int) (M : Mst) (p : Nat) (g : Int) : Int := if g < 8 then (8 - g) + 10 * T + 1 else (elder M p g : Int) * T + remW M.W + T + 1

structure Fit (T : Int) (M : Mst) : Prop where
  most : M.most + 1 = T
  m0 : 0 ≤ M.most
  w : ∀ y ∈ M.W, 1 ≤ y.due ∧ y.due ≤ T ∧ 0 ≤ y.age
  first : ∀ y r, M.W = y :: r → y.age < y.due
  w4 : M.W.length ≤ 4
  q4 : ∀ k, k < 3 → (M.Q k).length ≤ 4
  qp : ∀ k, k < 3 → ∀ a ∈ M.Q k, a.1.port = (k : Int)

theorem Fit.new {m : Int} (h0 : 0 ≤ m) : Fit (m + 1) (Mst.new m) := ⟨rfl, h0, fun y hy => by simp [Mst.new] at hy, fun y r e => by simp [Mst.new] at e, by simp [Mst.new], fun k _ => by simp [Mst.new], fun k _ a ha => by simp [Mst.new] at ha⟩
theorem dueF_in {dl m : Int} (h0 : 0 ≤ m) : 1 ≤ dueF dl m ∧ dueF dl m ≤ m + 1 := by unfold dueF; omega
theorem Fit.answered {T : Int} {M : Mst} (h : Fit T M) : Fit T M.answered := by
  refine ⟨h.most, h.m0, fun z hz => ?_, fun y r e => ans_first M.W ⟨fun _ => false, [], []⟩ (fun _ _ => rfl) (fun y r e => by cases e) y r e, ?_, h.q4, h.qp⟩
  · obtain ⟨y, hy, rfl⟩ := (ansW_parts M.W).1 z hz
    have := h.w y hy
    simp only [WayA.older]
    omega
  · have := ansW_len M.W ⟨fun _ => false, [], []⟩
    have h4 := h.w4
    simp only [List.length_nil] at this
    show (ansW M.W).left.length ≤ 4
    unfold ansW
    omega
theorem Fit.takeK {T : Int} {M : Mst} {k : Nat} {dl : Int} (h : Fit T M) (h4 : M.W.length < 4) : Fit T (M.takeK k dl) := by
  unfold Mst.takeK
  split
  · exact h
  · rename_i a r hQ
    refine ⟨h.most, h.m0, fun y hy => ?_, fun y t e => ?_, by simp; omega, fun j hj => ?_, fun j hj b hb => ?_⟩
    · simp only [List.mem_append, List.mem_singleton] at hy
      rcases hy with hy | rfl
      · exact h.w y hy
      · have := dueF_in (dl := dl) h.m0
        have := h.most
        simp only [AskA.served]
        omega
    · simp only at e
      cases hW : M.W with
      | nil =>
        rw [hW] at e
        simp only [List.nil_append, List.cons.injEq] at e
        have := dueF_in (dl := dl) h.m0
        rw [← e.1]
        simp only [AskA.served]
        omega
      | cons z s =>
        rw [hW] at e
        simp only [List.cons_append, List.cons.injEq] at e
        rw [← e.1]
        exact h.first z s hW
    · simp only
      by_cases e : j = k
      · subst e
        rw [if_pos rfl]
        have := h.q4 j hj
        rw [hQ] at this
        simp at this
        omega
      · rw [if_neg e]
        exact h.q4 j hj
    · simp only at hb
      by_cases e : j = k
      · subst e
        rw [if_pos rfl] at hb
        exact h.qp j hj b (by rw [hQ]; simp [hb])
      · rw [if_neg e] at hb
        exact h.qp j hj b hb
theorem Fit.take {T : Int} {M : Mst} {dl pk : Int} (h : Fit T M) : Fit T (M.take dl pk) := by
  unfold Mst.take
  split
  · exact h
  · rename_i k hk
    exact h.takeK (pick_spec hk).1
theorem Fit.aged {T : Int} {M : Mst} (h : Fit T M) : Fit T M.aged := by
  refine ⟨h.most, h.m0, h.w, h.first, h.w4, fun k hk => by simpa [Mst.aged] using h.q4 k hk, fun k hk a ha => ?_⟩
  simp only [Mst.aged, List.mem_map] at ha
  obtain ⟨b, hb, rfl⟩ := ha
  exact h.qp k hk b hb
theorem Fit.tick {T : Int} {M : Mst} {dl pk : Int} (h : Fit T M) : Fit T (M.tick dl pk) := h.answered.take.aged
theorem Fit.ask {T : Int} {M : Mst} {a : AskA} (h : Fit T M) : Fit T (M.ask a) := by
  unfold Mst.ask
  split
  · rename_i he
    obtain ⟨hm, h4, _⟩ := askE_may he
    have hm2 : MayP a.port a.id a.kind a.addr a.beats a.ds.length a.ss.length a.size := hm
    refine ⟨h.most, h.m0, h.w, h.first, h.w4, fun k hk => ?_, fun k hk b hb => ?_⟩
    · simp only [Mst.put]
      have := h.q4 k hk
      by_cases e : k = a.port.toNat
      · rw [if_pos e]
        subst e
        simp
        omega
      · rw [if_neg e]
        exact this
    · simp only [Mst.put] at hb
      by_cases e : k = a.port.toNat
      · rw [if_pos e] at hb
        simp only [List.mem_append, List.mem_singleton] at hb
        rcases hb with hb | rfl
        · exact h.qp k hk b hb
        · have := hm2.1
          simp only
          omega
      · rw [if_neg e] at hb
        exact h.qp k hk b hb
  · exact h

theorem cnt_map (l : List (AskA × Int)) (g : Int) : cntQ (l.map fun a => (a.1, a.2 + 1)) (g + 1) = cntQ l g := by
  unfold cntQ
  rw [List.countP_map]
  congr 1
  funext a
  simp
theorem cnt_le (l : List (AskA × Int)) (g : Int) : cntQ l g ≤ l.length := List.countP_le_length
theorem cnt_snoc (l : List (AskA × Int)) (a : AskA) (g : Int) (h : 0 < g) : cntQ (l ++ [(a, 0)]) g = cntQ l g := by
  unfold cntQ
  rw [List.countP_append]
  simp
  omega
theorem elder_le {c : Nat → Nat} {p : Nat} (hp : p < 3) (h : ∀ k, k < 3 → c k ≤ 4) : elderF c p ≤ 8 := by
  have h0 := h 0 (by omega)
  have h1 := h 1 (by omega)
  have h2 := h 2 (by omega)
  have : p = 0 ∨ p = 1 ∨ p = 2 := by omega
  unfold elderF
  rcases this with rfl | rfl | rfl <;> simp <;> omega
theorem elder_congr {c c' : Nat → Nat} {p : Nat} (h : ∀ k, k < 3 → k ≠ p → c' k = c k) : elderF c' p = elderF c p := by
  have h0 := h 0 (by omega)
  have h1 := h 1 (by omega)
  have h2 := h 2 (by omega)
  unfold elderF
  by_cases e0 : 0 = p <;> by_cases e1 : 1 = p <;> by_cases e2 : 2 = p <;> simp [e0, e1, e2] <;> (try omega)
theorem elder_less {c c' : Nat → Nat} {p k : Nat} (hk : k < 3) (hkp : k ≠ p) (h : ∀ j, j < 3 → j ≠ k → c' j = c j) (e : c' k + 1 = c k) : elderF c' p + 1 = elderF c p := by
  have h0 := h 0 (by omega)
  have h1 := h 1 (by omega)
  have h2 := h 2 (by omega)
  have : k = 0 ∨ k = 1 ∨ k = 2 := by omega
  unfold elderF
  rcases this with rfl | rfl | rfl <;> by_cases e0 : 0 = p <;> by_cases e1 : 1 = p <;> by_cases e2 : 2 = p <;> simp [e0, e1, e2] <;> omega
theorem rem_in {T : Int} {M : Mst} (h : Fit T M) : 0 ≤ remW M.W ∧ remW M.W ≤ T := by
  have hT : 1 ≤ T := by have := h.most; have := h.m0; omega
  unfold remW
  split
  · cases hW : M.W with
    | nil => simp; omega
    | cons y r =>
      have h1 := h.first y r hW
      have h2 := h.w y (by rw [hW]; simp)
      simp only
      omega
  · omega

/-! ### It waits -/
structure WA (p : Nat) (g : Int) (M : Mst) : Prop where
  q : M.Q p = [(ours p, g)]
  g0 : 0 ≤ g
  w : ∀ y ∈ M.W, y.port ≠ (p : Int)
/-- It is under way. -/
def WB (p : Nat) (b : Int) (M : Mst) : Prop := M.Q p = [] ∧ 1 ≤ b ∧ ∃ W1 y W2, M.W = W1 ++ y :: W2 ∧ (∀ z ∈ W1, z.port ≠ (p : Int)) ∧ (∀ z ∈ W2, z.port ≠ (p : Int)) ∧ y.port = (p : Int) ∧ y.id = 3 ∧ y.data = servedD 64 1 64 ∧ b = y.due - y.age

theorem phi_low {T : Int} {M : Mst} {p : Nat} {g : Int} (h : Fit T M) (hg : 0 ≤ g) : T + 1 ≤ phiA T M p g := by
  have hT : 1 ≤ T := by have := h.most; have := h.m0; omega
  unfold phiA
  split
  · omega
  · have := (rem_in h).1
    have : 0 ≤ (elder M p g : Int) * T := Int.mul_nonneg (by omega) (by omega)
    omega
theorem phi_start {T : Int} {M : Mst} {p : Nat} : phiA T M p 0 = 10 * T + 9 := by unfold phiA; rw [if_pos (by omega)]; omega
theorem phi_eight {T : Int} {M : Mst} {p : Nat} (hp : p < 3) (h : Fit T M) : phiA T M p 8 ≤ 10 * T + 1 := by
  have hT : 1 ≤ T := by have := h.most; have := h.m0; omega
  unfold phiA
  rw [if_neg (by omega)]
  have h1 := (rem_in h).2
  have h2 : elder M p 8 ≤ 8 := elder_le hp (fun k hk => Nat.le_trans (cnt_le _ _) (h.q4 k hk))
  have h3 : (elder M p 8 : Int) * T ≤ 8 * T := Int.mul_le_mul_of_nonneg_right (by omega) (by omega)
  omega
theorem tick_Q_other {M : Mst} {dl pk : Int} {p : Nat} (h : M.answered.pick pk ≠ some p) : (M.tick dl pk).Q p = (M.Q p).map fun a => (a.1, a.2 + 1) := by
  unfold Mst.tick Mst.aged Mst.take
  cases hk : M.answered.pick pk with
  | none => rfl
  | some k =>
    obtain ⟨_, _, _, a, r, hQ⟩ := pick_spec hk
    have hne : ¬ p = k := fun e => h (by rw [hk, e])
    unfold Mst.takeK
    simp only [hQ]
    rw [if_neg hne]
    rfl
theorem tick_A {T : Int} {M : Mst} {p : Nat} {g dl pk : Int} (hp : p < 3) (h : Fit T M) (ha : WA p g M) :
    (∀ z ∈ M.outs, z.port ≠ (p : Int)) ∧ ((WA p (g + 1) (M.tick dl pk) ∧ phiA T (M.tick dl pk) p (g + 1) < phiA T M p g) ∨ ∃ b, WB p b (M.tick dl pk) ∧ b ≤ T) := by
  have hT : 1 ≤ T := by have := h.most; have := h.m0; omega
  have hL : ∀ z ∈ (ansW M.W).left, z.port ≠ (p : Int) := fun z hz => by obtain ⟨y, hy, rfl⟩ := (ansW_parts M.W).1 z hz; exact ha.w y hy
  have hO : ∀ z ∈ M.outs, z.port ≠ (p : Int) := fun z hz => by obtain ⟨y, hy, rfl⟩ := (ansW_parts M.W).2 z hz; exact ha.w y hy
  have hlen := ansW_len M.W ⟨fun _ => false, [], []⟩
  simp only [List.length_nil, Nat.add_zero, Nat.zero_add] at hlen
  have h4 := h.w4
  refine ⟨hO, ?_⟩
  by_cases hpk : M.answered.pick pk = some p
  · -- it is taken
    refine .inr ?_
    obtain ⟨_, _, _, a, r, hQ⟩ := pick_spec hpk
    have hQ2 : M.Q p = a :: r := hQ
    rw [ha.q] at hQ2
    simp only [List.cons.injEq] at hQ2
    obtain ⟨rfl, rfl⟩ := hQ2
    have hd := dueF_in (dl := dl) h.m0
    have hm := h.most
    refine ⟨dueF dl M.most, ⟨?_, by omega, (ansW M.W).left, (ours p).served (dueF dl M.most), [], ?_, hL, by simp, rfl, rfl, rfl, by simp [AskA.served]⟩, by omega⟩
    · unfold Mst.tick Mst.aged Mst.take
      rw [hpk]
      unfold Mst.takeK
      simp only [hQ]
      simp
    · unfold Mst.tick Mst.aged Mst.take
      rw [hpk]
      unfold Mst.takeK
      simp only [hQ]
      rfl
  · have hq := tick_Q_other (dl := dl) hpk
    rw [ha.q] at hq
    refine .inl ?_
    cases hk : M.answered.pick pk with
    | none =>
      rcases pick_none hk with h1 | ⟨_, h1⟩
      · have hM : M.answered.take dl pk = M.answered := by unfold Mst.take; rw [hk]
        have hW : (M.tick dl pk).W = (ansW M.W).left := by unfold Mst.tick; rw [hM]; rfl
        have h1' : 4 ≤ (ansW M.W).left.length := h1
        unfold ansW at h1'
        have hw4 : M.W.length = 4 := by omega
        have hall := ans_all_left M.W ⟨fun _ => false, [], []⟩ (by simp only [List.length_nil]; omega)
        simp only [List.nil_append] at hall
        refine ⟨⟨hq, by have := ha.g0; omega, fun y hy => by rw [hW] at hy; exact hL y hy⟩, ?_⟩
        have hft := h.tick (dl := dl) (pk := pk)
        by_cases hg : g < 7
        · unfold phiA
          rw [if_pos (by omega), if_pos (by omega)]
          omega
        · by_cases hg7 : g = 7
          · subst hg7
            have := phi_eight hp hft
            have h3 : phiA T M p 7 = 10 * T + 2 := by unfold phiA; rw [if_pos (by omega)]; omega
            show phiA T (M.tick dl pk) p 8 < _
            omega
          · unfold phiA
            rw [if_neg (by omega), if_neg (by omega)]
            have he : elder (M.tick dl pk) p (g + 1) = elder M p g := by
              unfold elder
              refine elder_congr fun k hk3 hkp => ?_
              have : (M.tick dl pk).Q k = (M.Q k).map fun a => (a.1, a.2 + 1) := tick_Q_other (by rw [hk]; simp)
              rw [this, cnt_map]
            have hr : remW (M.tick dl pk).W = remW M.W - 1 := by
              rw [hW]
              show remW (M.W.foldl ansWStep ⟨fun _ => false, [], []⟩).left = _
              rw [hall]
              unfold remW
              rw [List.length_map, if_pos hw4, if_pos hw4]
              cases hWW : M.W with
              | nil => rw [hWW] at hw4; simp at hw4
              | cons y r => simp only [List.map_cons, WayA.older]; omega
            rw [he, hr]
            omega
      · have := h1 p hp
        have h2 : M.Q p = [] := this
        rw [ha.q] at h2
        cases h2
    | some k =>
      have hkp : k ≠ p := fun e => hpk (by rw [hk, e])
      obtain ⟨h4a, hk3, hck, a, r, hQ⟩ := pick_spec hk
      have hQ2 : M.Q k = a :: r := hQ
      have hW : (M.tick dl pk).W = (ansW M.W).left ++ [a.1.served (dueF dl M.most)] := by
        unfold Mst.tick Mst.aged Mst.take
        rw [hk]
        unfold Mst.takeK
        simp only [hQ]
        rfl
      have hap : a.1.port = (k : Int) := h.qp k hk3 a (by rw [hQ2]; simp)
      refine ⟨⟨hq, by have := ha.g0; omega, fun y hy => ?_⟩, ?_⟩
      · rw [hW] at hy
        simp only [List.mem_append, List.mem_singleton] at hy
        rcases hy with hy | rfl
        · exact hL y hy
        · simp only [AskA.served]
          omega
      have hft := h.tick (dl := dl) (pk := pk)
      by_cases hg : g < 7
      · unfold phiA
        rw [if_pos (by omega), if_pos (by omega)]
        omega
      · by_cases hg7 : g = 7
        · subst hg7
          have := phi_eight hp hft
          have h3 : phiA T M p 7 = 10 * T + 2 := by unfold phiA; rw [if_pos (by omega)]; omega
          show phiA T (M.tick dl pk) p 8 < _
          omega
        · obtain ⟨b, t, hb, hle⟩ := choose_old (Q := M.Q) hp ha.q (show (8 : Int) ≤ g by omega) hck
          rw [hQ2] at hb
          simp only [List.cons.injEq] at hb
          obtain ⟨rfl, rfl⟩ := hb
          unfold phiA
          rw [if_neg (by omega), if_neg (by omega)]
          have he : elder (M.tick dl pk) p (g + 1) + 1 = elder M p g := by
            unfold elder
            refine elder_less hk3 hkp (fun j hj hjk => ?_) ?_
            · have : (M.tick dl pk).Q j = (M.Q j).map fun a => (a.1, a.2 + 1) := tick_Q_other (by rw [hk]; intro e; cases e; exact hjk rfl)
              rw [this, cnt_map]
            · have : (M.tick dl pk).Q k = r.map fun a => (a.1, a.2 + 1) := by
                unfold Mst.tick Mst.aged Mst.take
                rw [hk]
                unfold Mst.takeK
                simp only [hQ]
                simp
              rw [this, cnt_map, hQ2]
              unfold cntQ
              rw [List.countP_cons_of_pos (by simpa using hle)]
          have hr : remW (M.tick dl pk).W ≤ T - 1 := by
            rw [hW]
            unfold remW
            split
            · rename_i hl
              simp only [List.length_append, List.length_singleton] at hl
              cases hLL : (ansW M.W).left with
              | nil => rw [hLL] at hl; simp at hl
              | cons y s =>
                obtain ⟨y0, hy0, rfl⟩ := (ansW_parts M.W).1 y (by rw [hLL]; simp)
                have := h.w y0 hy0
                simp only [List.cons_append, WayA.older]
                omega
            · omega
          have hr0 := (rem_in h).1
          have e1 : (elder M p g : Int) * T = (elder (M.tick dl pk) p (g + 1) : Int) * T + T := by
            rw [← he]
            push_cast
            rw [Int.add_mul]
            omega
          rw [e1]
          omega
theorem tick_B {T : Int} {M : Mst} {p : Nat} {b dl pk : Int} (hp : p < 3) (h : Fit T M) (hb : WB p b M) :
    ((∀ z ∈ M.outs, z.port ≠ (p : Int)) ∧ WB p (b - 1) (M.tick dl pk)) ∨ ∃ m1 z m2, M.outs = m1 ++ z :: m2 ∧ (∀ y ∈ m1, y.port ≠ (p : Int)) ∧ z.port = (p : Int) ∧ z.id = 3 ∧ z.data = servedD 64 1 64 := by
  obtain ⟨hQ, hb1, W1, y, W2, hW, h1, h2, hy, hid, hdt, rfl⟩ := hb
  have hne : M.answered.pick pk ≠ some p := fun e => by
    obtain ⟨_, _, _, a, r, hq⟩ := pick_spec e
    have : M.Q p = a :: r := hq
    rw [hQ] at this
    cases this
  have hq := tick_Q_other (dl := dl) hne
  rw [hQ] at hq
  rcases ans_one (y := y) h1 h2 hy with ⟨hlt, m1, m2, e1, f1, f2, f3⟩ | ⟨hge, m1, m2, e1, f1, f2⟩
  · refine .inl ⟨fun z hz => f3 z (by rw [← hW]; exact hz), hq, by omega, ?_⟩
    rw [← hW] at e1
    cases hk : M.answered.pick pk with
    | none =>
      have hWt : (M.tick dl pk).W = (ansW M.W).left := by unfold Mst.tick Mst.take; rw [hk]; rfl
      exact ⟨m1, y.older, m2, by rw [hWt, e1], f1, f2, hy, hid, hdt, by simp [WayA.older]; omega⟩
    | some k =>
      obtain ⟨_, hk3, _, a, r, hQk⟩ := pick_spec hk
      have hkp : k ≠ p := fun e => hne (by rw [hk, e])
      have hap : a.1.port = (k : Int) := h.qp k hk3 a (by rw [show M.Q k = a :: r from hQk]; simp)
      have hWt : (M.tick dl pk).W = (ansW M.W).left ++ [a.1.served (dueF dl M.most)] := by
        unfold Mst.tick Mst.aged Mst.take
        rw [hk]
        unfold Mst.takeK
        simp only [hQk]
        rfl
      refine ⟨m1, y.older, m2 ++ [a.1.served (dueF dl M.most)], by rw [hWt, e1]; simp, f1, fun z hz => ?_, hy, hid, hdt, by simp [WayA.older]; omega⟩
      simp only [List.mem_append, List.mem_singleton] at hz
      rcases hz with hz | rfl
      · exact f2 z hz
      · simp only [AskA.served]
        omega
  · rw [← hW] at e1
    exact .inr ⟨m1, y.older, m2, e1, f1, hy, hid, hdt⟩

/-! ### What others ask -/
theorem ask_Q_other {M : Mst} {a : AskA} {p : Nat} (h : a.port ≠ (p : Int)) : (M.ask a).Q p = M.Q p := by
  unfold Mst.ask
  split
  · rename_i he
    have hm2 : MayP a.port a.id a.kind a.addr a.beats a.ds.length a.ss.length a.size := (askE_may he).1
    have := hm2.1
    simp only [Mst.put]
    rw [if_neg (by omega)]
  · rfl
theorem ask_W {M : Mst} {a : AskA} : (M.ask a).W = M.W := by unfold Mst.ask; split <;> rfl
theorem WB.ask {M : Mst} {a : AskA} {p : Nat} {b : Int} (h : WB p b M) (ha : a.port ≠ (p : Int)) : WB p b (M.ask a) := by
  obtain ⟨h1, h2, h3⟩ := h
  exact ⟨(ask_Q_other ha).trans h1, h2, by rw [ask_W]; exact h3⟩
theorem WA.ask {M : Mst} {a : AskA} {p : Nat} {g : Int} (h : WA p g M) (ha : a.port ≠ (p : Int)) : WA p g (M.ask a) := ⟨(ask_Q_other ha).trans h.q, h.g0, by rw [ask_W]; exact h.w⟩
theorem phi_ask {T : Int} {M : Mst} {a : AskA} {p : Nat} {g : Int} : phiA T (M.ask a) p g = phiA T M p g := by
  unfold phiA
  split
  · rfl
  · rw [ask_W]
    have : elder (M.ask a) p g = elder M p g := by
      unfold elder
      refine elder_congr fun k hk hkp => ?_
      unfold Mst.ask
      split
      · simp only [Mst.put]
        split
        · exact cnt_snoc _ _ _ (by omega)
        · rfl
      · rfl
    rw [this]

/-- Either it waits, or is under way, and is no further than f from its answer. -/
def Ours (T : Int) (p : Nat) (f : Int) (M : Mst) : Prop := (∃ g, WA p g M ∧ phiA T M p g ≤ f) ∨ ∃ b, WB p b M ∧ b ≤ T ∧ b ≤ f
theorem Ours.pos {T : Int} {p : Nat} {f : Int} {M : Mst} (hf : Fit T M) (h : Ours T p f M) : 1 ≤ f := by
  rcases h with ⟨g, ha, h⟩ | ⟨b, hb, h1, h2⟩
  · have := phi_low (p := p) hf ha.g0
    have := hf.most
    have := hf.m0
    omega
  · have := hb.2.1
    omega
theorem Ours.ask {T : Int} {p : Nat} {f : Int} {M : Mst} {a : AskA} (h : Ours T p f M) (ha : a.port ≠ (p : Int)) : Ours T p f (M.ask a) := by
  rcases h with ⟨g, h1, h2⟩ | ⟨b, h1, h2⟩
  · exact .inl ⟨g, h1.ask ha, by rw [phi_ask]; exact h2⟩
  · exact .inr ⟨b, h1.ask ha, h2⟩
theorem Ours.tick {T : Int} {p : Nat} {f dl pk : Int} {M : Mst} (hp : p < 3) (hf : Fit T M) (h : Ours T p f M) :
    ((∀ z ∈ M.outs, z.port ≠ (p : Int)) ∧ Ours T p (f - 1) (M.tick dl pk)) ∨ ∃ m1 z m2, M.outs = m1 ++ z :: m2 ∧ (∀ y ∈ m1, y.port ≠ (p : Int)) ∧ z.port = (p : Int) ∧ z.id = 3 ∧ z.data = servedD 64 1 64 := by
  rcases h with ⟨g, ha, hg⟩ | ⟨b, hb, h1, h2⟩
  · obtain ⟨h1, h2⟩ := tick_A (dl := dl) (pk := pk) hp hf ha
    refine .inl ⟨h1, ?_⟩
    rcases h2 with ⟨h2, h3⟩ | ⟨b, h2, h3⟩
    · exact .inl ⟨g + 1, h2, by omega⟩
    · have := phi_low (p := p) hf ha.g0
      exact .inr ⟨b, h2, h3, by omega⟩
  · rcases tick_B (dl := dl) (pk := pk) hp hf hb with ⟨h3, h4⟩ | h3
    · exact .inl ⟨h3, .inr ⟨b - 1, h4, by omega, by omega⟩⟩
    · exact .inr h3

/-- Ahead of it: none of that port. -/
def W0 (p : Nat) (M : Mst) : Prop := M.Q p = [] ∧ ∀ y ∈ M.W, y.port ≠ (p : Int)
theorem W0.ask {M : Mst} {a : AskA} {p : Nat} (h : W0 p M) (ha : a.port ≠ (p : Int)) : W0 p (M.ask a) := ⟨(ask_Q_other ha).trans h.1, by rw [ask_W]; exact h.2⟩
theorem W0.tick {T : Int} {M : Mst} {p : Nat} {dl pk : Int} (hp : p < 3) (hf : Fit T M) (h : W0 p M) : W0 p (M.tick dl pk) := by
  have hne : M.answered.pick pk ≠ some p := fun e => by
    obtain ⟨_, _, _, a, r, hq⟩ := pick_spec e
    have : M.Q p = a :: r := hq
    rw [h.1] at this
    cases this
  refine ⟨by rw [tick_Q_other hne, h.1]; rfl, ?_⟩
  have hL : ∀ z ∈ (ansW M.W).left, z.port ≠ (p : Int) := fun z hz => by obtain ⟨y, hy, rfl⟩ := (ansW_parts M.W).1 z hz; exact h.2 y hy
  cases hk : M.answered.pick pk with
  | none =>
    have hWt : (M.tick dl pk).W = (ansW M.W).left := by unfold Mst.tick Mst.take; rw [hk]; rfl
    rw [hWt]
    exact hL
  | some k =>
    obtain ⟨_, hk3, _, a, r, hQk⟩ := pick_spec hk
    have hkp : k ≠ p := fun e => hne (by rw [hk, e])
    have hap : a.1.port = (k : Int) := hf.qp k hk3 a (by rw [show M.Q k = a :: r from hQk]; simp)
    have hWt : (M.tick dl pk).W = (ansW M.W).left ++ [a.1.served (dueF dl M.most)] := by
      unfold Mst.tick Mst.aged Mst.take
      rw [hk]
      unfold Mst.takeK
      simp only [hQk]
      rfl
    rw [hWt]
    intro z hz
    simp only [List.mem_append, List.mem_singleton] at hz
    rcases hz with hz | rfl
    · exact hL z hz
    · simp only [AskA.served]
      omega
theorem W0.start {T : Int} {M : Mst} {p : Nat} (hp : p < 3) (hf : Fit T M) (h : W0 p M) : M.askE (ours p) = 0 ∧ Ours T p (10 * T + 9) (M.ask (ours p)) := by
  have hm : (ours p).may := by
    refine ⟨?_, ?_, ?_, ?_, ?_, ?_, ?_, ?_, ?_⟩ <;> simp [ours] <;> omega
  have hpn : (ours p).port.toNat = p := by simp [ours]
  have hh : M.has (ours p).port (ours p).id = false := by
    unfold Mst.has
    rw [hpn, h.1]
    simp only [List.any_nil, Bool.false_or]
    rw [List.any_eq_false]
    intro y hy
    have := h.2 y hy
    simp [ours, this]
  have he : M.askE (ours p) = 0 := by
    unfold Mst.askE
    rw [if_neg (fun h => h hm), if_neg (by rw [hpn, h.1]; simp), if_neg (by rw [hh]; simp)]
  refine ⟨he, .inl ⟨0, ⟨?_, by omega, by rw [ask_W]; exact h.2⟩, by rw [phi_start]; omega⟩⟩
  unfold Mst.ask
  rw [if_pos he]
  simp only [Mst.put, hpn, if_true, h.1]
  rfl
end Go.Proofs.Ytnpgjecifllnaaa
