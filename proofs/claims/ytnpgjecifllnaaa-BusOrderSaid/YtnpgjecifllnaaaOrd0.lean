/- What is proved here: each that was asked is answered once, in its port's order, and all of them in the end, with no program in sight. Conditions: none. -/
import Derived.Test.YtnpgjecifllnaaaTime1
set_option linter.unusedSimpArgs false
set_option linter.unusedVariables false
namespace Go.Proofs.Ytnpgjecifllnaaa
open Go Go.Conc Go.RowKit

/-- An answer. -/
structure GiveA where
  port : Int
  id : Int
  data : List Value
  err : Bool
def WayA.give (y : WayA) : GiveA := ⟨y.port, y.id, y.data, y.err⟩
def AskA.give (a : AskA) : GiveA := ⟨a.port, a.id, servedD a.addr a.kind (8 * a.beats).toNat, oddP a.addr⟩
def ofPort (l : List WayA) (p : Nat) : List WayA := l.filter (fun y => y.port == (p : Int))
/-- What a port's are still to be answered, in order. -/
def expect (M : Mst) (p : Nat) : List GiveA := (ofPort M.W p).map WayA.give ++ (M.Q p).map (fun a => a.1.give)

theorem ofPort_append (l m : List WayA) (p : Nat) : ofPort (l ++ m) p = ofPort l p ++ ofPort m p := List.filter_append ..
theorem ofPort_one {y : WayA} {p : Nat} (h : y.port = (p : Int)) : ofPort [y] p = [y] := by simp [ofPort, h]
theorem ofPort_other {y : WayA} {p : Nat} (h : y.port ≠ (p : Int)) : ofPort [y] p = [] := by simp [ofPort, h]
theorem ofPort_cons (y : WayA) (l : List WayA) (p : Nat) : ofPort (y :: l) p = ofPort [y] p ++ ofPort l p := ofPort_append [y] l p
theorem give_older (l : List WayA) : (l.map WayA.older).map WayA.give = l.map WayA.give := by simp [WayA.older, WayA.give]

theorem ans_port (p : Nat) : ∀ (l : List WayA) (s : AnsW), (s.held (p : Int) = false → ofPort s.left p = []) →
    ofPort (l.foldl ansWStep s).out p ++ ofPort (l.foldl ansWStep s).left p = ofPort s.out p ++ ofPort s.left p ++ (ofPort l p).map WayA.older
  | [], s, _ => by simp [ofPort]
  | x :: l, s, h => by
    rw [List.foldl_cons, ofPort_cons x l]
    by_cases hx : x.port = (p : Int)
    · have hxo : x.older.port = (p : Int) := hx
      rw [ofPort_one hx]
      by_cases hc : (s.held x.port || decide (x.age + 1 < x.due)) = true
      · rw [ans_port p l (ansWStep s x) (by unfold ansWStep; rw [if_pos hc]; simp [hx])]
        unfold ansWStep
        rw [if_pos hc, ofPort_append, ofPort_one hxo]
        simp
      · have hh : s.held (p : Int) = false := by
          rw [← hx]
          cases hb : s.held x.port with
          | false => rfl
          | true => rw [hb] at hc; simp at hc
        rw [ans_port p l (ansWStep s x) (by unfold ansWStep; rw [if_neg hc]; exact h)]
        unfold ansWStep
        rw [if_neg hc, ofPort_append, ofPort_one hxo, h hh]
        simp
    · have hxo : x.older.port ≠ (p : Int) := hx
      have hx' : ¬ ((p : Int) = x.port) := fun e => hx e.symm
      rw [ofPort_other hx]
      by_cases hc : (s.held x.port || decide (x.age + 1 < x.due)) = true
      · rw [ans_port p l (ansWStep s x) (by unfold ansWStep; rw [if_pos hc]; simp only [hx', if_false]; intro hh; rw [ofPort_append, ofPort_other hxo, h hh]; rfl)]
        unfold ansWStep
        rw [if_pos hc, ofPort_append, ofPort_other hxo]
        simp
      · rw [ans_port p l (ansWStep s x) (by unfold ansWStep; rw [if_neg hc]; exact h)]
        unfold ansWStep
        rw [if_neg hc, ofPort_append, ofPort_other hxo]
        simp
theorem expect_tick {T : Int} {M : Mst} {dl pk : Int} {p : Nat} (hp : p < 3) (h : Fit T M) : expect M p = (ofPort M.outs p).map WayA.give ++ expect (M.tick dl pk) p := by
  have ha := ans_port p M.W ⟨fun _ => false, [], []⟩ (fun _ => rfl)
  have ha2 := congrArg (List.map WayA.give) ha
  simp only [List.map_append, give_older] at ha2
  have ha3 : (ofPort M.outs p).map WayA.give ++ (ofPort (ansW M.W).left p).map WayA.give = (ofPort M.W p).map WayA.give := by
    refine ha2.trans ?_
    simp [ofPort]
  unfold expect
  rw [← ha3, List.append_assoc]
  congr 1
  cases hk : M.answered.pick pk with
  | none =>
    have hW : (M.tick dl pk).W = (ansW M.W).left := by unfold Mst.tick Mst.take; rw [hk]; rfl
    have hQ : (M.tick dl pk).Q p = (M.Q p).map fun a => (a.1, a.2 + 1) := tick_Q_other (by rw [hk]; simp)
    rw [hW, hQ]
    simp
  | some k =>
    obtain ⟨_, hk3, _, a, r, hQk⟩ := pick_spec hk
    have hQk2 : M.Q k = a :: r := hQk
    have hap : a.1.port = (k : Int) := h.qp k hk3 a (by rw [hQk2]; simp)
    have hW : (M.tick dl pk).W = (ansW M.W).left ++ [a.1.served (dueF dl M.most)] := by
      unfold Mst.tick Mst.aged Mst.take
      rw [hk]
      unfold Mst.takeK
      simp only [hQk]
      rfl
    rw [hW, ofPort_append]
    by_cases e : k = p
    · subst e
      have hQ : (M.tick dl pk).Q k = r.map fun a => (a.1, a.2 + 1) := by
        unfold Mst.tick Mst.aged Mst.take
        rw [hk]
        unfold Mst.takeK
        simp only [hQk]
        simp
      rw [ofPort_one (show (a.1.served (dueF dl M.most)).port = (k : Int) from hap), hQ, hQk2]
      simp [AskA.served, WayA.give, AskA.give]
    · have hQ : (M.tick dl pk).Q p = (M.Q p).map fun a => (a.1, a.2 + 1) := tick_Q_other (by rw [hk]; intro e2; cases e2; exact e rfl)
      rw [ofPort_other (show (a.1.served (dueF dl M.most)).port ≠ (p : Int) by simp only [AskA.served]; omega), hQ]
      simp
theorem expect_ask {M : Mst} {a : AskA} {p : Nat} : expect (M.ask a) p = expect M p ++ (if M.askE a = 0 ∧ a.port = (p : Int) then [a.give] else []) := by
  by_cases he : M.askE a = 0
  · have hm2 : MayP a.port a.id a.kind a.addr a.beats a.ds.length a.ss.length a.size := (askE_may he).1
    have h0 := hm2.1
    unfold expect Mst.ask
    rw [if_pos he]
    simp only [Mst.put]
    by_cases e : a.port = (p : Int)
    · rw [if_pos (by omega), if_pos ⟨he, e⟩]
      simp
    · rw [if_neg (by omega), if_neg (fun h => e h.2)]
      simp
  · rw [if_neg (fun h => he h.1)]
    unfold Mst.ask
    rw [if_neg he]
    simp
theorem outs_port {T : Nat} {M : Mst} (h : M.ok T) {y : WayA} (hy : y ∈ M.outs) : ∃ p : Nat, p < 3 ∧ y.port = (p : Int) := by
  obtain ⟨z, hz, rfl⟩ := (ansW_parts M.W).2 y hy
  exact (h.w z hz).1

/-! ### All comes through -/
def waiting (M : Mst) : Nat := (M.Q 0).length + (M.Q 1).length + (M.Q 2).length
/-- No further than f from being empty. -/
def Drain (T : Int) (f : Int) (M : Mst) : Prop := (0 < waiting M ∧ (waiting M : Int) * T + remW M.W + T + 1 ≤ f) ∨ (waiting M = 0 ∧ ∀ y ∈ M.W, y.due - y.age ≤ f)
theorem wait_zero {M : Mst} (h : waiting M = 0) : ∀ k, k < 3 → M.Q k = [] := by
  intro k hk
  unfold waiting at h
  have : k = 0 ∨ k = 1 ∨ k = 2 := by omega
  rcases this with rfl | rfl | rfl <;> exact List.eq_nil_of_length_eq_zero (by omega)
theorem ans_due {f : Int} : ∀ (l : List WayA) (s : AnsW), (∀ y ∈ s.left, y.due - y.age ≤ f - 1) → (∀ y ∈ l, y.due - y.age ≤ f) → ∀ y ∈ (l.foldl ansWStep s).left, y.due - y.age ≤ f - 1
  | [], s, h, _ => h
  | x :: l, s, h, hl => by
    refine ans_due l (ansWStep s x) ?_ (fun y hy => hl y (by simp [hy]))
    unfold ansWStep
    split
    · intro y hy
      simp only [List.mem_append, List.mem_singleton] at hy
      rcases hy with hy | rfl
      · exact h y hy
      · have := hl x (by simp)
        simp only [WayA.older]
        omega
    · exact h
theorem Drain.tick {T f dl pk : Int} {M : Mst} (h : Fit T M) (hd : Drain T f M) : Drain T (f - 1) (M.tick dl pk) := by
  have hT : 1 ≤ T := by have := h.most; have := h.m0; omega
  have hlen := ansW_len M.W ⟨fun _ => false, [], []⟩
  simp only [List.length_nil, Nat.add_zero, Nat.zero_add] at hlen
  have h4 := h.w4
  have hft := h.tick (dl := dl) (pk := pk)
  rcases hd with ⟨hw, hf⟩ | ⟨hw, hf⟩
  · cases hk : M.answered.pick pk with
    | none =>
      have hQ : ∀ p, (M.tick dl pk).Q p = (M.Q p).map fun a => (a.1, a.2 + 1) := fun p => tick_Q_other (by rw [hk]; simp)
      have hwt : waiting (M.tick dl pk) = waiting M := by unfold waiting; rw [hQ, hQ, hQ]; simp
      have hW : (M.tick dl pk).W = (ansW M.W).left := by unfold Mst.tick Mst.take; rw [hk]; rfl
      rcases pick_none hk with h1 | ⟨_, h1⟩
      · have h1' : 4 ≤ (ansW M.W).left.length := h1
        unfold ansW at h1'
        have hw4 : M.W.length = 4 := by omega
        have hall := ans_all_left M.W ⟨fun _ => false, [], []⟩ (by simp only [List.length_nil]; omega)
        simp only [List.nil_append] at hall
        refine .inl ⟨by omega, ?_⟩
        have hr : remW (M.tick dl pk).W = remW M.W - 1 := by
          rw [hW]
          show remW (M.W.foldl ansWStep ⟨fun _ => false, [], []⟩).left = _
          rw [hall]
          unfold remW
          rw [List.length_map, if_pos hw4, if_pos hw4]
          cases hWW : M.W with
          | nil => rw [hWW] at hw4; simp at hw4
          | cons y r => simp only [List.map_cons, WayA.older]; omega
        rw [hwt, hr]
        omega
      · exfalso
        have e0 : M.Q 0 = [] := h1 0 (by omega)
        have e1 : M.Q 1 = [] := h1 1 (by omega)
        have e2 : M.Q 2 = [] := h1 2 (by omega)
        unfold waiting at hw
        rw [e0, e1, e2] at hw
        simp at hw
    | some k =>
      obtain ⟨h4a, hk3, hck, a, r, hQ⟩ := pick_spec hk
      have hQ2 : M.Q k = a :: r := hQ
      have hW : (M.tick dl pk).W = (ansW M.W).left ++ [a.1.served (dueF dl M.most)] := by
        unfold Mst.tick Mst.aged Mst.take
        rw [hk]
        unfold Mst.takeK
        simp only [hQ]
        rfl
      have hQo : ∀ j, j ≠ k → (M.tick dl pk).Q j = (M.Q j).map fun a => (a.1, a.2 + 1) := fun j hj => tick_Q_other (by rw [hk]; intro e; cases e; exact hj rfl)
      have hQk : (M.tick dl pk).Q k = r.map fun a => (a.1, a.2 + 1) := by
        unfold Mst.tick Mst.aged Mst.take
        rw [hk]
        unfold Mst.takeK
        simp only [hQ]
        simp
      have hlk : (M.Q k).length = ((M.tick dl pk).Q k).length + 1 := by rw [hQ2, hQk]; simp
      have hlo : ∀ j, j ≠ k → ((M.tick dl pk).Q j).length = (M.Q j).length := fun j hj => by rw [hQo j hj]; simp
      have hwt : waiting M = waiting (M.tick dl pk) + 1 := by
        unfold waiting
        have : k = 0 ∨ k = 1 ∨ k = 2 := by omega
        rcases this with rfl | rfl | rfl
        · have := hlo 1 (by omega); have := hlo 2 (by omega); omega
        · have := hlo 0 (by omega); have := hlo 2 (by omega); omega
        · have := hlo 0 (by omega); have := hlo 1 (by omega); omega
      have hr : remW (M.tick dl pk).W ≤ T - 1 := by
        rw [hW]
        unfold remW
        split
        · rename_i hl
          simp only [List.length_append, List.length_singleton] at hl
          cases hLL : (ansW M.W).left with
          | nil => rw [hLL] at hl; simp at hl
          | cons y s =>
            obtain ⟨y0, hy0, rfl⟩ := (ansW_parts M.W).1 y (by rw [hLL]; simp)
            have := h.w y0 hy0
            simp only [List.cons_append, WayA.older]
            omega
        · omega
      have hr0 := (rem_in h).1
      have e1 : (waiting M : Int) * T = (waiting (M.tick dl pk) : Int) * T + T := by
        rw [hwt]
        push_cast
        rw [Int.add_mul]
        omega
      rw [e1] at hf
      by_cases h0 : 0 < waiting (M.tick dl pk)
      · exact .inl ⟨h0, by omega⟩
      · refine .inr ⟨by omega, fun y hy => ?_⟩
        have h1 := hft.w y hy
        have : (waiting (M.tick dl pk) : Int) * T = 0 := by rw [show waiting (M.tick dl pk) = 0 by omega]; simp
        omega
  · have hk : M.answered.pick pk = none := by
      cases hk : M.answered.pick pk with
      | none => rfl
      | some k =>
        obtain ⟨_, hk3, _, a, r, hQ⟩ := pick_spec hk
        have : M.Q k = a :: r := hQ
        rw [wait_zero hw k hk3] at this
        cases this
    have hQ : ∀ p, (M.tick dl pk).Q p = (M.Q p).map fun a => (a.1, a.2 + 1) := fun p => tick_Q_other (by rw [hk]; simp)
    have hwt : waiting (M.tick dl pk) = waiting M := by unfold waiting; rw [hQ, hQ, hQ]; simp
    have hW : (M.tick dl pk).W = (ansW M.W).left := by unfold Mst.tick Mst.take; rw [hk]; rfl
    refine .inr ⟨by omega, ?_⟩
    rw [hW]
    exact ans_due M.W _ (fun y hy => by simp at hy) hf
theorem Drain.start {T : Int} {M : Mst} (h : Fit T M) : Drain T (14 * T + 1) M := by
  have hT : 1 ≤ T := by have := h.most; have := h.m0; omega
  by_cases h0 : 0 < waiting M
  · refine .inl ⟨h0, ?_⟩
    have h1 : waiting M ≤ 12 := by
      have a0 := h.q4 0 (by omega)
      have a1 := h.q4 1 (by omega)
      have a2 := h.q4 2 (by omega)
      unfold waiting
      omega
    have h2 : (waiting M : Int) * T ≤ 12 * T := Int.mul_le_mul_of_nonneg_right (by omega) (by omega)
    have := (rem_in h).2
    omega
  · refine .inr ⟨by omega, fun y hy => ?_⟩
    have := h.w y hy
    omega
theorem Drain.empty {T f : Int} {M : Mst} (h : Fit T M) (hd : Drain T f M) (hf : f ≤ 0) : M.W = [] ∧ ∀ k, k < 3 → M.Q k = [] := by
  have hT : 1 ≤ T := by have := h.most; have := h.m0; omega
  rcases hd with ⟨h0, h1⟩ | ⟨h0, h1⟩
  · exfalso
    have := (rem_in h).1
    have h2 : 0 ≤ (waiting M : Int) * T := Int.mul_nonneg (by omega) (by omega)
    omega
  · refine ⟨?_, wait_zero h0⟩
    cases hW : M.W with
    | nil => rfl
    | cons y r =>
      have := h.first y r hW
      have := h1 y (by rw [hW]; simp)
      omega
end Go.Proofs.Ytnpgjecifllnaaa
