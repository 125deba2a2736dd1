/- What is proved here: what a tick does, with no program in sight; the state behind the answers; a ring that grows older. Conditions: none. -/
import Derived.Test.YtnpgjecifllnaaaTake
set_option linter.unusedSimpArgs false
set_option linter.unusedVariables false
namespace Go.Proofs.Ytnpgjecifllnaaa
open Go Go.Conc Go.RowKit

def WayA.older (y : WayA) : WayA := { y with age := y.age + 1 }
structure AnsW where
  held : Int → Bool
  left : List WayA
  out : List WayA
def ansWStep (s : AnsW) (y : WayA) : AnsW := if s.held y.port || decide (y.age + 1 < y.due) then ⟨fun k => if k = y.port then true else s.held k, s.left ++ [y.older], s.out⟩ else ⟨s.held, s.left, s.out ++ [y.older]⟩
def ansW (l : List WayA) : AnsW := l.foldl ansWStep ⟨fun _ => false, [], []⟩

theorem WyR.older {w : World} {x : It} {y : WayA} (h : WyR w x y) : WyR w x.older y.older := by
  obtain ⟨h1, h2, h3, h4, h5, h6, h7, h8⟩ := h
  exact ⟨h1, h2, by simp [It.older, WayA.older, h3], h4, h5, h6, h7, h8⟩
theorem ans_step {w : World} {x : It} {y : WayA} {s : AnsS} {t : AnsW} (h : WyR w x y) (e : s.held = t.held) (hl : All2 (WyR w) s.left t.left) (ho : All2 (WyR w) s.out t.out) : (ansStep s x).held = (ansWStep t y).held ∧ All2 (WyR w) (ansStep s x).left (ansWStep t y).left ∧ All2 (WyR w) (ansStep s x).out (ansWStep t y).out := by
  have h' := h
  obtain ⟨h1, h2, h3, h4, _⟩ := h
  unfold ansStep ansWStep
  rw [h1, h3, h4, e]
  split
  · exact ⟨rfl, hl.snoc h'.older, ho⟩
  · exact ⟨rfl, hl, ho.snoc h'.older⟩
theorem ans_run {w : World} : ∀ (l : List It) (m : List WayA) (s : AnsS) (t : AnsW), All2 (WyR w) l m → s.held = t.held → All2 (WyR w) s.left t.left → All2 (WyR w) s.out t.out → All2 (WyR w) (l.foldl ansStep s).left (m.foldl ansWStep t).left ∧ All2 (WyR w) (l.foldl ansStep s).out (m.foldl ansWStep t).out
  | [], m, s, t, h, e, hl, ho => by
    cases m with
    | nil => exact ⟨hl, ho⟩
    | cons y m => have := h.1; simp at this
  | x :: l, m, s, t, h, e, hl, ho => by
    obtain ⟨y, m', rfl, hr, hr'⟩ := h.uncons_left
    obtain ⟨e1, e2, e3⟩ := ans_step hr e hl ho
    exact ans_run l m' _ _ hr' e1 e2 e3
theorem ans_all {w : World} {l : List It} {m : List WayA} (h : All2 (WyR w) l m) : All2 (WyR w) (ansRun l).left (ansW m).left ∧ All2 (WyR w) (ansRun l).out (ansW m).out := ans_run l m _ _ h rfl All2.nil All2.nil
theorem ansW_mem : ∀ (l : List WayA) (s : AnsW) (z : WayA), (z ∈ (l.foldl ansWStep s).left ∨ z ∈ (l.foldl ansWStep s).out) → (z ∈ s.left ∨ z ∈ s.out) ∨ ∃ y ∈ l, z = y.older
  | [], s, z, h => .inl h
  | x :: l, s, z, h => by
    rcases ansW_mem l (ansWStep s x) z h with h2 | ⟨y, hy, e⟩
    · unfold ansWStep at h2
      split at h2
      · simp only [List.mem_append, List.mem_singleton] at h2
        rcases h2 with (h2 | rfl) | h2
        · exact .inl (.inl h2)
        · exact .inr ⟨x, by simp, rfl⟩
        · exact .inl (.inr h2)
      · simp only [List.mem_append, List.mem_singleton] at h2
        rcases h2 with h2 | (h2 | rfl)
        · exact .inl (.inl h2)
        · exact .inl (.inr h2)
        · exact .inr ⟨x, by simp, rfl⟩
    · exact .inr ⟨y, by simp [hy], e⟩
theorem ansW_len : ∀ (l : List WayA) (s : AnsW), (l.foldl ansWStep s).left.length + (l.foldl ansWStep s).out.length = s.left.length + s.out.length + l.length
  | [], s => by simp
  | x :: l, s => by
    rw [List.foldl_cons, ansW_len l]
    unfold ansWStep
    split <;> simp <;> omega

def Mst.answered (M : Mst) : Mst := { M with W := (ansW M.W).left }
def Mst.aged (M : Mst) : Mst := { M with Q := fun k => (M.Q k).map fun a => (a.1, a.2 + 1) }
def Mst.tick (M : Mst) (dl pk : Int) : Mst := (M.answered.take dl pk).aged
def Mst.outs (M : Mst) : List WayA := (ansW M.W).out
def Mst.takes (M : Mst) (pk : Int) : Nat := if (M.answered.pick pk).isSome = true then 1 else 0

theorem Mst.ok.answered {M : Mst} {T : Nat} (h : M.ok T) : M.answered.ok (T + 1) := by
  refine ⟨h.m0, h.m1, fun k hk a ha => ?_, fun y hy => ?_, ?_, Nat.le_succ_of_le h.l, h.la⟩
  · obtain ⟨h1, h2, h3, h4⟩ := h.q k hk a ha
    exact ⟨h1, h2, h3, by omega⟩
  · rcases ansW_mem M.W ⟨fun _ => false, [], []⟩ y (.inl hy) with h2 | ⟨z, hz, rfl⟩
    · simp at h2
    · obtain ⟨h1, h2, h3, h4, h5⟩ := h.w z hz
      refine ⟨h1, ?_, ?_, h4, h5⟩ <;> simp only [WayA.older] <;> omega
  · have := ansW_len M.W ⟨fun _ => false, [], []⟩
    have h4 := h.w4
    simp only [List.length_nil] at this
    show (ansW M.W).left.length ≤ 4
    unfold ansW
    omega
theorem AskA.served_ok {a : AskA} {k : Nat} {T : Nat} {du : Int} (hk : k < 3) (h : a.ok) (hp : a.port = (k : Int)) : (∃ k : Nat, k < 3 ∧ (a.served du).port = (k : Int)) ∧ 0 ≤ (a.served du).age ∧ (a.served du).age ≤ (T : Int) ∧ Ones (a.served du).data ∧ (a.served du).data.length ≤ 64 := by
  refine ⟨⟨k, hk, hp⟩, by simp [AskA.served], by simp [AskA.served], ones_served _ _ _, ?_⟩
  have := len_served a.addr a.kind (8 * a.beats).toNat
  have hb : a.beats = 1 ∨ a.beats = 8 := h.1.2.2.2.2.1
  simp only [AskA.served]
  omega
theorem Mst.ok.take {M : Mst} {T : Nat} {dl pk : Int} (h : M.ok T) (hl : M.L.length < T) : (M.take dl pk).ok T := by
  unfold Mst.take
  split
  · exact h
  · rename_i k hk
    obtain ⟨h4, hk3, _, a, r, hQ⟩ := pick_spec hk
    have ha := h.q k hk3 a (by rw [hQ]; simp)
    unfold Mst.takeK
    rw [hQ]
    refine ⟨h.m0, h.m1, fun j hj b hb => ?_, fun y hy => ?_, ?_, ?_, fun b hb => ?_⟩
    · simp only at hb
      by_cases e : j = k
      · subst e
        rw [if_pos rfl] at hb
        exact h.q j hj b (by rw [hQ]; simp [hb])
      · rw [if_neg e] at hb
        exact h.q j hj b hb
    · simp only [List.mem_append, List.mem_singleton] at hy
      rcases hy with hy | rfl
      · exact h.w y hy
      · exact AskA.served_ok hk3 ha.1 ha.2.1
    · simp; omega
    · simp; omega
    · simp only [List.mem_append, List.mem_singleton] at hb
      rcases hb with hb | rfl
      · exact h.la b hb
      · exact ha.1
theorem Mst.ok.aged {M : Mst} {T : Nat} (h : M.ok T) (hq : ∀ k, k < 3 → ∀ a ∈ M.Q k, a.2 < (T : Int)) : M.aged.ok T := by
  refine ⟨h.m0, h.m1, fun k hk a ha => ?_, h.w, h.w4, h.l, h.la⟩
  simp only [Mst.aged, List.mem_map] at ha
  obtain ⟨b, hb, rfl⟩ := ha
  obtain ⟨h1, h2, h3, h4⟩ := h.q k hk b hb
  have := hq k hk b hb
  refine ⟨h1, h2, ?_, ?_⟩ <;> simp only <;> omega
theorem Mst.ok.tick {M : Mst} {T : Nat} {dl pk : Int} (h : M.ok T) : (M.tick dl pk).ok (T + 1) := by
  refine (h.answered.take (by have := h.l; show M.L.length < T + 1; omega)).aged fun k hk a ha => ?_
  have hsub : a ∈ M.Q k := by
    unfold Mst.take at ha
    split at ha
    · exact ha
    · rename_i j hj
      obtain ⟨_, _, _, b, r, hQ⟩ := pick_spec hj
      unfold Mst.takeK at ha
      rw [hQ] at ha
      simp only at ha
      by_cases e : k = j
      · subst e
        rw [if_pos rfl] at ha
        show a ∈ M.answered.Q k
        rw [hQ]
        simp [ha]
      · rw [if_neg e] at ha
        exact ha
  have := (h.q k hk a hsub).2.2.2
  omega

/-- The state behind the answers. -/
theorem ans_rep {w w1 : World} {B : Nat} {sv : Value} {M : Mst} {hd : Nat → Nat} {q : Nat → List It} {bv lv v4 : Value} {bs : List It} {ls : List Lg} (h : RepX w B sv M hd q bv bs lv ls) (hU : Upon w w1 B 176 177) (hc : w1.cell? ⟨B, 176, none⟩ = some v4) (ho : w1.ownsRow w.heap.size 77 14 v4 (ansRun bs).left.length (cellsI (ansRun bs).left)) : RepX w1 B sv M.answered hd q v4 (ansRun bs).left lv ls := by
  have hlt := h.bus.lt
  have htag := h.bus.tag
  have hsoft : ∀ o, Soft w o → ¬ o = B := fun o hso e => by subst e; exact soft_not hso htag (by decide) (by decide)
  have hup : Upto w w1 B No (fun j => j = 176) := Upto.of_upon hU (fun j h1 h2 => by omega)
  have ho2 := own_mono (show B + 1 ≤ w.heap.size by omega) ho
  have hl4 := ansRun_len bs
  have hf := h.bus.few
  refine ⟨⟨Nat.lt_of_lt_of_le hlt hU.old.size, hU.tag _ htag, (hU.cell 0 (by omega)).trans h.bus.most, (hU.cell 1 (by omega)).trans h.bus.serve, fun k hk => hup.ring (h.bus.ring k hk) (fun j h1 h2 => by omega), hc, items_of_own ho2, by omega⟩, hU.there _ _ h.room, ho2, (hU.cell 177 (by omega)).trans h.logc, own_kept h.logo hU.old (fun b hb e => by subst e; exact own_ne h.logo htag (by decide) hb), fun k hk => (h.wt k hk).mono fun x y hxy => hxy.on hU.old hsoft, (ans_all h.wy).1.mono fun x y hxy => hxy.on hU.old hsoft, h.lg.mono fun x y hxy => hxy.on hU.old hsoft⟩

theorem Ring.age {w : World} {B off hd i k1 : Nat} {q : List It} {x : It} (h : Ring w B off hd q) (hi : q[i]? = some x) (hk : (hd + i) % 4 = k1) : Ring (w.setCell ⟨B, off + k1 * 14 + 8, none⟩ (.int .i64 (x.age + 1))) B off hd (q.set i x.older) := by
  have hi2 := (List.getElem?_eq_some_iff.1 hi).1
  have hlen := h.len
  have hd4 := h.hd4
  have hk4 : k1 < 4 := by omega
  have hot : ∀ j, j ≠ off + k1 * 14 + 8 → (w.setCell ⟨B, off + k1 * 14 + 8, none⟩ (.int .i64 (x.age + 1))).cell? ⟨B, j, none⟩ = w.cell? ⟨B, j, none⟩ := fun j hj => World.cell?_setCell_other _ _ _ _ (by intro e; cases e; exact hj rfl)
  have hx8 : w.cell? ⟨B, off + k1 * 14 + 8, none⟩ = some (.int .i64 x.age) := by
    have := h.item i x hi 8 (.int .i64 x.age) rfl
    rw [hk] at this
    exact this
  refine ⟨hd4, by simpa using hlen, (hot _ (by omega)).trans h.head, by rw [List.length_set]; exact (hot _ (by omega)).trans h.num, fun j y hj m v hm => ?_, World.there_setCells h.room B _ [_]⟩
  have hm2 : m < 14 := by have := (List.getElem?_eq_some_iff.1 hm).1; simpa [It.size_cells] using this
  rw [List.getElem?_set] at hj
  by_cases e : i = j
  · subst e
    rw [if_pos rfl, if_pos hi2] at hj
    cases hj
    rw [hk]
    by_cases e8 : m = 8
    · subst e8
      rw [World.cell?_setCell_same _ _ _ hx8]
      exact hm
    · rw [hot _ (by omega)]
      have := h.item i x hi m v (by
        have h2 : ∀ m, m ≠ 8 → x.older.cells.toList[m]? = x.cells.toList[m]? := by
          intro m hm
          have hc : ∀ a : Value, ([.int .i64 x.port, .int .i64 x.id, .int .i64 x.kind, .int .u64 x.addr, .int .i64 x.beats, .slice x.db x.dn x.dc, .slice x.sb x.sn x.sc, .int .i64 x.size, a, .int .i64 x.due, .int .i64 x.gport, .int .i64 x.gid, .slice x.gb x.gn x.gc, .bool x.gerr] : List Value) = ([.int .i64 x.port, .int .i64 x.id, .int .i64 x.kind, .int .u64 x.addr, .int .i64 x.beats, .slice x.db x.dn x.dc, .slice x.sb x.sn x.sc, .int .i64 x.size, .int .i64 x.age, .int .i64 x.due, .int .i64 x.gport, .int .i64 x.gid, .slice x.gb x.gn x.gc, .bool x.gerr] : List Value).set 8 a := fun a => rfl
          show ([.int .i64 x.port, .int .i64 x.id, .int .i64 x.kind, .int .u64 x.addr, .int .i64 x.beats, .slice x.db x.dn x.dc, .slice x.sb x.sn x.sc, .int .i64 x.size, .int .i64 (x.age + 1), .int .i64 x.due, .int .i64 x.gport, .int .i64 x.gid, .slice x.gb x.gn x.gc, .bool x.gerr] : List Value)[m]? = _
          rw [hc, List.getElem?_set_ne (by omega)]
          rfl
        rw [← h2 m e8]; exact hm)
      rw [hk] at this
      exact this
  · rw [if_neg e] at hj
    have hj2 := (List.getElem?_eq_some_iff.1 hj).1
    rw [hot _ (by
      have : (hd + j) % 4 ≠ k1 := by omega
      omega)]
    exact h.item j y hj m v hm
end Go.Proofs.Ytnpgjecifllnaaa
