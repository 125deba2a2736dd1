/- What is proved here: Tick. Conditions: the block reads as the bus; its state as it can be. -/
import Derived.Test.YtnpgjecifllnaaaTick0
set_option linter.unusedSimpArgs false
set_option linter.unusedVariables false
namespace Go.Proofs.Ytnpgjecifllnaaa
open Go Go.Conc Go.RowKit

/-- The first i of them are a tick older. -/
def Part (i : Nat) (l l' : List It) : Prop := l'.length = l.length ∧ ∀ (j : Nat) (x : It), l[j]? = some x → l'[j]? = some (if j < i then x.older else x)
theorem Part.zero (l : List It) : Part 0 l l := ⟨rfl, fun j x h => by rw [if_neg (by omega)]; exact h⟩
theorem Part.step {i : Nat} {l l' : List It} {x : It} (h : Part i l l') (hx : l[i]? = some x) : Part (i + 1) l (l'.set i x.older) := by
  refine ⟨by rw [List.length_set]; exact h.1, fun j y hj => ?_⟩
  have hj2 := (List.getElem?_eq_some_iff.1 hj).1
  rw [List.getElem?_set]
  by_cases e : i = j
  · subst e
    rw [if_pos rfl, if_pos (by rw [h.1]; exact hj2), if_pos (by omega)]
    rw [hx] at hj
    cases hj
    rfl
  · rw [if_neg e, h.2 j y hj]
    by_cases h2 : j < i
    · rw [if_pos h2, if_pos (by omega)]
    · rw [if_neg h2, if_neg (by omega)]
theorem Part.all {l l' : List It} (h : Part l.length l l') : l' = l.map It.older := by
  apply List.ext_getElem?
  intro j
  rw [List.getElem?_map]
  cases e : l[j]? with
  | none =>
    have := List.getElem?_eq_none_iff.1 e
    exact List.getElem?_eq_none_iff.2 (by rw [h.1]; exact this)
  | some x =>
    rw [h.2 j x e, if_pos (List.getElem?_eq_some_iff.1 e).1]
    rfl
def agedTo (k : Nat) (M : Mst) : Mst := { M with Q := fun j => if j < k then (M.Q j).map (fun a => (a.1, a.2 + 1)) else M.Q j }
def olderTo (k : Nat) (q : Nat → List It) : Nat → List It := fun j => if j < k then (q j).map It.older else q j

theorem wt_older {w : World} {l : List It} {m : List (AskA × Int)} (h : All2 (WtR w) l m) : All2 (WtR w) (l.map It.older) (m.map fun a => (a.1, a.2 + 1)) := by
  refine ⟨by simp [h.1], fun i x y hx hy => ?_⟩
  simp only [List.getElem?_map, Option.map_eq_some_iff] at hx hy
  obtain ⟨x0, hx0, rfl⟩ := hx
  obtain ⟨y0, hy0, rfl⟩ := hy
  obtain ⟨h1, h2, h3, h4, h5, h6, h7, h8, h9⟩ := h.2 i x0 y0 hx0 hy0
  exact ⟨h1, h2, h3, h4, h5, h6, by simp [It.older, h7], h8, h9⟩

/-- A ring has grown older. -/
theorem ring_rep {w w1 : World} {B k : Nat} {sv : Value} {M : Mst} {hd : Nat → Nat} {q : Nat → List It} {bv lv : Value} {bs : List It} {ls : List Lg} (h : RepX w B sv (agedTo k M) hd (olderTo k q) bv bs lv ls) (hk : k < 3) (hU : Upon w w1 B (2 + k * 58) (2 + k * 58 + 58)) (hr : Ring w1 B (2 + k * 58) (hd k) ((q k).map It.older)) (hwt : All2 (WtR w) (q k) (M.Q k)) : RepX w1 B sv (agedTo (k + 1) M) hd (olderTo (k + 1) q) bv bs lv ls := by
  have hlt := h.bus.lt
  have htag := h.bus.tag
  have hsoft : ∀ o, Soft w o → ¬ o = B := fun o hso e => by subst e; exact soft_not hso htag (by decide) (by decide)
  have hup : Upto w w1 B No (fun j => 2 + k * 58 ≤ j ∧ j < 2 + k * 58 + 58) := Upto.of_upon hU (fun j h1 h2 => ⟨h1, h2⟩)
  have hbo := own_kept h.busyo hU.old (fun b hb e => by subst e; exact own_ne h.busyo htag (by decide) hb)
  refine ⟨⟨Nat.lt_of_lt_of_le hlt hU.old.size, hU.tag _ htag, (hU.cell 0 (by omega)).trans h.bus.most, (hU.cell 1 (by omega)).trans h.bus.serve, fun j hj => ?_, (hU.cell 176 (by omega)).trans h.bus.busyc, items_of_own hbo, h.bus.few⟩, hU.there _ _ h.room, hbo, (hU.cell 177 (by omega)).trans h.logc, own_kept h.logo hU.old (fun b hb e => by subst e; exact own_ne h.logo htag (by decide) hb), fun j hj => ?_, h.wy.mono fun x y hxy => hxy.on hU.old hsoft, h.lg.mono fun x y hxy => hxy.on hU.old hsoft⟩
  · by_cases e : j = k
    · subst e
      have : olderTo (j + 1) q j = (q j).map It.older := by unfold olderTo; rw [if_pos (by omega)]
      rw [this]
      exact hr
    · have : olderTo (k + 1) q j = olderTo k q j := by unfold olderTo; by_cases h2 : j < k <;> simp [h2] <;> omega
      rw [this]
      exact hup.ring (h.bus.ring j hj) (fun i h1 h2 => by omega)
  · by_cases e : j = k
    · subst e
      have e1 : olderTo (j + 1) q j = (q j).map It.older := by unfold olderTo; rw [if_pos (by omega)]
      have e2 : (agedTo (j + 1) M).Q j = (M.Q j).map (fun a => (a.1, a.2 + 1)) := by unfold agedTo; simp
      rw [e1, e2]
      exact wt_older (hwt.mono fun x y hxy => hxy.on hU.old hsoft)
    · have e1 : olderTo (k + 1) q j = olderTo k q j := by unfold olderTo; by_cases h2 : j < k <;> simp [h2] <;> omega
      have e2 : (agedTo (k + 1) M).Q j = (agedTo k M).Q j := by unfold agedTo; by_cases h2 : j < k <;> simp [h2] <;> omega
      rw [e1, e2]
      exact (h.wt j hj).mono fun x y hxy => hxy.on hU.old hsoft

theorem upon_drew {w w1 : World} {B lo hi : Nat} (h : Upon w w1 B lo hi) : Upon w w1.drew B lo hi := ⟨h.old.drew, h.cell, h.there, h.tag⟩
theorem RepX.congr {w : World} {B : Nat} {sv : Value} {M M' : Mst} {hd : Nat → Nat} {q : Nat → List It} {bv lv : Value} {bs : List It} {ls : List Lg} (h : RepX w B sv M hd q bv bs lv ls) (hm : M'.most = M.most) (hq : ∀ k, k < 3 → M'.Q k = M.Q k) (hw : M'.W = M.W) (hl : M'.L = M.L) : RepX w B sv M' hd q bv bs lv ls :=
  ⟨hm ▸ h.bus, h.room, h.busyo, h.logc, h.logo, fun k hk => hq k hk ▸ h.wt k hk, hw ▸ h.wy, hl ▸ h.lg⟩
theorem wt_at {w : World} {B k : Nat} {sv : Value} {M : Mst} {hd : Nat → Nat} {q : Nat → List It} {bv lv : Value} {bs : List It} {ls : List Lg} (h : RepX w B sv (agedTo k M) hd (olderTo k q) bv bs lv ls) (hk : k < 3) : All2 (WtR w) (q k) (M.Q k) := by
  have h1 := h.wt k hk
  have e1 : olderTo k q k = q k := by unfold olderTo; simp
  have e2 : (agedTo k M).Q k = M.Q k := by unfold agedTo; simp
  rw [e1, e2] at h1
  exact h1
theorem age_of {w : World} {l : List It} {m : List (AskA × Int)} {i : Nat} {x : It} {T : Nat} (h : All2 (WtR w) l m) (hx : l[i]? = some x) (hm : ∀ a ∈ m, 0 ≤ a.2 ∧ a.2 ≤ (T : Int)) : 0 ≤ x.age ∧ x.age ≤ (T : Int) := by
  have hi := (List.getElem?_eq_some_iff.1 hx).1
  have hi2 : i < m.length := by rw [← h.1]; exact hi
  have hr := h.2 i x _ hx (List.getElem?_eq_getElem hi2)
  rw [hr.2.2.2.2.2.2.1]
  exact hm _ (List.getElem_mem hi2)

def RetTick (B : Nat) (s : Sv) (n : Nat) (M : Mst) (dl pk : Int) (lv : Value) (w : World) (e : Ending) (w' : World) : Prop :=
  ∃ v3 out lv', e = .returned v3 ∧ w'.ownsRow w.heap.size 43 4 v3 out.length (gives out) ∧ All2 (WyR w') out M.outs ∧ (∃ hd q bv bs ls, RepX w' B s.val (M.tick dl pk) hd q bv bs lv' ls) ∧ s.st (n + M.takes pk) w' ∧ Old w w' (fun b => b = B ∨ s.but b ∨ some b = lv.ownBlock) ∧ (∀ b, some b = lv'.ownBlock → some b = lv.ownBlock ∨ w.heap.size ≤ b)

def At11 (B : Nat) (sv : Value) (M : Mst) (hd : Nat → Nat) (q : Nat → List It) (bv : Value) (bs : List It) (lv : Value) (ls : List Lg) (W : World) (v : Value) (wr : World) : Prop := ∃ k : Nat, k ≤ 3 ∧ v = .int .i64 ((k : Nat) : Int) ∧ RepX wr B sv (agedTo k M) hd (olderTo k q) bv bs lv ls ∧ Old W wr (fun b => b = B)
def AtIn (B k : Nat) (hd : Nat → Nat) (q : Nat → List It) (W : World) (v : Value) (wr : World) : Prop := ∃ i : Nat, ∃ l', i ≤ (q k).length ∧ v = .int .i64 ((i : Nat) : Int) ∧ Part i (q k) l' ∧ Ring wr B (2 + k * 58) (hd k) l' ∧ Upon W wr B (2 + k * 58) (2 + k * 58 + 58)

set_option maxHeartbeats 4000000 in
set_option maxRecDepth 100000 in
theorem tick_calls {B n T : Nat} {s : Sv} {M : Mst} {hd : Nat → Nat} {q : Nat → List It} {bv lv : Value} {bs : List It} {ls : List Lg} {li rx dl pk : Int} {w : World} (h : RepX w B s.val M hd q bv bs lv ls) (hok : M.ok T) (hT : T + 1 ≤ 100000) (hst : s.st n w) (hn : n ≤ 100000) :
    Calls Try.prog 11 #[.pointer (some ⟨B, 0, none⟩), inV li rx dl pk] w (RetTick B s n M dl pk lv w) := by
  have hlt := h.bus.lt
  have htag := h.bus.tag
  have hBs : ¬ s.but B := fun hb => absurd (Tag.inj (Sv.tag hst hb) htag) (by decide)
  have hnil : ∀ w, (Go.binOp .eql 25 (.pointer (some ⟨B, 0, none⟩)) (.pointer none)).run Try.prog w = .ok (.bool false) w := fun w => rfl
  have hwb : ∀ (i : Nat) (x : It), bs[i]? = some x → ∃ y ∈ M.W, WyR w x y := fun i x hx => by
    have hi := (List.getElem?_eq_some_iff.1 hx).1
    have hi2 : i < M.W.length := by rw [← h.wy.1]; exact hi
    exact ⟨M.W[i], List.getElem_mem hi2, h.wy.2 i x _ hx (List.getElem?_eq_getElem hi2)⟩
  have hans : Hid (∀ w1, Old w w1 No → Calls Try.prog 34 #[.pointer (some ⟨B, 0, none⟩)] w1 (RetAns B bs w1)) := fun w1 ho =>
    have h1 := h.no ho
    answers_calls h1.bus.lt h1.bus.busyc h1.bus.busy h1.bus.few (fun x hx => by
      obtain ⟨i, hi⟩ := List.getElem?_of_mem hx
      obtain ⟨y, hy, hr⟩ := hwb i x hi
      obtain ⟨k, hk, e⟩ := (hok.w y hy).1
      exact ⟨k, hk, by rw [hr.1]; exact e⟩) (fun x hx => by
      obtain ⟨i, hi⟩ := List.getElem?_of_mem hx
      obtain ⟨y, hy, hr⟩ := hwb i x hi
      have := hok.w y hy
      rw [hr.2.2.1]
      omega) (h1.room 176 (by omega)).2
  have h' := Lib.hid h
  have hok' := Lib.hid hok
  have hst' := Lib.hid hst
  have htag' := Lib.hid htag
  have hwb' := Lib.hid hwb
  have hBs' := Lib.hid hBs
  have htk : Hid (∀ w1 w2 v4, Old w w1 No → Upon w1 w2 B 176 177 → RepX w2 B s.val M.answered hd q v4 (ansRun bs).left lv ls → Calls Try.prog 35 #[.pointer (some ⟨B, 0, none⟩), inV li rx dl pk] w2 (RetTake B s n M.answered dl pk v4 lv w2)) := fun w1 w2 v4 ho hU hR =>
    take_calls hR hok'.out.answered hT (Sv.st_on (s := s) (n := n) hst'.out (ho.no.trans hU.old) (fun b hb e => hBs (e ▸ hb))) hn
  have hok2 : Hid ((M.answered.take dl pk).ok (T + 1)) := hok.answered.take (by have := hok.l; show M.L.length < T + 1; omega)
  clear h hok hst htag hwb hBs
  go_enter Try.func11, Try.ntmps11
  go_wp2_with (first
    | (go_at_call 34; refine (hans.out _ (by exact (Old.refl w No).alloc _)).mono ?_; rintro e w1 ⟨v3, v4, rfl, hO3, hc4, hO4, hU⟩; have hI := (hU.old.block w.heap.size (by rw [al_size]; omega) (fun e => by omega)).trans al_new; obtain ⟨⟨i0, i1, i2, i3⟩, _⟩ := blk4 hI; have hO3' := Lib.hid hO3; have hR1 := Lib.hid (ans_rep (h'.out.no ((Old.refl w No).alloc _)) hU hc4 hO4); have hk2 := Lib.hid (htk.out _ _ _ ((Old.refl w No).alloc _) hU hR1.out); have hO4' := Lib.hid hO4; have hU' := Lib.hid (((Old.refl w No).alloc _).no.trans hU.old); clear hO3 hc4 hO4 hU hI)
    | (go_at_call 35; refine hk2.out.mono ?_; rintro e w2 ⟨rfl, hd2, q2, bv2, bs2, lv2, ls2, hR2, hst2, hO2, hbv2, hlv2⟩; have hR2' := Lib.hid hR2; have hst2' := Lib.hid hst2; have hO2' := Lib.hid hO2; have hbv2' := Lib.hid hbv2; have hlv2' := Lib.hid hlv2; clear hR2 hst2 hO2 hbv2 hlv2))
  clear i0 i1 i2 i3 hnil
  go_loopw [16] (fun v16 wr => At11 B s.val (M.answered.take dl pk) hd2 q2 bv2 bs2 lv2 ls2 w2 v16 wr) (fun v16 _ => 3 - (intOf v16).toNat)
  case atStart =>
    have e1 : agedTo 0 (M.answered.take dl pk) = M.answered.take dl pk := by unfold agedTo; simp
    have e2 : olderTo 0 q2 = q2 := by unfold olderTo; simp
    exact ⟨0, by omega, rfl, by rw [e1, e2]; exact hR2'.out, Old.refl _ _⟩
  case round =>
    obtain ⟨k, hk, rfl, hRk, hOk⟩ := hrel
    have hRk' := Lib.hid hRk
    have hOk' := Lib.hid hOk
    clear hRk hOk
    by_cases hlt3 : k < 3
    · have hk0 : (0 : Int) ≤ (k : Int) := by omega
      have hk1 : (k : Int) < 3 := by omega
      have hring : Ring wr B (2 + k * 58) (hd2 k) (q2 k) := by
        have h := hRk'.out.bus.ring k hlt3
        have e : olderTo k q2 k = q2 k := by unfold olderTo; simp
        rw [e] at h
        exact h
      have hring' := Lib.hid hring
      obtain ⟨nq, hnq⟩ : ∃ nq, (q2 k).length = nq := ⟨_, rfl⟩
      have hnq' := Lib.hid hnq
      have c57 : wr.cell? ⟨B, 2 + k * 58 + 57, none⟩ = some (.int .i64 ((nq : Nat) : Int)) := by have h := hring.num; rw [hnq] at h; exact h
      have hn4 : nq ≤ 4 := by rw [← hnq]; exact hring.len
      have hd4 := hring.hd4
      clear hring hnq
      go_wp2
      go_loopw [28] (fun v28 wr2 => AtIn B k hd2 q2 wr v28 wr2) (fun v28 _ => nq - (intOf v28).toNat)
      case atStart => exact ⟨0, q2 k, Nat.zero_le _, rfl, Part.zero _, hring'.out, Upon.of_old (Old.refl _ _) (hRk'.out.bus.lt)⟩
      case round =>
        obtain ⟨i, l', hi, rfl, hpt, hri, hUi⟩ := hrel
        rw [hnq'.out] at hi
        have hpt' := Lib.hid hpt
        have hri' := Lib.hid hri
        have hUi' := Lib.hid hUi
        clear hpt hri hUi
        by_cases hlti : i < nq
        · obtain ⟨x, hx⟩ : ∃ x, (q2 k)[i]? = some x := ⟨(q2 k)[i]'(by rw [hnq'.out]; exact hlti), List.getElem?_eq_getElem _⟩
          have hx' : l'[i]? = some x := by have h := hpt'.out.2 i x hx; rw [if_neg (by omega)] at h; exact h
          obtain ⟨h0, hh0⟩ : ∃ h0, hd2 k = h0 := ⟨_, rfl⟩
          rw [hh0] at hd4
          obtain ⟨k1, hk1'⟩ : ∃ k1, (h0 + i) % 4 = k1 := ⟨_, rfl⟩
          have c56 : wr.cell? ⟨B, 2 + k * 58 + 56, none⟩ = some (.int .i64 ((h0 : Nat) : Int)) := by have h := hri'.out.head; rw [hh0] at h; exact h
          have cage : wr.cell? ⟨B, 2 + k * 58 + k1 * 14 + 8, none⟩ = some (.int .i64 x.age) := by
            have h := hri'.out.item i x hx'
            rw [hh0, hk1'] at h
            exact h 8 _ rfl
          have zage : wr.frozen? ⟨B, 2 + k * 58 + k1 * 14 + 8, none⟩ = false := by
            have h := (hri'.out.room (k1 * 14 + 8) (by omega)).2
            rw [← Nat.add_assoc] at h
            exact h
          have hk4 : k1 < 4 := by omega
          have hk40 : (0 : Int) ≤ (k1 : Int) := by omega
          have hk41 : (k1 : Int) < 4 := by omega
          have hrem := remAt h0 i k1 hd4 (by omega) hk1'
          obtain ⟨hag0, hag1⟩ := age_of (T := T + 1) (wt_at hRk'.out hlt3) hx (fun a ha => by have h := (hok2.out.q k hlt3 a ha); exact ⟨h.2.2.1, h.2.2.2⟩)
          have hx2 := Lib.hid hx
          have hx3 := Lib.hid hx'
          have hh0' := Lib.hid hh0
          have hk1'' := Lib.hid hk1'
          clear hx hx' hh0 hk1'
          go_wp2
          have hA := Lib.hid (Ring.drewN (hri'.out.age hx3.out (show (hd2 k + i) % 4 = k1 by rw [hh0'.out, hk1''.out])) 1)
          have hUn := Lib.hid (upon_drew (hUi'.out.setCell (o := 2 + k * 58 + k1 * 14 + 8) (.int .i64 (x.age + 1)) (by omega) (by omega)))
          go_region_with (fail)
          go_wp2
          exact ⟨⟨i + 1, _, by rw [hnq'.out]; omega, by go_num, hpt'.out.step hx2.out, hA.out, hUn.out⟩, by simp [intOf]; omega⟩
        · obtain rfl : i = nq := by omega
          have hfin := Lib.hid (ring_rep hRk'.out hlt3 hUi'.out (by have h := hri'.out; rw [(show Part (q2 k).length (q2 k) l' by rw [hnq'.out]; exact hpt'.out).all] at h; exact h) (wt_at hRk'.out hlt3))
          go_wp2
          exact ⟨⟨k + 1, by omega, by go_num, hfin.out, hOk'.out.trans hUi'.out.old⟩, by simp [intOf]; omega⟩
    · obtain rfl : k = 3 := by omega
      go_wp2
      go_ret
      have h1 := hR1.out
      have hst1 : s.st n w1 := Sv.st_on (s := s) (n := n) hst'.out hU'.out (fun b hb e => hBs'.out (e ▸ hb))
      have hO1r : Old w1 wr (fun b => b = B ∨ s.but b ∨ some b = v4.ownBlock ∨ some b = lv.ownBlock) := hO2'.out.trans (hOk'.out.weak fun _ _ h => .inl h)
      have hso : ∀ o, Soft w1 o → ¬ (o = B ∨ s.but o ∨ some o = v4.ownBlock ∨ some o = lv.ownBlock) := fun o hso => by
        rintro (rfl | h | h | h)
        · exact soft_not hso h1.bus.tag (by decide) (by decide)
        · exact soft_not hso (Sv.tag hst1 h) (by decide) (by decide)
        · exact soft_not hso (own_tag h1.busyo h.symm) (by decide) (by decide)
        · exact soft_not hso (own_tag h1.logo h.symm) (by decide) (by decide)
      have hso0 : ∀ o, Soft w o → ¬ o = B := fun o hs e => by subst e; exact soft_not hs htag'.out (by decide) (by decide)
      refine ⟨v3, (ansRun bs).out, lv2, rfl, ?_, ((ans_all h'.out.wy).2.mono fun x y hxy => hxy.on hU'.out hso0).mono fun x y hxy => hxy.on hO1r hso, ⟨hd2, olderTo 3 q2, bv2, bs2, ls2, hRk'.out.congr rfl (fun k hk => by simp [Mst.tick, Mst.aged, agedTo, hk]) rfl rfl⟩, Sv.st_on (s := s) hst2'.out hOk'.out (fun b hb e => hBs'.out (e ▸ hb)), ?_, fun b hb => ?_⟩
      · refine own_mono (show w.heap.size ≤ (w.alloc _).heap.size by rw [al_size]; omega) (own_kept hO3'.out hO1r fun b hb h => ?_)
        rcases h with rfl | h | h | h
        · exact own_ne hO3'.out h1.bus.tag (by decide) hb
        · exact own_ne hO3'.out (Sv.tag hst1 h) (by decide) hb
        · exact own_ne hO3'.out (own_tag h1.busyo h.symm) (by decide) hb
        · exact own_ne hO3'.out (own_tag h1.logo h.symm) (by decide) hb
      · refine ((hU'.out.weak fun b _ h => .inl h).trans hO1r).weak fun b hb h => ?_
        rcases h with h | h | h | h
        · exact .inl h
        · exact .inr (.inl h)
        · exact absurd h (owns_ge hO4'.out (by rw [al_size]; omega))
        · exact .inr (.inr h)
      · rcases hlv2'.out b hb with h | h
        · exact .inl h
        · right; have := hU'.out.size; omega
end Go.Proofs.Ytnpgjecifllnaaa
