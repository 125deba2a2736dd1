/- What is proved here: how lists of transactions and of inputs read; the world of a tick; what others ask ahead of a tick. Conditions: the lists read so; the block reads as the bus. -/
import Derived.Test.YtnpgjecifllnaaaTime1
set_option linter.unusedSimpArgs false
set_option linter.unusedVariables false
namespace Go.Proofs.Ytnpgjecifllnaaa
open Go Go.Conc Go.RowKit

/-- An input. -/
structure InA where
  li : Int
  rx : Int
  dl : Int
  pk : Int
def InA.cells (x : InA) : List Value := [.int .i64 x.li, .int .i64 x.rx, .int .i64 x.dl, .int .i64 x.pk]
def InL (w : World) (v : Value) (l : List InA) : Prop := ∃ base cap, v = .slice base l.length cap ∧ ∀ i x, l[i]? = some x → ∃ o q, base = some ⟨o, q, none⟩ ∧ o < w.heap.size ∧ w.rangeAt o (q + i * 4) x.cells
theorem InL.on {w w1 : World} {v : Value} {l : List InA} (h : InL w v l) (ho : Old w w1 No) : InL w1 v l := by
  obtain ⟨base, cap, e, h⟩ := h
  refine ⟨base, cap, e, fun i x hi => ?_⟩
  obtain ⟨o, q, e2, hlt, hr⟩ := h i x hi
  exact ⟨o, q, e2, Nat.lt_of_lt_of_le hlt ho.size, range_at hr (ho.block o hlt (fun h => h))⟩
/-- A list of transactions. -/
def AskL (w : World) (v : Value) (l : List AskA) : Prop := ∃ base cap, v = .slice base l.length cap ∧ ∀ (i : Nat) (a : AskA), l[i]? = some a → ∃ o q db dc sb sc, base = some ⟨o, q, none⟩ ∧ o < w.heap.size ∧
  w.rangeAt o (q + i * 8) [.int .i64 a.port, .int .i64 a.id, .int .i64 a.kind, .int .u64 a.addr, .int .i64 a.beats, .slice db a.ds.length dc, .slice sb a.ss.length sc, .int .i64 a.size] ∧ Rd w (.slice db a.ds.length dc) a.ds ∧ Rd w (.slice sb a.ss.length sc) a.ss ∧ 0 ≤ a.addr ∧ a.addr < 18446744073709551616 ∧ Ones a.ds ∧ Ones a.ss
theorem AskL.on {w w1 : World} {v : Value} {l : List AskA} (h : AskL w v l) (ho : Old w w1 No) : AskL w1 v l := by
  obtain ⟨base, cap, e, h⟩ := h
  refine ⟨base, cap, e, fun i a hi => ?_⟩
  obtain ⟨o, q, db, dc, sb, sc, e2, hlt, hr, h1, h2, h3⟩ := h i a hi
  exact ⟨o, q, db, dc, sb, sc, e2, Nat.lt_of_lt_of_le hlt ho.size, range_at hr (ho.block o hlt (fun h => h)), h1.on ho (fun _ _ _ _ _ _ h => h), h2.on ho (fun _ _ _ _ _ _ h => h), h3⟩

/-- The world of a tick. -/
def worldF (l : List InA) (t : Nat) : InA := (l[t % l.length]?).getD ⟨0, 0, 1073741824, 0⟩
theorem info40 : (Try.prog.info? 40).map (fun i => (i.zero, i.size, i.bytes)) = some (some (.agg #[.int .i64 0, .int .i64 0, .int .i64 0, .int .i64 0]), 4, 32) := by kernel_rfl

set_option maxHeartbeats 1000000 in
set_option maxRecDepth 100000 in
theorem world_calls {w : World} {v : Value} {l : List InA} {t : Nat} (h : InL w v l) (ht : t ≤ 100000) :
    Calls Try.prog 12 #[v, .int .i64 ((t : Nat) : Int)] w (fun e w' => e = .returned (inV (worldF l t).li (worldF l t).rx (worldF l t).dl (worldF l t).pk) ∧ Old w w' No) := by
  obtain ⟨base, cap, rfl, hr⟩ := h
  obtain ⟨n, hn⟩ : ∃ n, l.length = n := ⟨_, rfl⟩
  rw [hn]
  by_cases h0 : n = 0
  · subst h0
    have hl : l = [] := List.eq_nil_of_length_eq_zero hn
    subst hl
    clear hr hn
    go_enter Try.func12, Try.ntmps12
    go_wp2
    exact bodyPost_ret (v := inV 0 0 1073741824 0) (by simp [results, Try.results12, go_sem]) rfl ⟨rfl, (Old.refl _ _).alloc _⟩
  · obtain ⟨k, hk⟩ : ∃ k, t % n = k := ⟨_, rfl⟩
    have hkn : k < n := by rw [← hk]; exact Nat.mod_lt _ (by omega)
    obtain ⟨x, hx⟩ : ∃ x, l[k]? = some x := ⟨l[k]'(by rw [hn]; exact hkn), List.getElem?_eq_getElem _⟩
    have hw : worldF l t = x := by unfold worldF; rw [hn, hk, hx]; rfl
    obtain ⟨o, q, rfl, hlt, hrow⟩ := hr k x hx
    rw [hw]
    have e0 : w.cell? ⟨o, q + k * 4, none⟩ = some (.int .i64 x.li) := hrow 0 _ rfl
    have e1 : w.cell? ⟨o, q + k * 4 + 1, none⟩ = some (.int .i64 x.rx) := hrow 1 _ rfl
    have e2 : w.cell? ⟨o, q + k * 4 + 2, none⟩ = some (.int .i64 x.dl) := hrow 2 _ rfl
    have e3 : w.cell? ⟨o, q + k * 4 + 3, none⟩ = some (.int .i64 x.pk) := hrow 3 _ rfl
    have hrem : Int.tmod ((t : Nat) : Int) ((n : Nat) : Int) = ((k : Nat) : Int) := by
      rw [Int.tmod_eq_emod_of_nonneg (by omega)]
      omega
    have hn0 : ((n : Int) = 0) = False := by simp; omega
    have hn1 : (((n : Nat) : Int) == 0) = false := by simp; omega
    have hk0 : (0 : Int) ≤ (k : Int) := by omega
    have hk1 : (k : Int) < (n : Int) := by omega
    clear hr hn hx hw hrow hk
    go_enter Try.func12, Try.ntmps12
    go_wp2
    exact bodyPost_ret (v := inV x.li x.rx x.dl x.pk) (by simp [results, Try.results12, go_sem]) rfl ⟨rfl, (Old.refl _ _).alloc _⟩

/-! ### What others ask -/
def moreStep (l : List AskA) (p : Nat) (s : Nat × Mst) : Nat × Mst :=
  match l[s.1]? with
  | none => s
  | some a => (s.1 + 1, if a.port = (p : Int) then s.2 else s.2.ask a)
def moreN (l : List AskA) (p : Nat) : Nat → Nat × Mst → Nat × Mst
  | 0, s => s
  | n + 1, s => moreStep l p (moreN l p n s)
theorem more_none {l : List AskA} {p : Nat} {s : Nat × Mst} {i : Nat} (h : l[(moreN l p i s).1]? = none) : ∀ j, moreN l p (i + j) s = moreN l p i s
  | 0 => rfl
  | j + 1 => by
    show moreStep l p (moreN l p (i + j) s) = _
    rw [more_none h j]
    unfold moreStep
    rw [h]
theorem more_le {l : List AskA} {p : Nat} {s : Nat × Mst} (h : s.1 ≤ l.length) : ∀ i, (moreN l p i s).1 ≤ l.length
  | 0 => h
  | i + 1 => by
    have ih := more_le (p := p) h i
    show (moreStep l p (moreN l p i s)).1 ≤ _
    unfold moreStep
    split
    · exact ih
    · rename_i a ha
      have := (List.getElem?_eq_some_iff.1 ha).1
      simp only
      omega
theorem more_keep {l : List AskA} {p : Nat} {s : Nat × Mst} {R : Mst → Prop} (h : R s.2) (hs : ∀ M a, a ∈ l → a.port ≠ (p : Int) → R M → R (M.ask a)) : ∀ i, R (moreN l p i s).2
  | 0 => h
  | i + 1 => by
    have ih := more_keep (p := p) h hs i
    show R (moreStep l p (moreN l p i s)).2
    unfold moreStep
    split
    · exact ih
    · rename_i a ha
      simp only
      split
      · exact ih
      · rename_i hne
        exact hs _ a (List.mem_of_getElem? ha) hne ih

def RetMore (B Kb : Nat) (sv : Value) (l : List AskA) (p k : Nat) (M : Mst) (bv : Value) (bs : List It) (lv : Value) (ls : List Lg) (w : World) (e : Ending) (w' : World) : Prop :=
  e = .returned (.tuple #[]) ∧ (∃ hd q, RepX w' B sv (moreN l p 3 (k, M)).2 hd q bv bs lv ls) ∧ w'.heap[Kb]? = some (.cells #[.int .i64 (((moreN l p 3 (k, M)).1 : Nat) : Int)] 3 (0, 0)) ∧ Old w w' (fun b => b = B ∨ b = Kb)
def At9 (B Kb : Nat) (sv : Value) (l : List AskA) (p k : Nat) (M : Mst) (bv : Value) (bs : List It) (lv : Value) (ls : List Lg) (w : World) (v : Value) (wr : World) : Prop :=
  ∃ i : Nat, i ≤ 3 ∧ v = .int .i64 ((i : Nat) : Int) ∧ (∃ hd q, RepX wr B sv (moreN l p i (k, M)).2 hd q bv bs lv ls) ∧ wr.heap[Kb]? = some (.cells #[.int .i64 (((moreN l p i (k, M)).1 : Nat) : Int)] 3 (0, 0)) ∧ Old w wr (fun b => b = B ∨ b = Kb)
theorem blk1 {w : World} {b : Nat} {t : TypeId} {v : Value} (h : w.heap[b]? = some (.cells #[v] t (0, 0))) : w.cell? ⟨b, 0, none⟩ = some v ∧ w.frozen? ⟨b, 0, none⟩ = false := by simp [World.cell?, World.frozen?, h]

set_option maxHeartbeats 4000000 in
set_option maxRecDepth 100000 in
theorem more_calls {W w : World} {B Kb Nb Pb Bb k p T : Nat} {sv v : Value} {l : List AskA} {M : Mst} {hd : Nat → Nat} {q : Nat → List It} {bv lv : Value} {bs : List It} {ls : List Lg} (h : RepX w B sv M hd q bv bs lv ls) (hW : Old W w No) (hl : AskL W v l) (hBW : W.heap.size ≤ B) (hKW : W.heap.size ≤ Kb)
    (hK : w.heap[Kb]? = some (.cells #[.int .i64 ((k : Nat) : Int)] 3 (0, 0))) (hN : w.heap[Nb]? = some (.cells #[v] 22 (0, 0))) (hP : w.heap[Pb]? = some (.cells #[.int .i64 ((p : Nat) : Int)] 3 (0, 0))) (hPK : Pb ≠ Kb) (hBb : w.heap[Bb]? = some (.cells #[.pointer (some ⟨B, 0, none⟩)] 25 (0, 0))) (hkl : k ≤ l.length) (hlen : l.length ≤ 140737488355328) :
    Calls Try.prog 9 #[.pointer (some ⟨Kb, 0, none⟩), .pointer (some ⟨Nb, 0, none⟩), .pointer (some ⟨Pb, 0, none⟩), .pointer (some ⟨Bb, 0, none⟩)] w (RetMore B Kb sv l p k M bv bs lv ls w) := by
  have htag := h.bus.tag
  have hBK : Hid (B ≠ Kb) := fun e => by subst e; exact absurd (Tag.inj htag ⟨_, hK⟩) (by decide)
  have hNo : Hid (¬ (Nb = B ∨ Nb = Kb)) := by rintro (rfl | rfl); exact absurd (Tag.inj htag ⟨_, hN⟩) (by decide); exact absurd (Tag.inj ⟨_, hK⟩ ⟨_, hN⟩) (by decide)
  have hPo : Hid (¬ (Pb = B ∨ Pb = Kb)) := by rintro (rfl | e); exact absurd (Tag.inj htag ⟨_, hP⟩) (by decide); exact hPK e
  have hBo : Hid (¬ (Bb = B ∨ Bb = Kb)) := by rintro (rfl | rfl); exact absurd (Tag.inj htag ⟨_, hBb⟩) (by decide); exact absurd (Tag.inj ⟨_, hK⟩ ⟨_, hBb⟩) (by decide)
  have hN2 : Hid (∀ wr, Old w wr (fun b => b = B ∨ b = Kb) → wr.cell? ⟨Nb, 0, none⟩ = some v ∧ wr.cell? ⟨Pb, 0, none⟩ = some (.int .i64 ((p : Nat) : Int)) ∧ wr.cell? ⟨Bb, 0, none⟩ = some (.pointer (some ⟨B, 0, none⟩)) ∧ AskL wr v l) := fun wr ho =>
    ⟨(blk1 ((ho.block _ (lt_of_heap hN) hNo.out).trans hN)).1, (blk1 ((ho.block _ (lt_of_heap hP) hPo.out).trans hP)).1, (blk1 ((ho.block _ (lt_of_heap hBb) hBo.out).trans hBb)).1, hl.on ((hW.no.trans ho).weak fun b hb h => by rcases h with rfl | rfl <;> omega)⟩
  obtain ⟨nb, ncap, rfl, _⟩ := hl
  have hh := Lib.hid h
  have hK' := Lib.hid hK
  obtain ⟨n, hn⟩ : ∃ n, l.length = n := ⟨_, rfl⟩
  have hn' := Lib.hid hn
  rw [hn] at hkl hlen
  clear h hK hN hP hBb htag hn
  go_enter Try.func9, Try.ntmps9
  go_wp2
  go_loopw [4] (fun v4 wr => At9 B Kb sv l p k M bv bs lv ls w v4 wr) (fun v4 _ => 3 - (intOf v4).toNat)
  case atStart => exact ⟨0, by omega, rfl, ⟨_, _, hh.out⟩, hK'.out, Old.refl _ _⟩
  case round =>
    obtain ⟨i, hi, rfl, ⟨hd2, q2, hR⟩, hKr, hOr⟩ := hrel
    obtain ⟨kk, hkk⟩ : ∃ kk, (moreN l p i (k, M)).1 = kk := ⟨_, rfl⟩
    have hkn : kk ≤ n := by rw [← hkk, ← hn'.out]; exact more_le (by rw [hn'.out]; exact hkl) i
    have hR' := Lib.hid hR
    have hOr' := Lib.hid hOr
    have hkk' := Lib.hid hkk
    rw [hkk] at hKr
    obtain ⟨cK, zK⟩ := blk1 hKr
    obtain ⟨cN, cP, cB, hL⟩ := hN2.out _ hOr
    rw [hn'.out] at cN
    have hKr' := Lib.hid hKr
    have hL' := Lib.hid hL
    clear hR hOr hkk hKr hL
    by_cases hi3 : i < 3
    · by_cases hkl2 : kk < n
      · obtain ⟨a, ha⟩ : ∃ a, l[kk]? = some a := ⟨l[kk]'(by rw [hn'.out]; exact hkl2), List.getElem?_eq_getElem _⟩
        obtain ⟨base, cap, hbe, hrd⟩ := hL'.out
        obtain ⟨o, qq, db, dc, sb, sc, rfl, holt, hrow, hrd1, hrd2, ha0, ha1, ho1, ho2⟩ := hrd kk a ha
        obtain rfl : nb = some ⟨o, qq, none⟩ := by cases hbe; rfl
        have e0 : wr.cell? ⟨o, qq + kk * 8, none⟩ = some (.int .i64 a.port) := hrow 0 _ rfl
        have e1 : wr.cell? ⟨o, qq + kk * 8 + 1, none⟩ = some (.int .i64 a.id) := hrow 1 _ rfl
        have e2 : wr.cell? ⟨o, qq + kk * 8 + 2, none⟩ = some (.int .i64 a.kind) := hrow 2 _ rfl
        have e3 : wr.cell? ⟨o, qq + kk * 8 + 3, none⟩ = some (.int .u64 a.addr) := hrow 3 _ rfl
        have e4 : wr.cell? ⟨o, qq + kk * 8 + 4, none⟩ = some (.int .i64 a.beats) := hrow 4 _ rfl
        have e5 : wr.cell? ⟨o, qq + kk * 8 + 5, none⟩ = some (.slice db a.ds.length dc) := hrow 5 _ rfl
        have e6 : wr.cell? ⟨o, qq + kk * 8 + 6, none⟩ = some (.slice sb a.ss.length sc) := hrow 6 _ rfl
        have e7 : wr.cell? ⟨o, qq + kk * 8 + 7, none⟩ = some (.int .i64 a.size) := hrow 7 _ rfl
        have hk0 : (0 : Int) ≤ (kk : Int) := by omega
        have hk1 : (kk : Int) < (n : Int) := by omega
        have hstep : Hid (moreN l p (i + 1) (k, M) = (kk + 1, if a.port = (p : Int) then (moreN l p i (k, M)).2 else (moreN l p i (k, M)).2.ask a)) := by
          show moreStep l p (moreN l p i (k, M)) = _
          unfold moreStep
          rw [hkk'.out, ha]
        have hask : Hid (∀ w1, Old wr w1 No → Calls Try.prog 10 #[.pointer (some ⟨B, 0, none⟩), askV a.port a.id a.kind a.addr a.beats (.slice db a.ds.length dc) (.slice sb a.ss.length sc) a.size] w1 (RetAskR B sv (moreN l p i (k, M)).2 a bv bs lv ls w1)) := fun w1 ho =>
          askR_calls (hR'.out.no ho) ha0 (hrd1.on ho (fun _ _ _ _ _ _ h => h)) (hrd2.on ho (fun _ _ _ _ _ _ h => h)) ho1 ho2
        clear hrow hrd hrd1 hrd2 ha hbe
        have hOK : Hid (∀ m, Old wr ((wr.drewN m).setCell ⟨Kb, 0, none⟩ (.int .i64 ((kk : Int) + 1))) (fun b => b = Kb)) := fun m => ((Old.refl wr _).drewN m).setCell _ (.inr rfl)
        by_cases hpe : a.port = (p : Int)
        · have hpe2 : ((a.port : Int) == (p : Int)) = true := by simp [hpe]
          go_wp2
          go_quiet (fail)
          go_wp2
          refine ⟨⟨i + 1, by omega, by go_num, ⟨hd2, q2, ?_⟩, ?_, ?_⟩, by simp [intOf]; omega⟩
          · rw [hstep.out, if_pos hpe]
            exact hR'.out.on (hOK.out nq) (fun h => hBK.out h) (fun b hb h => by subst h; exact own_ne hR'.out.busyo ⟨_, hKr'.out⟩ (by decide) hb) (fun b hb h => by subst h; exact own_ne hR'.out.logo ⟨_, hKr'.out⟩ (by decide) hb) (fun o hs h => by subst h; exact soft_not hs ⟨_, hKr'.out⟩ (by decide) (by decide))
          · rw [hstep.out]
            exact heap_setCell_same _ Kb 0 _ 3 _ hKr'.out
          · exact hOr'.out.trans ((hOK.out nq).weak fun _ _ h => .inr h)
        · have hpe2 : ((a.port : Int) == (p : Int)) = false := by simp [hpe]
          go_wp2
          go_quiet (fail)
          go_wp2
          have hSq : Hid (SameW wr (wr.drewN nq)) := ⟨rfl, rfl, rfl⟩
          generalize wr.drewN nq = wq at hSq ⊢
          have e0 := (hSq.out.cell _).trans e0
          have e1 := (hSq.out.cell _).trans e1
          have e2 := (hSq.out.cell _).trans e2
          have e3 := (hSq.out.cell _).trans e3
          have e4 := (hSq.out.cell _).trans e4
          have e5 := (hSq.out.cell _).trans e5
          have e6 := (hSq.out.cell _).trans e6
          have e7 := (hSq.out.cell _).trans e7
          have cN := (hSq.out.cell _).trans cN
          have cK := (hSq.out.cell _).trans cK
          have cB := (hSq.out.cell _).trans cB
          go_still_tail 5, (by kernel_rfl)
          change wpList _ _ _ _ _ wq.drew
          have hSd : Hid (Old wr wq.drew No) := hSq.out.old.drew
          generalize wq.drew = wd at hSd ⊢
          go_wp2_with (go_at_call 10; refine (hask.out _ hSd.out).mono ?_; rintro e w2 ⟨rfl, ⟨hd3, q3, hR3⟩, hO3⟩; have hR3' := Lib.hid hR3; have hK2 := Lib.hid ((hO3.block Kb (Nat.lt_of_lt_of_le (lt_of_heap hKr'.out) hSd.out.size) (fun e => hBK.out e.symm)).trans ((hSd.out.block Kb (lt_of_heap hKr'.out) (fun h => h)).trans hKr'.out)); have cK2 := (blk1 hK2.out).1; have zK2 := (blk1 hK2.out).2; have hO3' := Lib.hid (hSd.out.no.trans hO3); clear hR3 hO3)
          have hOK2 := ((Old.refl w2 (fun b => b = Kb)).setCell (g := Kb) (o := 0) (.int .i64 ((kk : Int) + 1)) (.inr rfl))
          refine ⟨⟨i + 1, by omega, by go_num, ⟨hd3, q3, ?_⟩, ?_, ?_⟩, by simp [intOf]; omega⟩
          · rw [hstep.out, if_neg hpe]
            exact hR3'.out.on hOK2 (fun h => hBK.out h) (fun b hb h => by subst h; exact own_ne hR3'.out.busyo ⟨_, hK2.out⟩ (by decide) hb) (fun b hb h => by subst h; exact own_ne hR3'.out.logo ⟨_, hK2.out⟩ (by decide) hb) (fun o hs h => by subst h; exact soft_not hs ⟨_, hK2.out⟩ (by decide) (by decide))
          · rw [hstep.out]
            exact heap_setCell_same _ Kb 0 _ 3 _ hK2.out
          · exact hOr'.out.trans ((hO3'.out.weak fun _ _ h => .inl h).trans (hOK2.weak fun _ _ h => .inr h))
      · obtain rfl : kk = n := by omega
        have hend : Hid (moreN l p 3 (k, M) = moreN l p i (k, M)) := by
          have h := more_none (l := l) (p := p) (s := (k, M)) (i := i) (List.getElem?_eq_none_iff.2 (by rw [hkk'.out, hn'.out]; exact Nat.le_refl _)) (3 - i)
          rwa [show i + (3 - i) = 3 by omega] at h
        go_wp2
        go_end0
        exact ⟨rfl, by rw [hend.out]; exact ⟨_, _, hR'.out⟩, by rw [hend.out, hkk'.out]; exact hKr'.out, hOr'.out⟩
    · obtain rfl : i = 3 := by omega
      go_wp2
      go_end0
      exact ⟨rfl, ⟨_, _, hR'.out⟩, by rw [hkk'.out]; exact hKr'.out, hOr'.out⟩
end Go.Proofs.Ytnpgjecifllnaaa
