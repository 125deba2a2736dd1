/- What is proved here: BusTime's run. Conditions: what came in reads as lists. -/
import Derived.Test.YtnpgjecifllnaaaAwake
set_option linter.unusedSimpArgs false
set_option linter.unusedVariables false
namespace Go.Proofs.Ytnpgjecifllnaaa
open Go Go.Conc Go.RowKit

/-- What a list of answers reads as. -/
def GivesL (w : World) (v : Value) (out : List It) : Prop := ∃ base cap, v = .slice base out.length cap ∧ ∀ i x, out[i]? = some x → ∃ o q, base = some ⟨o, q, none⟩ ∧ o < w.heap.size ∧ w.rangeAt o (q + i * 4) x.give.toList
theorem gives_get : ∀ (l : List It) (i j : Nat) (x : It), l[i]? = some x → j < 4 → (gives l)[i * 4 + j]? = x.give.toList[j]?
  | [], i, j, x, h, _ => by simp at h
  | y :: l, i, j, x, h, hj => by
    have hy : y.give.toList.length = 4 := by simp [It.give]
    have e : gives (y :: l) = y.give.toList ++ gives l := by simp [gives]
    rw [e]
    cases i with
    | zero =>
      simp at h
      subst h
      rw [List.getElem?_append_left (by rw [hy]; omega)]
      simp
    | succ i =>
      rw [List.getElem?_append_right (by rw [hy]; omega), hy]
      have : (i + 1) * 4 + j - 4 = i * 4 + j := by omega
      rw [this]
      exact gives_get l i j x (by simpa using h) hj
theorem gives_of_own {w : World} {base : Nat} {v : Value} {l : List It} (h : w.ownsRow base 43 4 v l.length (gives l)) : GivesL w v l := by
  rcases h.2 with ⟨rfl, h2⟩ | ⟨g, cap, cur, rfl, h3, h4, h5, h6, h7, h8⟩
  · refine ⟨none, 0, by rw [h2], fun i x hi => ?_⟩
    have := (List.getElem?_eq_some_iff.1 hi).1; omega
  · refine ⟨some ⟨g, 0, none⟩, cap, rfl, fun i x hi => ⟨g, 0, rfl, lt_of_heap h4, fun j u hj => ?_⟩⟩
    have hi2 := (List.getElem?_eq_some_iff.1 hi).1
    have hj2 : j < 4 := by have := (List.getElem?_eq_some_iff.1 hj).1; simpa [It.give] using this
    have h9 := congrArg (fun l => l[i * 4 + j]?) h8
    simp only [List.getElem?_take] at h9
    rw [if_pos (by omega), gives_get l i j x hi hj2, hj] at h9
    simp only [World.cell?, h4, Nat.zero_add]
    simpa using h9
theorem GivesL.on {w w1 : World} {v : Value} {l : List It} (h : GivesL w v l) (ho : Old w w1 No) : GivesL w1 v l := by
  obtain ⟨base, cap, e, h⟩ := h
  refine ⟨base, cap, e, fun i x hi => ?_⟩
  obtain ⟨o, q, e2, hlt, hr⟩ := h i x hi
  exact ⟨o, q, e2, Nat.lt_of_lt_of_le hlt ho.size, range_at hr (ho.block o hlt (fun h => h))⟩

/-- Where the law stands: the bus, its variables. -/
structure Sit (W w : World) (B Kb Nb Pb Bb : Nat) (v : Value) (l : List AskA) (p k : Nat) (M : Mst) (T : Nat) : Prop where
  old : Old W w No
  hB : W.heap.size ≤ B
  hK : W.heap.size ≤ Kb
  kl : k ≤ l.length
  bK : w.heap[Kb]? = some (.cells #[.int .i64 ((k : Nat) : Int)] 3 (0, 0))
  bN : w.heap[Nb]? = some (.cells #[v] 22 (0, 0))
  bP : w.heap[Pb]? = some (.cells #[.int .i64 ((p : Nat) : Int)] 3 (0, 0))
  bB : w.heap[Bb]? = some (.cells #[.pointer (some ⟨B, 0, none⟩)] 25 (0, 0))
  ne : Pb ≠ Kb
  ok : M.ok T
  rep : ∃ hd q bv bs lv ls, RepX w B Sv.plain.val M hd q bv bs lv ls
section
variable {W w : World} {B Kb Nb Pb Bb p k T : Nat} {v : Value} {l : List AskA} {M : Mst}
theorem Sit.no (h : Sit W w B Kb Nb Pb Bb v l p k M T) {w1 : World} (ho : Old w w1 No) : Sit W w1 B Kb Nb Pb Bb v l p k M T := by
  have hk : ∀ {b : Nat} {o : Obj}, w.heap[b]? = some o → w1.heap[b]? = some o := fun e => (ho.block _ (lt_of_heap e) (fun h => h)).trans e
  obtain ⟨hd, q, bv, bs, lv, ls, hR⟩ := h.rep
  exact ⟨h.old.trans ho, h.hB, h.hK, h.kl, hk h.bK, hk h.bN, hk h.bP, hk h.bB, h.ne, h.ok, hd, q, bv, bs, lv, ls, hR.no ho⟩
theorem AskL.mem (hl : AskL W v l) {a : AskA} (ha : a ∈ l) : 0 ≤ a.addr ∧ a.addr < 18446744073709551616 ∧ Ones a.ds ∧ Ones a.ss := by
  obtain ⟨base, cap, e, h⟩ := hl
  obtain ⟨i, hi⟩ := List.getElem?_of_mem ha
  obtain ⟨o, q, db, dc, sb, sc, _, _, _, _, _, h⟩ := h i a hi
  exact h
theorem Sit.more (h : Sit W w B Kb Nb Pb Bb v l p k M T) (hl : AskL W v l) (hlen : l.length ≤ 140737488355328) :
    Calls Try.prog 9 #[.pointer (some ⟨Kb, 0, none⟩), .pointer (some ⟨Nb, 0, none⟩), .pointer (some ⟨Pb, 0, none⟩), .pointer (some ⟨Bb, 0, none⟩)] w (fun e w' => e = .returned (.tuple #[]) ∧ Sit W w' B Kb Nb Pb Bb v l p (moreN l p 3 (k, M)).1 (moreN l p 3 (k, M)).2 T) := by
  obtain ⟨hd, q, bv, bs, lv, ls, hR⟩ := h.rep
  refine (more_calls (T := 0) hR h.old hl h.hB h.hK h.bK h.bN h.bP h.ne h.bB h.kl hlen).mono ?_
  rintro e w' ⟨he, ⟨hd2, q2, hR2⟩, hK2, ho⟩
  have htag := hR.bus.tag
  have hk : ∀ {b t : Nat} {u : Value}, b ≠ Kb → t ≠ 84 → w.heap[b]? = some (.cells #[u] t (0, 0)) → w'.heap[b]? = some (.cells #[u] t (0, 0)) := fun hne ht e => (ho.block _ (lt_of_heap e) (by rintro (rfl | rfl); exact ht (Tag.inj ⟨_, e⟩ htag); exact hne rfl)).trans e
  refine ⟨he, ⟨⟨Nat.le_trans h.old.size ho.size, ho.os.trans h.old.os, ho.output.trans h.old.output, fun b hb _ => (ho.block b (Nat.lt_of_lt_of_le hb h.old.size) (by have := h.hB; have := h.hK; omega)).trans (h.old.block b hb (fun h => h))⟩, h.hB, h.hK, more_le h.kl 3, hK2, ?_, hk h.ne (by decide) h.bP, ?_, h.ne, ?_, hd2, q2, bv, bs, lv, ls, hR2⟩⟩
  · exact hk (fun e => by have h1 := h.bN; have h2 := h.bK; rw [e] at h1; rw [h1] at h2; cases h2) (by decide) h.bN
  · exact hk (fun e => by have h1 := h.bB; have h2 := h.bK; rw [e] at h1; rw [h1] at h2; cases h2) (by decide) h.bB
  · exact more_keep (R := fun M => M.ok T) h.ok (fun M a ha _ hM => by obtain ⟨h1, h2, h3, h4⟩ := hl.mem ha; exact hM.ask h1 h2 h3 h4) 3
theorem Sit.tick (h : Sit W w B Kb Nb Pb Bb v l p k M T) (hT : T + 1 ≤ 100000) (x : InA) :
    Calls Try.prog 11 #[.pointer (some ⟨B, 0, none⟩), inV x.li x.rx x.dl x.pk] w (fun e w' => ∃ v3 out, e = .returned v3 ∧ GivesL w' v3 out ∧ All2 (WyR w') out M.outs ∧ Sit W w' B Kb Nb Pb Bb v l p k (M.tick x.dl x.pk) (T + 1)) := by
  obtain ⟨hd, q, bv, bs, lv, ls, hR⟩ := h.rep
  refine (tick_calls (n := 0) (s := .plain) hR h.ok hT trivial (by omega)).mono ?_
  rintro e w' ⟨v3, out, lv', he, ho3, hal, ⟨hd2, q2, bv2, bs2, ls2, hR2⟩, _, ho, _⟩
  have htag := hR.bus.tag
  have hk : ∀ {b t : Nat} {u : Value}, t ≠ 84 → t ≠ 35 → w.heap[b]? = some (.cells #[u] t (0, 0)) → w'.heap[b]? = some (.cells #[u] t (0, 0)) := fun ht h35 e => (ho.block _ (lt_of_heap e) (by
    rintro (rfl | h | h)
    · exact ht (Tag.inj ⟨_, e⟩ htag)
    · exact h
    · exact own_ne hR.logo ⟨_, e⟩ h35 h)).trans e
  refine ⟨v3, out, he, gives_of_own ho3, hal, ⟨Nat.le_trans h.old.size ho.size, ho.os.trans h.old.os, ho.output.trans h.old.output, fun b hb _ => (ho.block b (Nat.lt_of_lt_of_le hb h.old.size) (by
    have := h.hB
    rintro (rfl | h2 | h2)
    · omega
    · exact h2
    · exact owns_ge hR.logo (by omega) h2)).trans (h.old.block b hb (fun h => h))⟩, h.hB, h.hK, h.kl, hk (by decide) (by decide) h.bK, hk (by decide) (by decide) h.bN, hk (by decide) (by decide) h.bP, hk (by decide) (by decide) h.bB, h.ne, h.ok.tick, hd2, q2, bv2, bs2, lv', ls2, hR2⟩
theorem Sit.ask (h : Sit W w B Kb Nb Pb Bb v l p k M T) {a : AskA} {db sb : Option Addr} {dc sc : Nat} (ha0 : 0 ≤ a.addr) (ha1 : a.addr < 18446744073709551616) (h1 : Rd w (.slice db a.ds.length dc) a.ds) (h2 : Rd w (.slice sb a.ss.length sc) a.ss) (o1 : Ones a.ds) (o2 : Ones a.ss) :
    Calls Try.prog 10 #[.pointer (some ⟨B, 0, none⟩), askV a.port a.id a.kind a.addr a.beats (.slice db a.ds.length dc) (.slice sb a.ss.length sc) a.size] w (fun e w' => e = .returned (.int .i64 (M.askE a)) ∧ Sit W w' B Kb Nb Pb Bb v l p k (M.ask a) T) := by
  obtain ⟨hd, q, bv, bs, lv, ls, hR⟩ := h.rep
  refine (askR_calls hR ha0 h1 h2 o1 o2).mono ?_
  rintro e w' ⟨he, ⟨hd2, q2, hR2⟩, ho⟩
  have htag := hR.bus.tag
  have hk : ∀ {b t : Nat} {u : Value}, t ≠ 84 → w.heap[b]? = some (.cells #[u] t (0, 0)) → w'.heap[b]? = some (.cells #[u] t (0, 0)) := fun ht e => (ho.block _ (lt_of_heap e) (by rintro rfl; exact ht (Tag.inj ⟨_, e⟩ htag))).trans e
  exact ⟨he, ⟨Nat.le_trans h.old.size ho.size, ho.os.trans h.old.os, ho.output.trans h.old.output, fun b hb _ => (ho.block b (Nat.lt_of_lt_of_le hb h.old.size) (by have := h.hB; omega)).trans (h.old.block b hb (fun h => h))⟩, h.hB, h.hK, h.kl, hk (by decide) h.bK, hk (by decide) h.bN, hk (by decide) h.bP, hk (by decide) h.bB, h.ne, h.ok.ask ha0 ha1 o1 o2, hd2, q2, bv, bs, lv, ls, hR2⟩
end

theorem al_at {w : World} {o : Obj} {b : Nat} (h : w.heap.size = b) : (w.alloc o).heap[b]? = some o := h ▸ al_new
theorem served64 : servedD 64 1 64 = bytesAt 64 64 := by unfold servedD; rw [if_neg (by decide), if_neg (by decide)]
theorem mod_nat (x : Int) (n : Nat) (h0 : 0 < n) (h1 : n ≤ 1000) : ∃ m : Nat, wrap64 ((IntKind.u64.wrap x).tmod (n : Int)) = (m : Int) ∧ m < n := by
  have h := wrap_u64_nonneg x
  rw [Int.tmod_eq_emod_of_nonneg h]
  have h2 := Int.emod_lt_of_pos (IntKind.u64.wrap x) (show (0 : Int) < (n : Int) by omega)
  have h3 := Int.emod_nonneg (IntKind.u64.wrap x) (show (n : Int) ≠ 0 by omega)
  refine ⟨(IntKind.u64.wrap x % (n : Int)).toNat, ?_, by omega⟩
  unfold wrap64
  omega

set_option maxHeartbeats 4000000 in
set_option maxRecDepth 100000 in
theorem law3_calls {W : World} {most port : Int} {v vi : Value} {l : List AskA} {ins : List InA} (hl : AskL W v l) (hi : InL W vi ins) (hlen : l.length ≤ 140737488355328) :
    Calls Try.prog 3 #[.int .i64 most, v, vi, .int .i64 port] W (RetTrue W) := by
  obtain ⟨m, hm, hm60⟩ := mod_nat most 60 (by omega) (by omega)
  obtain ⟨p, hp, hp3⟩ := mod_nat port 3 (by omega) (by omega)
  have hm' : wrap64 ((IntKind.u64.wrap most).tmod 60) = (m : Int) := hm
  have hp' : wrap64 ((IntKind.u64.wrap port).tmod 3) = (p : Int) := hp
  have hnew : Hid (∀ w1, Calls Try.prog 6 #[.int .i64 ((m : Nat) : Int), .func (.func 7) #[] #[]] w1 (fun e w' => e = .returned (.tuple #[.pointer (some ⟨w1.heap.size, 0, none⟩), .int .i64 0]) ∧ w' = w1.alloc (.cells (new84 m Sv.plain.val) 84))) := fun w1 => new_calls (s := .plain) (by omega) (by omega)
  obtain ⟨vb, vc, hv, _⟩ := id hl
  obtain ⟨ln, hln⟩ : ∃ ln, l.length = ln := ⟨_, rfl⟩
  rw [hln] at hv
  have hl' := Lib.hid hl
  have hi' := Lib.hid hi
  have hln' := Lib.hid hln
  rw [hln] at hlen
  subst hv
  clear hl hi hln hm hp
  go_enter Try.func3, Try.ntmps3
  go_wp2_with (first
    | (go_at_call 6; refine (hnew.out _).mono ?_; rintro e w1 ⟨rfl, rfl⟩)
    | (go_at_call 8; refine (awake_calls _).mono ?_; rintro e w8 ⟨rfl, ho8⟩; have bN := Lib.hid ((ho8.block W.heap.size (by simp only [al_size]; omega) (fun h => h)).trans ((al_old (by simp only [al_size]; omega)).trans ((al_old (by simp only [al_size]; omega)).trans ((al_old (by simp only [al_size]; omega)).trans al_new)))); have bB := Lib.hid ((ho8.block (W.heap.size + 1) (by simp only [al_size]; omega) (fun h => h)).trans ((al_old (by simp only [al_size]; omega)).trans ((al_old (by simp only [al_size]; omega)).trans (al_at al_size)))); have bC := Lib.hid ((ho8.block (W.heap.size + 1 + 1) (by simp only [al_size]; omega) (fun h => h)).trans ((al_old (by simp only [al_size]; omega)).trans (al_at (by simp only [al_size])))); have bP := Lib.hid ((ho8.block (W.heap.size + 1 + 1 + 1) (by simp only [al_size]; omega) (fun h => h)).trans (al_at (by simp only [al_size]))); have c9 := (blk1 bC.out).1; have ho8' := Lib.hid (((((Old.refl W No).alloc _).alloc _).alloc _).alloc _ |>.trans ho8); clear ho8))
  have hX8 : RepX w8 (W.heap.size + 1) Sv.plain.val (Mst.new m) (fun _ => 0) (fun _ => []) (.slice none 0 0) [] (.slice none 0 0) [] := new_rep bB.out
  have ha8 : Old w8 (w8.alloc (.cells #[.int .i64 0] 3)) No := (Old.refl w8 No).alloc _
  have hS0 : Sit W (w8.alloc (.cells #[.int .i64 0] 3)) (W.heap.size + 1) w8.heap.size W.heap.size (W.heap.size + 1 + 1 + 1) (W.heap.size + 1 + 1) (.slice vb ln vc) l p 0 (Mst.new m) 0 :=
    ⟨ho8'.out.trans ha8, by omega, ho8'.out.size, Nat.zero_le _, al_new, (al_old (lt_of_heap bN.out)).trans bN.out, (al_old (lt_of_heap bP.out)).trans bP.out, (al_old (lt_of_heap bC.out)).trans bC.out, by have := lt_of_heap bP.out; omega, Mst.new_ok (by omega) (by omega) 0, _, _, _, _, _, _, hX8.no ha8⟩
  have hF0 : Fit ((m : Int) + 1) (Mst.new m) := Fit.new (by omega)
  have hW0 : W0 p (Mst.new m) := ⟨rfl, fun y hy => by simp [Mst.new] at hy⟩
  clear hX8 ha8 bN bB bC bP c9 ho8' hnew
  generalize w8.alloc (.cells #[.int .i64 0] 3) = w9 at hS0 ⊢
  generalize W.heap.size + 1 + 1 + 1 = Pb at hS0 ⊢
  generalize W.heap.size + 1 + 1 = Bb at hS0 ⊢
  generalize W.heap.size + 1 = B at hS0 ⊢
  generalize w8.heap.size = Kb at hS0 ⊢
  generalize W.heap.size = Nb at hS0 ⊢
  have hS0' := Lib.hid hS0
  have hF0' := Lib.hid hF0
  have hW0' := Lib.hid hW0
  clear hS0 hF0 hW0
  go_loopw [14] (fun v14 wr => ∃ t k M, t ≤ 20 ∧ v14 = .int .i64 ((t : Nat) : Int) ∧ Sit W wr B Kb Nb Pb Bb (.slice vb ln vc) l p k M t ∧ Fit ((m : Int) + 1) M ∧ W0 p M) (fun v14 _ => 20 - (intOf v14).toNat)
  case atStart => exact ⟨0, 0, _, by omega, rfl, hS0'.out, hF0'.out, hW0'.out⟩
  case round =>
    obtain ⟨t, k, M, ht, rfl, hS, hF, hW0⟩ := hrel
    have hS' := Lib.hid hS
    have hF' := Lib.hid hF
    have hW' := Lib.hid hW0
    clear hS hF hW0
    by_cases ht20 : t < 20
    · go_wp2_with (go_at_call 9; refine (hS'.out.more hl'.out (by rw [hln'.out]; exact hlen)).mono ?_; rintro e w1 ⟨rfl, hS1⟩; have hS1' := Lib.hid hS1; have cB := (blk1 hS1.bB).1; clear hS1)
      go_region_held3 (fun w' => w'.cell? ⟨Bb, 0, none⟩ = some (.pointer (some ⟨B, 0, none⟩)))
        (first | exact cB | exact hB2.out | exact hB3.out)
        (first
        | (go_simp; go_at_call 12; refine (world_calls (hi'.out.on (by exact hS1'.out.old.drew)) (by omega)).mono ?_; rintro e w2 ⟨rfl, ho2⟩; have hS2' := Lib.hid (hS1'.out.no ((Old.refl w1 No).drew.trans ho2)); have hB2 := Lib.hid (blk1 hS2'.out.bB).1; clear ho2)
        | (go_simp; go_at_call 11; refine (hS2'.out.tick (by omega) (worldF ins t)).mono ?_; rintro e w3 ⟨v3, out, rfl, _, _, hS3⟩; have hS3' := Lib.hid hS3; have hB3 := Lib.hid (blk1 hS3.bB).1; clear hS3))
      go_wp2
      refine ⟨⟨t + 1, _, _, by omega, by go_num, hS3'.out, ?_, ?_⟩, by simp [intOf]; omega⟩
      · exact (more_keep (R := fun M => Fit ((m : Int) + 1) M) hF'.out (fun M a _ _ h => h.ask) 3).tick
      · exact (more_keep (R := fun M => W0 p M) hW'.out (fun M a _ hne h => h.ask hne) 3).tick hp3 (more_keep (R := fun M => Fit ((m : Int) + 1) M) hF'.out (fun M a _ _ h => h.ask) 3)
    · obtain rfl : t = 20 := by omega
      obtain ⟨hae, hou⟩ := hW'.out.start hp3 hF'.out
      have hou' := Lib.hid hou
      have hFa : Hid (Fit ((m : Int) + 1) (M.ask (ours p))) := hF'.out.ask
      have hask : Hid (Calls Try.prog 10 #[.pointer (some ⟨B, 0, none⟩), askV (p : Int) 3 1 64 8 (.slice none 0 0) (.slice none 0 0) 0] wr (fun e w' => e = .returned (.int .i64 0) ∧ Sit W w' B Kb Nb Pb Bb (.slice vb ln vc) l p k (M.ask (ours p)) 20)) :=
        (hS'.out.ask (a := ours p) (by simp [ours]) (by simp [ours]) ⟨none, 0, rfl, Nat.le_refl _, .inl rfl, fun i u h => by simp [ours] at h⟩ ⟨none, 0, rfl, Nat.le_refl _, .inl rfl, fun i u h => by simp [ours] at h⟩ (fun u hu => by simp [ours] at hu) (fun u hu => by simp [ours] at hu)).mono fun e w' ⟨h1, h2⟩ => ⟨by rw [h1, hae], h2⟩
      have cB := (blk1 hS'.out.bB).1
      have cP := (blk1 hS'.out.bP).1
      clear hae hou
      go_wp2_with (go_at_call 10; refine hask.out.mono ?_; rintro e w1 ⟨rfl, hS1⟩; have hS1' := Lib.hid hS1; clear hS1)
      have hmm : ((12 : Int) * ((m : Int) + 4)) = ((12 * (m + 4) : Nat) : Int) := by omega
      obtain ⟨lim, hlim⟩ : ∃ lim, 12 * (m + 4) = lim := ⟨_, rfl⟩
      rw [hlim] at hmm
      go_loopw [15] (fun v15 wr => ∃ t k M, t ≤ lim ∧ v15 = .int .i64 ((t : Nat) : Int) ∧ Sit W wr B Kb Nb Pb Bb (.slice vb ln vc) l p k M (20 + t) ∧ Fit ((m : Int) + 1) M ∧ Ours ((m : Int) + 1) p (10 * ((m : Int) + 1) + 9 - t) M) (fun v15 _ => lim - (intOf v15).toNat)
      case atStart => exact ⟨0, _, _, by omega, rfl, hS1'.out, hFa.out, by simpa using hou'.out⟩
      case round =>
        obtain ⟨t, k2, M2, ht, rfl, hS, hF, hO⟩ := hrel
        have hS2' := Lib.hid hS
        have hF2' := Lib.hid hF
        have hO2' := Lib.hid hO
        clear hS hF hO
        by_cases htl : t < lim
        · have hmw : wrap64 (12 * ((m : Int) + 4)) = (lim : Int) := by unfold wrap64; omega
          have hlt : (t : Int) < (lim : Int) := by omega
          have ht1 : t < 1000 := by omega
          have ht2 : (t : Int) < 1000 := by omega
          have ht0 : (0 : Int) ≤ (t : Int) := by omega
          have hw : Hid (∀ w1, Old W w1 No → Calls Try.prog 12 #[vi, .int .i64 (IntKind.i64.wrap (20 + ((t : Nat) : Int)))] w1 (fun e w' => e = .returned (inV (worldF ins (20 + t)).li (worldF ins (20 + t)).rx (worldF ins (20 + t)).dl (worldF ins (20 + t)).pk) ∧ Old w1 w' No)) := fun w1 ho => by
            have e : IntKind.i64.wrap ((20 : Int) + (t : Int)) = ((20 + t : Nat) : Int) := by rw [IntKind.wrap_i64]; omega
            rw [e]
            exact world_calls (hi'.out.on ho) (by omega)
          go_wp2_with (go_at_call 9; refine (hS2'.out.more hl'.out (by rw [hln'.out]; exact hlen)).mono ?_; rintro e w2 ⟨rfl, hS3⟩; have hS3' := Lib.hid hS3; have cB2 := (blk1 hS3.bB).1; clear hS3)
          go_region_held3 (fun w' => w'.cell? ⟨Bb, 0, none⟩ = some (.pointer (some ⟨B, 0, none⟩)))
            (first | exact cB2 | exact hB4.out | exact hB5.out)
            (first
            | (go_simp; go_at_call 12; refine (hw.out _ (by exact hS3'.out.old.drew)).mono ?_; rintro e w4 ⟨rfl, ho4⟩; have hS4' := Lib.hid (hS3'.out.no ((Old.refl w2 No).drew.trans ho4)); have hB4 := Lib.hid (blk1 hS4'.out.bB).1; clear ho4)
            | (go_simp; go_at_call 11; refine (hS4'.out.tick (by omega) (worldF ins (20 + t))).mono ?_; rintro e w5 ⟨v3, out, rfl, hg, hal, hS5⟩; obtain ⟨vb3, vc3, rfl, hrd⟩ := hg; have hrd' := Lib.hid hrd; have hal' := Lib.hid hal; have hS5' := Lib.hid hS5; have hB5 := Lib.hid (blk1 hS5.bB).1; clear hS5 hrd hal))
          obtain ⟨no, hno⟩ : ∃ no, out.length = no := ⟨_, rfl⟩
          rw [hno]
          have hno' := Lib.hid hno
          have hF6 : Hid (Fit ((m : Int) + 1) (moreN l p 3 (k2, M2)).2) := more_keep (R := fun M => Fit ((m : Int) + 1) M) hF2'.out (fun M a _ _ h => h.ask) 3
          have hO6 : Hid (Ours ((m : Int) + 1) p (10 * ((m : Int) + 1) + 9 - t) (moreN l p 3 (k2, M2)).2) := more_keep (R := fun M => Ours ((m : Int) + 1) p (10 * ((m : Int) + 1) + 9 - t) M) hO2'.out (fun M a _ hne h => h.ask hne) 3
          have hdi := Lib.hid (hO6.out.tick (dl := (worldF ins (20 + t)).dl) (pk := (worldF ins (20 + t)).pk) hp3 hF6.out)
          have hF7 := Lib.hid (hF6.out.tick (dl := (worldF ins (20 + t)).dl) (pk := (worldF ins (20 + t)).pk))
          have hno4 : no ≤ 4 := by
            have h1 := hal'.out.1
            have h2 := ansW_len (moreN l p 3 (k2, M2)).2.W ⟨fun _ => false, [], []⟩
            have h3 := hF6.out.w4
            have h4 : (moreN l p 3 (k2, M2)).2.outs.length = ((moreN l p 3 (k2, M2)).2.W.foldl ansWStep ⟨fun _ => false, [], []⟩).out.length := rfl
            simp only [List.length_nil] at h2
            omega
          clear hno cB cP
          go_wp2
          go_loopw [17] (fun v17 wr => ∃ i, i ≤ no ∧ v17 = .int .i64 ((i : Nat) : Int) ∧ SameW w5 wr ∧ ∀ j, j < i → ∀ x, out[j]? = some x → x.gport ≠ (p : Int)) (fun v17 _ => no - (intOf v17).toNat)
          case atStart => exact ⟨0, by omega, rfl, ⟨rfl, rfl, rfl⟩, fun j h => by omega⟩
          case round =>
            obtain ⟨i, hi2, rfl, hsm, hbef⟩ := hrel
            have hsm' := Lib.hid hsm
            have hbef' := Lib.hid hbef
            clear hsm hbef
            by_cases hin : i < no
            · obtain ⟨x, hx⟩ : ∃ x, out[i]? = some x := ⟨out[i]'(by rw [hno'.out]; exact hin), List.getElem?_eq_getElem _⟩
              obtain ⟨o, q3, rfl, holt, hrow⟩ := hrd'.out i x hx
              have e0 : wr.cell? ⟨o, q3 + i * 4, none⟩ = some (.int .i64 x.gport) := (hsm'.out.cell _).trans (hrow 0 _ rfl)
              have e1 : wr.cell? ⟨o, q3 + i * 4 + 1, none⟩ = some (.int .i64 x.gid) := (hsm'.out.cell _).trans (hrow 1 _ rfl)
              have e2 : wr.cell? ⟨o, q3 + i * 4 + 2, none⟩ = some (.slice x.gb x.gn x.gc) := (hsm'.out.cell _).trans (hrow 2 _ rfl)
              have cP : wr.cell? ⟨Pb, 0, none⟩ = some (.int .i64 ((p : Nat) : Int)) := (hsm'.out.cell _).trans (blk1 hS5'.out.bP).1
              have hk0 : (0 : Int) ≤ (i : Int) := by omega
              have hk1 : (i : Int) < (no : Int) := by omega
              have hx' := Lib.hid hx
              clear hrow hx
              by_cases hpp : x.gport = (p : Int)
              · have hil : i < (moreN l p 3 (k2, M2)).2.outs.length := by rw [← hal'.out.1, hno'.out]; exact hin
                obtain ⟨y, hy⟩ : ∃ y, (moreN l p 3 (k2, M2)).2.outs[i]? = some y := ⟨_, List.getElem?_eq_getElem hil⟩
                have hxy := hal'.out.2 i x y hx'.out hy
                have hyp : y.port = (p : Int) := by rw [← hxy.2.2.2.2.1]; exact hpp
                have hyy : y.id = 3 ∧ y.data = servedD 64 1 64 := by
                  rcases hdi.out with ⟨h, _⟩ | ⟨m1, z, m2, e, hm1, hz, hid, hdt⟩
                  · exact absurd hyp (h _ (List.mem_of_getElem? hy))
                  · have hlt : m1.length < out.length := by rw [hal'.out.1, e]; simp
                    have hzx := hal'.out.2 m1.length (out[m1.length]) z (List.getElem?_eq_getElem hlt) (by rw [e]; simp)
                    rw [e] at hy
                    have him : i = m1.length := by
                      rcases Nat.lt_trichotomy i m1.length with h | h | h
                      · exfalso
                        rw [List.getElem?_append_left h] at hy
                        exact hm1 _ (List.mem_of_getElem? hy) hyp
                      · exact h
                      · exact absurd (by rw [hzx.2.2.2.2.1]; exact hz) (hbef'.out m1.length h _ (List.getElem?_eq_getElem hlt))
                    rw [him] at hy
                    simp at hy
                    rw [← hy]
                    exact ⟨hid, hdt⟩
                have hgid : x.gid = 3 := by rw [hxy.2.2.2.2.2.1]; exact hyy.1
                have hdat : RdS w5 (.slice x.gb x.gn x.gc) (servedD 64 1 64) := by rw [← hyy.2]; exact hxy.2.2.2.2.2.2.1
                have hgn : x.gn = 64 := by rw [← len_of hdat.1, served64]; simp [bytesAt]
                obtain ⟨gbase, gcap, ge, _, _, hgr⟩ := hdat.1
                obtain ⟨o4, q4, hgb, _, hg0⟩ := hgr 0 (.int .u8 64) (by rw [served64]; rfl)
                have hgb2 : x.gb = some ⟨o4, q4, none⟩ := by simp only [Value.slice.injEq] at ge; rw [ge.1]; exact hgb
                have e3 : wr.cell? ⟨o4, q4, none⟩ = some (.int .u8 64) := (hsm'.out.cell _).trans hg0
                rw [hgb2, hgn] at e2
                rw [hgid] at e1
                rw [hpp] at e0
                have hOf : Hid (∀ nq, Old W (wr.drewN nq) No) := fun nq => (hS5'.out.old.trans hsm'.out.old).drewN nq
                clear hyy hyp hxy hy hil hdat hgr ge hgb hg0 hgid hpp
                go_wp2
                go_quiet (fail)
                go_wp2
                go_ret
                exact ⟨rfl, hOf.out _⟩
              · have hpe : ((x.gport : Int) == (p : Int)) = false := by simp [hpp]
                go_wp2
                go_quiet (fail)
                go_wp2
                refine ⟨⟨i + 1, by omega, by go_num, ⟨hsm'.out.1, hsm'.out.2.1, hsm'.out.2.2⟩, fun j hj z hz => ?_⟩, by simp [intOf]; omega⟩
                rcases Nat.lt_or_ge j i with h | h
                · exact hbef'.out j h z hz
                · obtain rfl : j = i := by omega
                  rw [hx'.out] at hz
                  cases hz
                  exact hpp
            · obtain rfl : i = no := by omega
              have hnext : Hid (Ours ((m : Int) + 1) p (10 * ((m : Int) + 1) + 9 - ((t + 1 : Nat) : Int)) ((moreN l p 3 (k2, M2)).2.tick (worldF ins (20 + t)).dl (worldF ins (20 + t)).pk)) := by
                rcases hdi.out with ⟨_, h⟩ | ⟨m1, z, m2, e, _, hz, _, _⟩
                · have e : 10 * ((m : Int) + 1) + 9 - ((t + 1 : Nat) : Int) = 10 * ((m : Int) + 1) + 9 - (t : Int) - 1 := by omega
                  rw [Hid, e]
                  exact h
                · exfalso
                  have hlt : m1.length < out.length := by rw [hal'.out.1, e]; simp
                  have hx := hal'.out.2 m1.length (out[m1.length]) z (List.getElem?_eq_getElem hlt) (by rw [e]; simp)
                  exact hbef'.out m1.length (by rw [hno'.out] at hlt; exact hlt) _ (List.getElem?_eq_getElem hlt) (by rw [hx.2.2.2.2.1]; exact hz)
              go_wp2
              exact ⟨⟨t + 1, _, _, by omega, by go_num, hS5'.out.no hsm'.out.old, hF7.out, hnext.out⟩, by simp [intOf]; omega⟩
        · exfalso
          have := hO2'.out.pos hF2'.out
          omega
end Go.Proofs.Ytnpgjecifllnaaa
