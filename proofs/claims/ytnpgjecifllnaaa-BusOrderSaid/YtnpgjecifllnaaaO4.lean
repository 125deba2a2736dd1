/- What is proved here: BusOrder's run. Conditions: what came in reads as lists. -/
import Derived.Test.YtnpgjecifllnaaaArgs
import Derived.Test.YtnpgjecifllnaaaWant
import Derived.Deep.DeepCutAuto
set_option linter.unusedSimpArgs false
set_option linter.unusedVariables false
namespace Go.Proofs.Ytnpgjecifllnaaa
open Go Go.Conc Go.RowKit

/-- Where the law stands: the bus, what it still waits for. -/
structure Sit4 (W w : World) (B Wb : Nat) (M : Mst) (T : Nat) (E : Nat → List GiveA) : Prop where
  old : Old W w No
  hB : W.heap.size ≤ B
  hWb : W.heap.size ≤ Wb
  ok : M.ok T
  rep : ∃ hd q bv bs lv ls, RepX w B Sv.plain.val M hd q bv bs lv ls
  wants : ∃ vs ls, Wants w Wb W.heap.size vs ls E
section
variable {W w : World} {B Wb T : Nat} {M : Mst} {E : Nat → List GiveA}
theorem Sit4.no (h : Sit4 W w B Wb M T E) {w1 : World} (ho : Old w w1 No) : Sit4 W w1 B Wb M T E := by
  obtain ⟨hd, q, bv, bs, lv, ls, hR⟩ := h.rep
  obtain ⟨vs, l, hW⟩ := h.wants
  exact ⟨h.old.trans ho, h.hB, h.hWb, h.ok, ⟨hd, q, bv, bs, lv, ls, hR.no ho⟩, vs, l, hW.no ho⟩
theorem Sit4.tick (h : Sit4 W w B Wb M T E) (hT : T + 1 ≤ 100000) (x : InA) :
    Calls Try.prog 11 #[.pointer (some ⟨B, 0, none⟩), inV x.li x.rx x.dl x.pk] w (fun e w' => ∃ v3 out, e = .returned v3 ∧ GivesL w' v3 out ∧ (∀ b, some b = v3.ownBlock → Tag w' b 43 ∧ W.heap.size ≤ b) ∧ All2 (WyR w') out M.outs ∧ Sit4 W w' B Wb (M.tick x.dl x.pk) (T + 1) E) := by
  obtain ⟨hd, q, bv, bs, lv, ls, hR⟩ := h.rep
  obtain ⟨vs, l, hWa⟩ := h.wants
  refine (tick_calls (n := 0) (s := .plain) hR h.ok hT trivial (by omega)).mono ?_
  rintro e w' ⟨v3, out, lv', he, ho3, hal, ⟨hd2, q2, bv2, bs2, ls2, hR2⟩, _, ho, _⟩
  have htag := hR.bus.tag
  have hk : ∀ {t : Nat} {b : Nat}, t ≠ 84 → t ≠ 35 → Tag w b t → ¬ (b = B ∨ Sv.plain.but b ∨ some b = lv.ownBlock) := fun ht h35 e => by
    rintro (rfl | h | h)
    · exact ht (Tag.inj e htag)
    · exact h
    · exact own_ne hR.logo e h35 h
  refine ⟨v3, out, he, gives_of_own ho3, fun b hb => ⟨own_tag ho3 hb.symm, ?_⟩, hal, ⟨Nat.le_trans h.old.size ho.size, ho.os.trans h.old.os, ho.output.trans h.old.output, fun b hb _ => (ho.block b (Nat.lt_of_lt_of_le hb h.old.size) (by
    have := h.hB
    rintro (rfl | h2 | h2)
    · omega
    · exact h2
    · exact owns_ge hR.logo (by omega) h2)).trans (h.old.block b hb (fun h => h))⟩, h.hB, h.hWb, h.ok.tick, ⟨hd2, q2, bv2, bs2, lv', ls2, hR2⟩, vs, l, hWa.on ho (fun b hb => hk (by decide) (by decide) hb) (fun b hb => hk (by decide) (by decide) hb) (fun o hs hp => ?_)⟩
  · rcases Nat.lt_or_ge b w.heap.size with h2 | h2
    · exact absurd hb (owns_ge ho3 h2)
    · have := h.old.size; omega
  · rcases hp with rfl | h | h
    · exact soft_not hs htag (by decide) (by decide)
    · exact h
    · exact soft_not hs (own_tag hR.logo h.symm) (by decide) (by decide)
theorem Sit4.ask (h : Sit4 W w B Wb M T E) {a : AskA} {db sb : Option Addr} {dc sc : Nat} (ha0 : 0 ≤ a.addr) (ha1 : a.addr < 18446744073709551616) (h1 : Rd w (.slice db a.ds.length dc) a.ds) (h2 : Rd w (.slice sb a.ss.length sc) a.ss) (o1 : Ones a.ds) (o2 : Ones a.ss) :
    Calls Try.prog 10 #[.pointer (some ⟨B, 0, none⟩), askV a.port a.id a.kind a.addr a.beats (.slice db a.ds.length dc) (.slice sb a.ss.length sc) a.size] w (fun e w' => e = .returned (.int .i64 (M.askE a)) ∧ Sit4 W w' B Wb (M.ask a) T E ∧ Old w w' (fun b => b = B)) := by
  obtain ⟨hd, q, bv, bs, lv, ls, hR⟩ := h.rep
  obtain ⟨vs, l, hWa⟩ := h.wants
  refine (askR_calls hR ha0 h1 h2 o1 o2).mono ?_
  rintro e w' ⟨he, ⟨hd2, q2, hR2⟩, ho⟩
  have htag := hR.bus.tag
  exact ⟨he, ⟨⟨Nat.le_trans h.old.size ho.size, ho.os.trans h.old.os, ho.output.trans h.old.output, fun b hb _ => (ho.block b (Nat.lt_of_lt_of_le hb h.old.size) (by have := h.hB; omega)).trans (h.old.block b hb (fun h => h))⟩, h.hB, h.hWb, h.ok.ask ha0 ha1 o1 o2, ⟨hd2, q2, bv, bs, lv, ls, hR2⟩, vs, l, hWa.on ho (fun b hb e => by subst e; exact absurd (Tag.inj hb htag) (by decide)) (fun b hb e => by subst e; exact absurd (Tag.inj hb htag) (by decide)) (fun o hs e => by subst e; exact soft_not hs htag (by decide) (by decide))⟩, ho⟩
end
theorem wants0 {w : World} {Wb lo : Nat} {m : Int} (h : w.heap[Wb]? = some (.cells #[.slice none 0 0, .slice none 0 0, .slice none 0 0] 45 (0, 0))) : Wants w Wb lo (fun _ => .slice none 0 0) (fun _ => []) (fun p => expect (Mst.new m) p) := by
  refine ⟨⟨_, h, rfl, fun p hp => ?_⟩, fun p hp => .inl ⟨rfl, rfl⟩, fun p hp g hg => ?_, fun p p' _ _ _ g hg => ?_, fun p hp => ?_⟩
  · have h : p = 0 ∨ p = 1 ∨ p = 2 := by omega
    rcases h with rfl | rfl | rfl <;> rfl
  · cases hg
  · cases hg
  · have : expect (Mst.new m) p = [] := rfl
    rw [this]
    exact All2.nil
/-- One of the law's lists is another now. -/
theorem Sit4.put {W w w1 : World} {B Wb T p : Nat} {M : Mst} {E0 E : Nat → List GiveA} {vs : Nat → Value} {ls : Nat → List It} {v' : Value} {l' : List It} {e' : List GiveA} (h : Sit4 W w B Wb M T E0) (hW : Wants w Wb W.heap.size vs ls E) (hp : p < 3) (ho : Old w w1 (fun b => some b = (vs p).ownBlock)) (hq : Wq w1 v' l') (hn : ∀ b, some b = v'.ownBlock → some b = (vs p).ownBlock ∨ w.heap.size ≤ b) (hr : All2 (RpR w1) l' e') :
    Sit4 W (w1.setCell ⟨Wb, p, none⟩ v') B Wb M T (setN E p e') ∧ Old w (w1.setCell ⟨Wb, p, none⟩ v') (fun b => b = Wb ∨ some b = (vs p).ownBlock) := by
  obtain ⟨h1, h2⟩ := hW.put h.old.size hp ho hq hn hr
  obtain ⟨hd, q, bv, bs, lv, ls', hR⟩ := h.rep
  obtain ⟨c, hc, _⟩ := hW.blk
  have hk : ∀ {t b : Nat}, t ≠ 45 → t ≠ 43 → Tag w b t → ¬ (b = Wb ∨ some b = (vs p).ownBlock) := fun h45 h43 ht => by
    rintro (rfl | e)
    · exact h45 (Tag.inj ht ⟨_, hc⟩)
    · exact h43 (Tag.inj ht ((hW.q p hp).tag e))
  refine ⟨⟨⟨Nat.le_trans h.old.size h2.size, h2.os.trans h.old.os, h2.output.trans h.old.output, fun b hb _ => (h2.block b (Nat.lt_of_lt_of_le hb h.old.size) (by
    rintro (rfl | e)
    · have := h.hWb; omega
    · have := hW.lo_ p hp b e; omega)).trans (h.old.block b hb (fun h => h))⟩, h.hB, h.hWb, h.ok, ⟨hd, q, bv, bs, lv, ls', hR.on h2 (hk (by decide) (by decide) hR.bus.tag) (fun b hb => hk (by decide) (by decide) (own_tag hR.busyo hb.symm)) (fun b hb => hk (by decide) (by decide) (own_tag hR.logo hb.symm)) (fun o hs e => ?_)⟩, _, _, h1⟩, h2⟩
  rcases e with rfl | e
  · exact soft_not hs ⟨_, hc⟩ (by decide) (by decide)
  · exact soft_not hs ((hW.q p hp).tag e) (by decide) (by decide)
theorem Wq.pop2 {w : World} {g off c : Nat} {l : List It} (h : Wq w (.slice (some ⟨g, off + 4, none⟩) l.length (c - 1)) l) : Wq w (.slice (if c = 1 then some ⟨g, off, none⟩ else some ⟨g, off + 4, none⟩) l.length (c - 1)) l := by
  by_cases e : c = 1
  · subst e
    rw [if_pos rfl]
    rcases h with ⟨h, _⟩ | ⟨g', off', cap, cur, e, h1, h2, h3, h4, h5⟩
    · cases h
    · cases e
      have hl : l = [] := List.eq_nil_of_length_eq_zero (by omega)
      subst hl
      exact .inr ⟨g, off, _, cur, rfl, h1, by simp, h3, by omega, fun j v hj => by simp [gives] at hj⟩
  · rw [if_neg e]
    exact h
/-- One operation of a region is taken first. -/
theorem wpAnyH_take2 {P : Program} {md : Region.Mode} {ops : Array Oper} {Q : Exit → Act → World → Prop} {S : World → Prop} {i : Nat} {v : Value} {fuel : Nat} {listed : Array Bool} {a : Act} {w : World} (hs : Region.noSelect ops = true) (hf : Region.free md ops listed i = true) (hr : (Region.ready md ops listed).contains i = true)
    (hQ : ∀ oi, ops[i]? = some oi → ∀ c a w, Q (.panic c) (a.put oi.dst v) w → Q (.panic c) a w) (hsome : (ops[i]?).isSome = true) (hS : S w)
    (h : ∀ oi, ops[i]? = some oi → YieldsIf P ops S oi v a ∧ wpAnyH P md ops Q S fuel (listed.setIfInBounds i true) (a.put oi.dst v) w) : wpAnyH P md ops Q S (fuel + 1) listed a w := by
  obtain ⟨oi, hi⟩ := Option.isSome_iff_exists.1 hsome
  obtain ⟨h1, h2⟩ := h oi hi
  exact wpAnyH_take hi hs hf hr (hQ oi hi) h1 hS h2
theorem AllReadyH.cons2 {P : Program} {md : Region.Mode} {ops : Array Oper} {Q : Exit → Act → World → Prop} {S : World → Prop} {fuel : Nat} {listed : Array Bool} {a : Act} {w : World} {i : Nat} {rs : List Nat} (hsome : (ops[i]?).isSome = true)
    (h : ∀ o, ops[i]? = some o → ∀ K' : Act → World → Prop, Shut (∀ a w, S w → (S w → wpAnyH P md ops Q S fuel (listed.setIfInBounds i true) a w) → K' a w) → if Region.wanted o (yielded ops a.tmps) = true then Oper.wp P o a w K' Q else K' (a.put o.dst undef) w)
    (hs : AllReadyH P md ops Q S fuel listed a w rs) : AllReadyH P md ops Q S fuel listed a w (i :: rs) := by
  obtain ⟨o, ho⟩ := Option.isSome_iff_exists.1 hsome
  exact AllReadyH.cons ho (h o ho) hs
/-- Answers are bytes. -/
def ByW (M : Mst) : Prop := ∀ y ∈ M.W, ∃ xs, y.data = bytesL xs
theorem ByW.ask {M : Mst} {a : AskA} (h : ByW M) : ByW (M.ask a) := fun y hy => h y (by rw [ask_W] at hy; exact hy)
theorem ByW.tick {M : Mst} {dl pk : Int} (h : ByW M) : ByW (M.tick dl pk) := by
  have hL : ∀ y ∈ (ansW M.W).left, ∃ xs, y.data = bytesL xs := fun y hy => by obtain ⟨z, hz, rfl⟩ := (ansW_parts M.W).1 y hy; exact h z hz
  cases hk : M.answered.pick pk with
  | none =>
    have hW : (M.tick dl pk).W = (ansW M.W).left := by unfold Mst.tick Mst.take; rw [hk]; rfl
    intro y hy
    rw [hW] at hy
    exact hL y hy
  | some k =>
    obtain ⟨_, hk3, _, a, r, hQk⟩ := pick_spec hk
    have hW : (M.tick dl pk).W = (ansW M.W).left ++ [a.1.served (dueF dl M.most)] := by
      unfold Mst.tick Mst.aged Mst.take
      rw [hk]
      unfold Mst.takeK
      simp only [hQk]
      rfl
    intro y hy
    rw [hW] at hy
    simp only [List.mem_append, List.mem_singleton] at hy
    rcases hy with hy | rfl
    · exact hL y hy
    · exact served_bytes _ _ _
theorem Sit4.congr {W w : World} {B Wb T : Nat} {M : Mst} {E E' : Nat → List GiveA} (h : Sit4 W w B Wb M T E) (he : ∀ p, p < 3 → E' p = E p) : Sit4 W w B Wb M T E' := by
  obtain ⟨vs, ls, hW⟩ := h.wants
  exact ⟨h.old, h.hB, h.hWb, h.ok, h.rep, vs, ls, hW.blk, hW.q, hW.lo_, hW.ap, fun p hp => by rw [he p hp]; exact hW.rp p hp⟩
/-- The input of a tick. -/
def inAt (l : List InA) (t : Nat) : InA := (l[t]?).getD ⟨0, 0, 1073741824, (t : Int)⟩

set_option maxHeartbeats 4000000 in
set_option maxRecDepth 100000 in
theorem law4_calls {W : World} {most : Int} {v vi : Value} {l : List AskA} {ins : List InA} (hl : AskL W v l) (hi : InL W vi ins) (hlen : l.length ≤ 140737488355328) (hlen2 : ins.length ≤ 140737488355328) :
    Calls Try.prog 4 #[.int .i64 most, v, vi] W (RetTrue W) := by
  obtain ⟨m, hm, hm50⟩ := mod_nat most 50 (by omega) (by omega)
  have hm' : wrap64 ((IntKind.u64.wrap most).tmod 50) = (m : Int) := hm
  have hnew : Hid (∀ w1, Calls Try.prog 6 #[.int .i64 ((m : Nat) : Int), .func (.func 7) #[] #[]] w1 (fun e w' => e = .returned (.tuple #[.pointer (some ⟨w1.heap.size, 0, none⟩), .int .i64 0]) ∧ w' = w1.alloc (.cells (new84 m Sv.plain.val) 84))) := fun w1 => new_calls (s := .plain) (by omega) (by omega)
  obtain ⟨vb, vc, hv, _⟩ := id hl
  obtain ⟨ib, ic, hvi, _⟩ := id hi
  obtain ⟨ln, hln⟩ : ∃ ln, l.length = ln := ⟨_, rfl⟩
  obtain ⟨ni, hni⟩ : ∃ ni, ins.length = ni := ⟨_, rfl⟩
  rw [hln] at hv
  rw [hni] at hvi
  have hl' := Lib.hid hl
  have hi' := Lib.hid hi
  have hln' := Lib.hid hln
  have hni' := Lib.hid hni
  rw [hln] at hlen
  rw [hni] at hlen2
  subst hv hvi
  clear hl hi hln hni hm
  go_enter Try.func4, Try.ntmps4
  go_wp2_with (first
    | (go_at_call 6; refine (hnew.out _).mono ?_; rintro e w1 ⟨rfl, rfl⟩)
    | (go_at_call 8; refine (awake_calls _).mono ?_; rintro e w8 ⟨rfl, ho8⟩; have bB := Lib.hid ((ho8.block W.heap.size (by simp only [al_size]; omega) (fun h => h)).trans al_new); have ho8' := Lib.hid (((Old.refl W No).alloc _).trans ho8); clear ho8))
  have hX8 : RepX w8 W.heap.size Sv.plain.val (Mst.new m) (fun _ => 0) (fun _ => []) (.slice none 0 0) [] (.slice none 0 0) [] := new_rep bB.out
  have ha8 : Old w8 (w8.alloc (.cells #[.slice none 0 0, .slice none 0 0, .slice none 0 0] 45)) No := (Old.refl w8 No).alloc _
  have hS0 : Sit4 W (w8.alloc (.cells #[.slice none 0 0, .slice none 0 0, .slice none 0 0] 45)) W.heap.size w8.heap.size (Mst.new m) 0 (fun p => expect (Mst.new m) p) :=
    ⟨ho8'.out.trans ha8, Nat.le_refl _, ho8'.out.size, Mst.new_ok (by omega) (by omega) 0, ⟨_, _, _, _, _, _, hX8.no ha8⟩, _, _, wants0 al_new⟩
  have hF0 : Fit ((m : Int) + 1) (Mst.new m) := Fit.new (by omega)
  clear hX8 ha8 bB ho8' hnew
  generalize w8.alloc (.cells #[.slice none 0 0, .slice none 0 0, .slice none 0 0] 45) = w9 at hS0 ⊢
  generalize w8.heap.size = Wb at hS0 ⊢
  generalize W.heap.size = B at hS0 ⊢
  have hS0' := Lib.hid hS0
  have hF0' := Lib.hid hF0
  clear hS0 hF0
  obtain ⟨lim, hlim⟩ : ∃ lim, 60 * (m + 20) = lim := ⟨_, rfl⟩
  obtain ⟨top, htop⟩ : ∃ top, min ln 20 = top := ⟨_, rfl⟩
  go_loopw [10, 11] (fun v10 v11 wr => ∃ t k M, t ≤ lim ∧ v11 = .int .i64 ((t : Nat) : Int) ∧ v10 = .int .i64 ((k : Nat) : Int) ∧ k = min t top ∧ Sit4 W wr B Wb M t (fun p => expect M p) ∧ Fit ((m : Int) + 1) M ∧ (20 ≤ t → Drain ((m : Int) + 1) (14 * ((m : Int) + 1) + 1 - ((t : Int) - 20)) M) ∧ ByW M) (fun _ v11 _ => lim - (intOf v11).toNat)
  case atStart => exact ⟨0, 0, _, by omega, rfl, rfl, by omega, hS0'.out, hF0'.out, fun h => by omega, fun y hy => by simp [Mst.new] at hy⟩
  case round =>
    obtain ⟨t, k, M, ht, rfl, rfl, hk, hS, hF, hD, hBy⟩ := hrel
    have hBy' := Lib.hid hBy
    have hS' := Lib.hid hS
    have hF' := Lib.hid hF
    have hD' := Lib.hid hD
    have hkk := Lib.hid hk
    clear hS hF hD hk hBy
    by_cases htl : t < lim
    · have hmw : wrap64 (60 * ((m : Int) + 20)) = (lim : Int) := by unfold wrap64; omega
      have hlt : (t : Int) < (lim : Int) := by omega
      have ht1 : t < 10000 := by omega
      have ht2 : (t : Int) < 10000 := by omega
      have ht0 : (0 : Int) ≤ (t : Int) := by omega
      go_upto_if 50 with fail
      go_cut [12] (fun s12 wx => s12 = .pointer (some ⟨wr.heap.size, 0, none⟩) ∧ wx = wr.alloc (.cells #[.int .i64 (inAt ins t).li, .int .i64 (inAt ins t).rx, .int .i64 (inAt ins t).dl, .int .i64 (inAt ins t).pk] 40))
      case first =>
        by_cases hti : t < ni
        · obtain ⟨x, hx⟩ : ∃ x, ins[t]? = some x := ⟨ins[t]'(by rw [hni'.out]; exact hti), List.getElem?_eq_getElem _⟩
          obtain ⟨base, cap, hbe, hrd⟩ := hi'.out.on hS'.out.old
          obtain ⟨o, q3, rfl, holt, hrow⟩ := hrd t x hx
          obtain rfl : ib = some ⟨o, q3, none⟩ := by simp only [Value.slice.injEq] at hbe; exact hbe.1
          have e0 : wr.cell? ⟨o, q3 + t * 4, none⟩ = some (.int .i64 x.li) := hrow 0 _ rfl
          have e1 : wr.cell? ⟨o, q3 + t * 4 + 1, none⟩ = some (.int .i64 x.rx) := hrow 1 _ rfl
          have e2 : wr.cell? ⟨o, q3 + t * 4 + 2, none⟩ = some (.int .i64 x.dl) := hrow 2 _ rfl
          have e3 : wr.cell? ⟨o, q3 + t * 4 + 3, none⟩ = some (.int .i64 x.pk) := hrow 3 _ rfl
          have hxe : inAt ins t = x := by unfold inAt; rw [hx]; rfl
          have hk1 : (t : Int) < (ni : Int) := by omega
          clear hrow hrd hbe hx
          go_wp2
          go_meet
          exact ⟨rfl, by rw [hxe]⟩
        · have hxe : inAt ins t = ⟨0, 0, 1073741824, (t : Int)⟩ := by unfold inAt; rw [List.getElem?_eq_none (by rw [hni'.out]; omega)]; rfl
          have hk1 : ((t : Int) < (ni : Int)) = False := by simp; omega
          go_wp2
          go_meet
          exact ⟨rfl, by rw [hxe]⟩
      case rest =>
        obtain ⟨rfl, rfl⟩ := hcut
        have hal : Hid (Old wr (wr.alloc (.cells #[.int .i64 (inAt ins t).li, .int .i64 (inAt ins t).rx, .int .i64 (inAt ins t).dl, .int .i64 (inAt ins t).pk] 40)) No) := (Old.refl wr No).alloc _
        have hI : Hid ((wr.alloc (.cells #[.int .i64 (inAt ins t).li, .int .i64 (inAt ins t).rx, .int .i64 (inAt ins t).dl, .int .i64 (inAt ins t).pk] 40)).heap[wr.heap.size]? = some (.cells #[.int .i64 (inAt ins t).li, .int .i64 (inAt ins t).rx, .int .i64 (inAt ins t).dl, .int .i64 (inAt ins t).pk] 40 (0, 0))) := al_new
        have hS2' := Lib.hid (hS'.out.no hal.out)
        generalize wr.alloc (.cells #[.int .i64 (inAt ins t).li, .int .i64 (inAt ins t).rx, .int .i64 (inAt ins t).dl, .int .i64 (inAt ins t).pk] 40) = wa at hal hI hS2' ⊢
        generalize wr.heap.size = I at hI ⊢
        clear hal hS'
        go_upto_region 13 with fail
        go_cut [62] (fun s62 wx => s62 = .bool (decide (k < top)) ∧ wx = wa)
        case first =>
          by_cases hkl : k < ln
          · have hk1 : (k : Int) < (ln : Int) := by omega
            by_cases hk20 : k < 20
            · have hk2 : (k : Int) < 20 := by omega
              have hd : decide (k < top) = true := by simp; omega
              go_wp2
              go_meet
              exact ⟨by rw [hd], rfl⟩
            · have hk2 : ((k : Int) < 20) = False := by simp; omega
              have hd : decide (k < top) = false := by simp; omega
              go_wp2
              go_meet
              exact ⟨by rw [hd], rfl⟩
          · have hk1 : ((k : Int) < (ln : Int)) = False := by simp; omega
            have hd : decide (k < top) = false := by simp; omega
            go_wp2
            go_meet
            exact ⟨by rw [hd], rfl⟩
        obtain ⟨rfl, rfl⟩ := hcut
        go_upto_if 62 with fail
        go_cut [10] (fun s10 wx => ∃ k1 M1, s10 = .int .i64 ((k1 : Nat) : Int) ∧ k1 = min (t + 1) top ∧ Sit4 W wx B Wb M1 t (fun p => expect M1 p) ∧ Fit ((m : Int) + 1) M1 ∧ (20 ≤ t → M1 = M) ∧ ByW M1 ∧ wx.heap[I]? = some (.cells #[.int .i64 (inAt ins t).li, .int .i64 (inAt ins t).rx, .int .i64 (inAt ins t).dl, .int .i64 (inAt ins t).pk] 40 (0, 0)))
        case first =>
          by_cases hkt : k < top
          · obtain ⟨a, ha⟩ : ∃ a, l[k]? = some a := ⟨l[k]'(by rw [hln'.out]; omega), List.getElem?_eq_getElem _⟩
            have hd : decide (k < top) = true := by simp; omega
            obtain ⟨base, cap, hbe, hrd⟩ := hl'.out.on hS2'.out.old
            obtain ⟨o, q3, db, dc, sb, sc, rfl, holt, hrow, hrd1, hrd2, ha0, ha1, ho1, ho2⟩ := hrd k a ha
            obtain rfl : vb = some ⟨o, q3, none⟩ := by simp only [Value.slice.injEq] at hbe; exact hbe.1
            have e0 := hrow 0 _ rfl
            have e1 := hrow 1 _ rfl
            have e2 := hrow 2 _ rfl
            have e3 := hrow 3 _ rfl
            have e4 := hrow 4 _ rfl
            have e5 := hrow 5 _ rfl
            have e6 := hrow 6 _ rfl
            have e7 := hrow 7 _ rfl
            simp only [Nat.add_zero] at e0
            have hk0 : (0 : Int) ≤ (k : Int) := by omega
            have hk1 : (k : Int) < (ln : Int) := by omega
            have hask : Hid (∀ w1, Old wc w1 No → Calls Try.prog 10 #[.pointer (some ⟨B, 0, none⟩), askV a.port a.id a.kind a.addr a.beats (.slice db a.ds.length dc) (.slice sb a.ss.length sc) a.size] w1 (fun e w' => e = .returned (.int .i64 (M.askE a)) ∧ Sit4 W w' B Wb (M.ask a) t (fun p => expect M p) ∧ Old w1 w' (fun b => b = B))) := fun w1 ho =>
              (hS2'.out.no ho).ask ha0 ha1 (hrd1.on ho (fun _ _ _ _ _ _ h => h)) (hrd2.on ho (fun _ _ _ _ _ _ h => h)) ho1 ho2
            have hBl : B < wc.heap.size := by obtain ⟨_, _, _, _, _, _, hR⟩ := hS2'.out.rep; exact hR.bus.lt
            clear hrow hrd hrd1 hrd2 hbe
            have ha' := Lib.hid ha
            simp only [hd]
            clear hd ha
            by_cases he : M.askE a = 0
            · have hmay : MayP a.port a.id a.kind a.addr a.beats a.ds.length a.ss.length a.size := (askE_may he).1
              obtain ⟨p, hpp⟩ : ∃ p : Nat, a.port = (p : Int) := ⟨a.port.toNat, by have := hmay.1; omega⟩
              have hp3 : p < 3 := by have := hmay.2.1; omega
              have hp0 : (0 : Int) ≤ (p : Int) := by omega
              have hp1 : (p : Int) < 3 := by omega
              have hbt : a.beats = 1 ∨ a.beats = 8 := hmay.2.2.2.2.1
              rw [hpp] at e0 hask
              rw [he] at hask
              have hsv : Hid (∀ w1, Calls Try.prog 7 #[askV (p : Int) a.id a.kind a.addr a.beats (.slice db a.ds.length dc) (.slice sb a.ss.length sc) a.size] w1 (RetServe a.addr a.kind (8 * a.beats).toNat w1)) := fun w1 => serve_calls ha0 ha1 hbt (by omega)
              have hpp' := Lib.hid hpp
              have he' := Lib.hid he
              have hbt' := Lib.hid hbt
              clear hmay hpp he hbt
              go_wp2_with (first
                | (go_at_call 10; refine (hask.out _ (by exact (Old.refl wc No).alloc _)).mono ?_; rintro e w2 ⟨rfl, hS3, hO3⟩; have hS3' := Lib.hid hS3; have hI3 := Lib.hid ((hO3.block I (by rw [al_size]; exact Nat.lt_succ_of_lt (lt_of_heap hI.out)) (fun e => by subst e; obtain ⟨_, _, _, _, _, _, hR⟩ := hS2'.out.rep; exact absurd (Tag.inj ⟨_, hI.out⟩ hR.bus.tag) (by decide))).trans ((al_old (lt_of_heap hI.out)).trans hI.out)); have hA := Lib.hid ((hO3.block wc.heap.size (by rw [al_size]; omega) (fun e => by omega)).trans al_new); obtain ⟨⟨a0, a1, a2, a3, a4, a5, a6, a7⟩, _⟩ := blk8 hA.out; clear hS3 hO3)
                | (go_at_call 7; refine (hsv.out _).mono ?_; rintro e w3 ⟨dv, rfl, hrd, ho3⟩; obtain ⟨⟨rb, rc, rfl, hxd⟩, hyd⟩ := hrd; have hrd' := Lib.hid (show RdS w3 (.slice rb (servedD a.addr a.kind (8 * a.beats).toNat).length rc) (servedD a.addr a.kind (8 * a.beats).toNat) from ⟨⟨rb, rc, rfl, hxd⟩, hyd⟩); clear hxd hyd; have hS4' := Lib.hid (hS3'.out.no ho3); have hI4 := Lib.hid ((ho3.block I (lt_of_heap hI3.out) (fun h => h)).trans hI3.out); have hA4 := Lib.hid ((ho3.block _ (lt_of_heap hA.out) (fun h => h)).trans hA.out); clear ho3 a0 a1 a2 a3 a4 a5 a6 a7))
              have hz4 : Hid (Old w3 (w3.alloc (.cells #[.int .i64 0, .int .i64 0, .slice rb (servedD a.addr a.kind (8 * a.beats).toNat).length rc, .bool (oddP a.addr)] 43)) No) := (Old.refl w3 No).alloc _
              have hR4 : Hid ((w3.alloc (.cells #[.int .i64 0, .int .i64 0, .slice rb (servedD a.addr a.kind (8 * a.beats).toNat).length rc, .bool (oddP a.addr)] 43)).heap[w3.heap.size]? = some (.cells #[.int .i64 0, .int .i64 0, .slice rb (servedD a.addr a.kind (8 * a.beats).toNat).length rc, .bool (oddP a.addr)] 43 (0, 0))) := al_new
              generalize w3.alloc (.cells #[.int .i64 0, .int .i64 0, .slice rb (servedD a.addr a.kind (8 * a.beats).toNat).length rc, .bool (oddP a.addr)] 43) = w4 at hz4 hR4 ⊢
              have hA5 := Lib.hid ((hz4.out.block _ (lt_of_heap hA4.out) (fun h => h)).trans hA4.out)
              have hI5 := Lib.hid ((hz4.out.block _ (lt_of_heap hI4.out) (fun h => h)).trans hI4.out)
              have hS5 := Lib.hid (hS4'.out.no hz4.out)
              have hrd5 := Lib.hid (hrd'.out.on hz4.out (fun _ _ h => h))
              obtain ⟨vs, ls, hWa3⟩ := hS4'.out.wants
              have hRo : Hid (some w3.heap.size ≠ (vs p).ownBlock) := fun e => by obtain ⟨_, hl⟩ := (hWa3.q p hp3).tag e; have := lt_of_heap hl; omega
              have hWa' := Lib.hid (hWa3.no hz4.out)
              obtain ⟨wc3, hw1, hw2, hw3⟩ := hWa'.out.blk
              have cW : w4.cell? ⟨Wb, p, none⟩ = some (vs p) := by simp only [World.cell?, hw1]; simpa using hw3 p hp3
              have fW : w4.frozen? ⟨Wb, p, none⟩ = false := by simp [World.frozen?, hw1]
              have hWlt := lt_of_heap hw1
              have hWo : Hid (some Wb ≠ (vs p).ownBlock) := fun e => absurd (Tag.inj ⟨_, hw1⟩ ((hWa'.out.q p hp3).tag e)) (by decide)
              have hAW : Hid (¬ (wc.heap.size = Wb ∨ some wc.heap.size = (vs p).ownBlock)) := by
                rintro (e | e)
                · have h1 := hA5.out; rw [e, hw1] at h1; cases h1
                · exact absurd (Tag.inj ⟨_, hA5.out⟩ ((hWa'.out.q p hp3).tag e)) (by decide)
              have hRW : Hid (¬ (w3.heap.size = Wb ∨ some w3.heap.size = (vs p).ownBlock)) := by
                rintro (e | e)
                · have h1 := hR4.out; rw [e, hw1] at h1; cases h1
                · exact hRo.out e
              have hIW : Hid (¬ (I = Wb ∨ some I = (vs p).ownBlock)) := by
                rintro (e | e)
                · have h1 := hI5.out; rw [e, hw1] at h1; cases h1
                · exact absurd (Tag.inj ⟨_, hI5.out⟩ ((hWa'.out.q p hp3).tag e)) (by decide)
              have hSx : Hid (∀ w1, Old w4 w1 (fun b => b = Wb ∨ some b = (vs p).ownBlock) → (w1.cell? ⟨wc.heap.size, 0, none⟩ = some (.int .i64 ((p : Nat) : Int)) ∧ w1.cell? ⟨wc.heap.size, 1, none⟩ = some (.int .i64 a.id) ∧ w1.cell? ⟨w3.heap.size, 2, none⟩ = some (.slice rb (servedD a.addr a.kind (8 * a.beats).toNat).length rc) ∧ w1.cell? ⟨w3.heap.size, 3, none⟩ = some (.bool (oddP a.addr)))) := fun w1 ho =>
                have g1 := blk8 ((ho.block _ (lt_of_heap hA5.out) hAW.out).trans hA5.out)
                have g2 := blk4 ((ho.block _ (lt_of_heap hR4.out) hRW.out).trans hR4.out)
                ⟨g1.1.1, g1.1.2.1, g2.1.2.2.1, g2.1.2.2.2⟩
              have hx5 : Hid (Old w4 ((w4.alloc (.cells #[.int .i64 ((p : Nat) : Int), .int .i64 a.id, .slice rb (servedD a.addr a.kind (8 * a.beats).toNat).length rc, .bool (oddP a.addr)] 43)).drew) No) := ((Old.refl w4 No).alloc _).drew
              have hWx := Lib.hid (hWa'.out.no hx5.out)
              have hls : (ls p).length ≤ 1000 := by
                have h1 := (hWa'.out.rp p hp3).1
                have h2 := hF'.out.q4 p hp3
                have h3 := hF'.out.w4
                rw [h1]
                unfold expect ofPort
                have h4 := List.length_filter_le (fun y : WayA => y.port == (p : Int)) M.W
                simp only [List.length_append, List.length_map]
                omega
              clear hw1 hw2 hw3 hWa3
              refine wp_region_noPanic ?_
              refine wp_region_held_drew (S := (fun w' => w'.cell? ⟨wc.heap.size, 0, none⟩ = some (.int .i64 ((p : Nat) : Int)) ∧ w'.cell? ⟨wc.heap.size, 1, none⟩ = some (.int .i64 a.id) ∧ w'.cell? ⟨w3.heap.size, 2, none⟩ = some (.slice rb (servedD a.addr a.kind (8 * a.beats).toNat).length rc) ∧ w'.cell? ⟨w3.heap.size, 3, none⟩ = some (.bool (oddP a.addr)))) (by kernel_rfl) (hSx.out _ (Old.refl w4 _).drew) (fun hHeld => ?_)
              refine wpAnyH_take2 (i := 0) (v := .pointer (some ⟨wc.heap.size, 0, none⟩)) (by kernel_rfl) (by kernel_rfl) (by kernel_rfl) (fun _ _ _ _ _ h => h) (by kernel_rfl) hHeld ?_
              intro oi hoi
              cases hoi
              refine ⟨Or.inl ⟨by rfl, ?_⟩, ?_⟩
              · intro w hSw; (try dsimp only at hSw); go_simp
              try simp only [Act.put, List.setIfInBounds_toArray, List.set_cons_zero, List.set_cons_succ]
              refine wpAnyH_take2 (i := 1) (v := .int .i64 ((p : Nat) : Int)) (by kernel_rfl) (by kernel_rfl) (by kernel_rfl) (fun _ _ _ _ _ h => h) (by kernel_rfl) hHeld ?_
              intro oi hoi
              cases hoi
              refine ⟨Or.inl ⟨by rfl, ?_⟩, ?_⟩
              · intro w hSw; (try dsimp only at hSw); go_simp
              try simp only [Act.put, List.setIfInBounds_toArray, List.set_cons_zero, List.set_cons_succ]
              refine wpAnyH_take2 (i := 2) (v := .pointer (some ⟨wc.heap.size, 0, none⟩)) (by kernel_rfl) (by kernel_rfl) (by kernel_rfl) (fun _ _ _ _ _ h => h) (by kernel_rfl) hHeld ?_
              intro oi hoi
              cases hoi
              refine ⟨Or.inl ⟨by rfl, ?_⟩, ?_⟩
              · intro w hSw; (try dsimp only at hSw); go_simp
              try simp only [Act.put, List.setIfInBounds_toArray, List.set_cons_zero, List.set_cons_succ]
              refine wpAnyH_take2 (i := 3) (v := .int .i64 ((p : Nat) : Int)) (by kernel_rfl) (by kernel_rfl) (by kernel_rfl) (fun _ _ _ _ _ h => h) (by kernel_rfl) hHeld ?_
              intro oi hoi
              cases hoi
              refine ⟨Or.inl ⟨by rfl, ?_⟩, ?_⟩
              · intro w hSw; (try dsimp only at hSw); go_simp
              try simp only [Act.put, List.setIfInBounds_toArray, List.set_cons_zero, List.set_cons_succ]
              refine wpAnyH_take2 (i := 4) (v := .pointer (some ⟨Wb, p, none⟩)) (by kernel_rfl) (by kernel_rfl) (by kernel_rfl) (fun _ _ _ _ _ h => h) (by kernel_rfl) hHeld ?_
              intro oi hoi
              cases hoi
              refine ⟨Or.inl ⟨by rfl, ?_⟩, ?_⟩
              · intro w hSw; (try dsimp only at hSw); go_simp
              try simp only [Act.put, List.setIfInBounds_toArray, List.set_cons_zero, List.set_cons_succ]
              refine wpAnyH_take2 (i := 6) (v := .pointer (some ⟨wc.heap.size, 0, none⟩)) (by kernel_rfl) (by kernel_rfl) (by kernel_rfl) (fun _ _ _ _ _ h => h) (by kernel_rfl) hHeld ?_
              intro oi hoi
              cases hoi
              refine ⟨Or.inl ⟨by rfl, ?_⟩, ?_⟩
              · intro w hSw; (try dsimp only at hSw); go_simp
              try simp only [Act.put, List.setIfInBounds_toArray, List.set_cons_zero, List.set_cons_succ]
              refine wpAnyH_take2 (i := 7) (v := .int .i64 ((p : Nat) : Int)) (by kernel_rfl) (by kernel_rfl) (by kernel_rfl) (fun _ _ _ _ _ h => h) (by kernel_rfl) hHeld ?_
              intro oi hoi
              cases hoi
              refine ⟨Or.inl ⟨by rfl, ?_⟩, ?_⟩
              · intro w hSw; (try dsimp only at hSw); go_simp
              try simp only [Act.put, List.setIfInBounds_toArray, List.set_cons_zero, List.set_cons_succ]
              refine wpAnyH_take2 (i := 8) (v := .pointer (some ⟨wc.heap.size, 1, none⟩)) (by kernel_rfl) (by kernel_rfl) (by kernel_rfl) (fun _ _ _ _ _ h => h) (by kernel_rfl) hHeld ?_
              intro oi hoi
              cases hoi
              refine ⟨Or.inl ⟨by rfl, ?_⟩, ?_⟩
              · intro w hSw; (try dsimp only at hSw); go_simp
              try simp only [Act.put, List.setIfInBounds_toArray, List.set_cons_zero, List.set_cons_succ]
              refine wpAnyH_take2 (i := 9) (v := .int .i64 a.id) (by kernel_rfl) (by kernel_rfl) (by kernel_rfl) (fun _ _ _ _ _ h => h) (by kernel_rfl) hHeld ?_
              intro oi hoi
              cases hoi
              refine ⟨Or.inl ⟨by rfl, ?_⟩, ?_⟩
              · intro w hSw; (try dsimp only at hSw); go_simp
              try simp only [Act.put, List.setIfInBounds_toArray, List.set_cons_zero, List.set_cons_succ]
              refine wpAnyH_take2 (i := 10) (v := .pointer (some ⟨w3.heap.size, 2, none⟩)) (by kernel_rfl) (by kernel_rfl) (by kernel_rfl) (fun _ _ _ _ _ h => h) (by kernel_rfl) hHeld ?_
              intro oi hoi
              cases hoi
              refine ⟨Or.inl ⟨by rfl, ?_⟩, ?_⟩
              · intro w hSw; (try dsimp only at hSw); go_simp
              try simp only [Act.put, List.setIfInBounds_toArray, List.set_cons_zero, List.set_cons_succ]
              refine wpAnyH_take2 (i := 11) (v := .slice rb (servedD a.addr a.kind (8 * a.beats).toNat).length rc) (by kernel_rfl) (by kernel_rfl) (by kernel_rfl) (fun _ _ _ _ _ h => h) (by kernel_rfl) hHeld ?_
              intro oi hoi
              cases hoi
              refine ⟨Or.inl ⟨by rfl, ?_⟩, ?_⟩
              · intro w hSw; (try dsimp only at hSw); go_simp
              try simp only [Act.put, List.setIfInBounds_toArray, List.set_cons_zero, List.set_cons_succ]
              refine wpAnyH_take2 (i := 12) (v := .pointer (some ⟨w3.heap.size, 3, none⟩)) (by kernel_rfl) (by kernel_rfl) (by kernel_rfl) (fun _ _ _ _ _ h => h) (by kernel_rfl) hHeld ?_
              intro oi hoi
              cases hoi
              refine ⟨Or.inl ⟨by rfl, ?_⟩, ?_⟩
              · intro w hSw; (try dsimp only at hSw); go_simp
              try simp only [Act.put, List.setIfInBounds_toArray, List.set_cons_zero, List.set_cons_succ]
              refine wpAnyH_take2 (i := 13) (v := .bool (oddP a.addr)) (by kernel_rfl) (by kernel_rfl) (by kernel_rfl) (fun _ _ _ _ _ h => h) (by kernel_rfl) hHeld ?_
              intro oi hoi
              cases hoi
              refine ⟨Or.inl ⟨by rfl, ?_⟩, ?_⟩
              · intro w hSw; (try dsimp only at hSw); go_simp
              try simp only [Act.put, List.setIfInBounds_toArray, List.set_cons_zero, List.set_cons_succ]
              refine wpAnyH_take2 (i := 14) (v := .agg #[.int .i64 ((p : Nat) : Int), .int .i64 a.id, .slice rb (servedD a.addr a.kind (8 * a.beats).toNat).length rc, .bool (oddP a.addr)]) (by kernel_rfl) (by kernel_rfl) (by kernel_rfl) (fun _ _ _ _ _ h => h) (by kernel_rfl) hHeld ?_
              intro oi hoi
              cases hoi
              refine ⟨Or.inl ⟨by rfl, ?_⟩, ?_⟩
              · intro w hSw; (try dsimp only at hSw); go_simp
              try simp only [Act.put, List.setIfInBounds_toArray, List.set_cons_zero, List.set_cons_succ]
              refine wpAnyH_ready (rs := [5, 15]) (by kernel_rfl) (by simp) ?_
              refine AllReadyH.cons2 (by kernel_rfl) (fun o ho K hK => ?_) (AllReadyH.cons2 (by kernel_rfl) (fun o ho K hK => ?_) AllReadyH.nil)
              · cases ho
                go_simp
                refine hK.out _ _ ?_ (fun hHeld => ?_)
                · (try dsimp only); (refine hSx.out _ ?_ <;> (repeat' first | exact (Old.refl w4 _).drew | exact ((Old.refl w4 _).alloc _).drew | exact Old.refl _ _ | exact hO6.out | refine Old.setCell ?_ _ (.inr (.inl rfl)) | refine Old.alloc ?_ _ | refine Old.drew ?_))
                clear hK K
                try simp only [Act.put, List.setIfInBounds_toArray, List.set_cons_zero, List.set_cons_succ]
                refine wpAnyH_ready (rs := [15]) (by kernel_rfl) (by simp) ?_
                refine AllReadyH.cons2 (by kernel_rfl) (fun o ho K hK => ?_) AllReadyH.nil
                cases ho
                go_simp
                refine hK.out _ _ ?_ (fun hHeld => ?_)
                · (try dsimp only); (refine hSx.out _ ?_ <;> (repeat' first | exact (Old.refl w4 _).drew | exact ((Old.refl w4 _).alloc _).drew | exact Old.refl _ _ | exact hO6.out | refine Old.setCell ?_ _ (.inr (.inl rfl)) | refine Old.alloc ?_ _ | refine Old.drew ?_))
                clear hK K
                try simp only [Act.put, List.setIfInBounds_toArray, List.set_cons_zero, List.set_cons_succ]
                refine wpAnyH_ready (rs := [16]) (by kernel_rfl) (by simp) ?_
                refine AllReadyH.cons2 (by kernel_rfl) (fun o ho K hK => ?_) AllReadyH.nil
                cases ho
                refine step_push (v := vs p) (l := ls p) (x := ⟨0, 0, 0, 0, 0, Option.none, 0, 0, Option.none, 0, 0, 0, 0, 0, (p : Int), a.id, rb, (servedD a.addr a.kind (8 * a.beats).toNat).length, rc, oddP a.addr⟩) rfl (.tmp 79) (.tmp 89) rfl (by simp [Act.eval, Act.put]) (hWx.out.q p hp3) ⟨w4.heap.size, 0, none⟩ 1 (by simp [Act.eval, Act.put]) (World.news_of_block al_new) hls ?_; intro v' w6 hpu; obtain ⟨vb6, vc6, rfl⟩ := hpu.1.form; have hpu' := Lib.hid hpu; have hO6 := Lib.hid (hx5.out.no.trans (hpu.2.1.weak fun _ _ h => .inr h) : Old w4 w6 (fun b => b = Wb ∨ some b = (vs p).ownBlock)); have hWb6 := Lib.hid ((hpu.2.1.block Wb (Nat.lt_of_lt_of_le hWlt hx5.out.size) (fun e => hWo.out e)).trans (hx5.out.block Wb hWlt (fun h => h))); have cW6 := (World.cell?_of_block (a := ⟨Wb, p, none⟩) hWb6.out).trans cW; have fW6 := (World.frozen?_of_block (a := ⟨Wb, p, none⟩) hWb6.out).trans fW; clear hpu
                refine hK.out _ _ ?_ (fun hHeld => ?_)
                · (try dsimp only); (refine hSx.out _ ?_ <;> (repeat' first | exact (Old.refl w4 _).drew | exact ((Old.refl w4 _).alloc _).drew | exact Old.refl _ _ | exact hO6.out | refine Old.setCell ?_ _ (.inr (.inl rfl)) | refine Old.alloc ?_ _ | refine Old.drew ?_))
                clear hK K
                try simp only [Act.put, List.setIfInBounds_toArray, List.set_cons_zero, List.set_cons_succ]
                refine wpAnyH_ready (rs := [17]) (by kernel_rfl) (by simp) ?_
                refine AllReadyH.cons2 (by kernel_rfl) (fun o ho K hK => ?_) AllReadyH.nil
                cases ho
                go_simp
                refine hK.out _ _ ?_ (fun hHeld => ?_)
                · (try dsimp only); (refine hSx.out _ ?_ <;> (repeat' first | exact (Old.refl w4 _).drew | exact ((Old.refl w4 _).alloc _).drew | exact Old.refl _ _ | exact hO6.out | refine Old.setCell ?_ _ (.inr (.inl rfl)) | refine Old.alloc ?_ _ | refine Old.drew ?_))
                clear hK K
                try simp only [Act.put, List.setIfInBounds_toArray, List.set_cons_zero, List.set_cons_succ]
                refine wpAnyH_ready (rs := [18]) (by kernel_rfl) (by simp) ?_
                refine AllReadyH.cons2 (by kernel_rfl) (fun o ho K hK => ?_) AllReadyH.nil
                cases ho
                go_simp
                refine hK.out _ _ ?_ (fun hHeld => ?_)
                · (try dsimp only); (refine hSx.out _ ?_ <;> (repeat' first | exact (Old.refl w4 _).drew | exact ((Old.refl w4 _).alloc _).drew | exact Old.refl _ _ | exact hO6.out | refine Old.setCell ?_ _ (.inr (.inl rfl)) | refine Old.alloc ?_ _ | refine Old.drew ?_))
                clear hK K
                try simp only [Act.put, List.setIfInBounds_toArray, List.set_cons_zero, List.set_cons_succ]
                refine wpAnyH_done (by kernel_rfl) ?_ _
                refine NoPanic.normal ?_
                have hso6 : ∀ o, Soft w4 o → ¬ (o = Wb ∨ some o = (vs p).ownBlock) := fun o hs e => by
                  rcases e with rfl | e
                  · obtain ⟨c, hc, _⟩ := hWa'.out.blk; exact soft_not hs ⟨_, hc⟩ (by decide) (by decide)
                  · exact soft_not hs ((hWa'.out.q p hp3).tag e) (by decide) (by decide)
                have hr6 : All2 (RpR w6) (ls p ++ [⟨0, 0, 0, 0, 0, Option.none, 0, 0, Option.none, 0, 0, 0, 0, 0, (p : Int), a.id, rb, (servedD a.addr a.kind (8 * a.beats).toNat).length, rc, oddP a.addr⟩]) (expect M p ++ [a.give]) :=
                  ((hWa'.out.rp p hp3).mono fun x y h => h.on hO6.out hso6).snoc ⟨hpp'.out.symm, rfl, hrd5.out.on hO6.out hso6, rfl⟩
                have hput := Sit4.put (hS5.out.no hx5.out) hWx.out hp3 hpu'.out.2.1 hpu'.out.1 hpu'.out.2.2 hr6
                have hEq : setN (fun p => expect M p) p (expect M p ++ [a.give]) = (fun p => expect (M.ask a) p) := by
                  funext j
                  rw [expect_ask]
                  by_cases e : j = p
                  · subst e
                    rw [setN_same, if_pos ⟨he'.out, hpp'.out⟩]
                  · rw [setN_other _ _ e, if_neg (fun h => e (by have h2 := h.2; rw [hpp'.out] at h2; omega))]
                    simp
                rw [hEq] at hput
                simp only [List.length_append, List.length_singleton] at hput
                have hputA := Lib.hid hput.1
                have hputI := Lib.hid ((hput.2.block I (Nat.lt_of_lt_of_le (lt_of_heap hI5.out) hx5.out.size) hIW.out).trans ((hx5.out.block I (lt_of_heap hI5.out) (fun h => h)).trans hI5.out))
                clear hput hr6 hEq
                go_wp2
                go_meet
                exact ⟨k + 1, M.ask a, by go_num, by have := hkk.out; omega, hputA.out.no (by first | exact Old.refl _ _ | exact (Old.refl _ _).drew), hF'.out.ask, fun h => by have := hkk.out; omega, hBy'.out.ask, hputI.out⟩
              · cases ho
                go_simp
                refine hK.out _ _ ?_ (fun hHeld => ?_)
                · (try dsimp only); (refine hSx.out _ ?_ <;> (repeat' first | exact (Old.refl w4 _).drew | exact ((Old.refl w4 _).alloc _).drew | exact Old.refl _ _ | exact hO6.out | refine Old.setCell ?_ _ (.inr (.inl rfl)) | refine Old.alloc ?_ _ | refine Old.drew ?_))
                clear hK K
                try simp only [Act.put, List.setIfInBounds_toArray, List.set_cons_zero, List.set_cons_succ]
                refine wpAnyH_ready (rs := [5]) (by kernel_rfl) (by simp) ?_
                refine AllReadyH.cons2 (by kernel_rfl) (fun o ho K hK => ?_) AllReadyH.nil
                cases ho
                go_simp
                refine hK.out _ _ ?_ (fun hHeld => ?_)
                · (try dsimp only); (refine hSx.out _ ?_ <;> (repeat' first | exact (Old.refl w4 _).drew | exact ((Old.refl w4 _).alloc _).drew | exact Old.refl _ _ | exact hO6.out | refine Old.setCell ?_ _ (.inr (.inl rfl)) | refine Old.alloc ?_ _ | refine Old.drew ?_))
                clear hK K
                try simp only [Act.put, List.setIfInBounds_toArray, List.set_cons_zero, List.set_cons_succ]
                refine wpAnyH_ready (rs := [16]) (by kernel_rfl) (by simp) ?_
                refine AllReadyH.cons2 (by kernel_rfl) (fun o ho K hK => ?_) AllReadyH.nil
                cases ho
                refine step_push (v := vs p) (l := ls p) (x := ⟨0, 0, 0, 0, 0, Option.none, 0, 0, Option.none, 0, 0, 0, 0, 0, (p : Int), a.id, rb, (servedD a.addr a.kind (8 * a.beats).toNat).length, rc, oddP a.addr⟩) rfl (.tmp 79) (.tmp 89) rfl (by simp [Act.eval, Act.put]) (hWx.out.q p hp3) ⟨w4.heap.size, 0, none⟩ 1 (by simp [Act.eval, Act.put]) (World.news_of_block al_new) hls ?_; intro v' w6 hpu; obtain ⟨vb6, vc6, rfl⟩ := hpu.1.form; have hpu' := Lib.hid hpu; have hO6 := Lib.hid (hx5.out.no.trans (hpu.2.1.weak fun _ _ h => .inr h) : Old w4 w6 (fun b => b = Wb ∨ some b = (vs p).ownBlock)); have hWb6 := Lib.hid ((hpu.2.1.block Wb (Nat.lt_of_lt_of_le hWlt hx5.out.size) (fun e => hWo.out e)).trans (hx5.out.block Wb hWlt (fun h => h))); have cW6 := (World.cell?_of_block (a := ⟨Wb, p, none⟩) hWb6.out).trans cW; have fW6 := (World.frozen?_of_block (a := ⟨Wb, p, none⟩) hWb6.out).trans fW; clear hpu
                refine hK.out _ _ ?_ (fun hHeld => ?_)
                · (try dsimp only); (refine hSx.out _ ?_ <;> (repeat' first | exact (Old.refl w4 _).drew | exact ((Old.refl w4 _).alloc _).drew | exact Old.refl _ _ | exact hO6.out | refine Old.setCell ?_ _ (.inr (.inl rfl)) | refine Old.alloc ?_ _ | refine Old.drew ?_))
                clear hK K
                try simp only [Act.put, List.setIfInBounds_toArray, List.set_cons_zero, List.set_cons_succ]
                refine wpAnyH_ready (rs := [17]) (by kernel_rfl) (by simp) ?_
                refine AllReadyH.cons2 (by kernel_rfl) (fun o ho K hK => ?_) AllReadyH.nil
                cases ho
                go_simp
                refine hK.out _ _ ?_ (fun hHeld => ?_)
                · (try dsimp only); (refine hSx.out _ ?_ <;> (repeat' first | exact (Old.refl w4 _).drew | exact ((Old.refl w4 _).alloc _).drew | exact Old.refl _ _ | exact hO6.out | refine Old.setCell ?_ _ (.inr (.inl rfl)) | refine Old.alloc ?_ _ | refine Old.drew ?_))
                clear hK K
                try simp only [Act.put, List.setIfInBounds_toArray, List.set_cons_zero, List.set_cons_succ]
                refine wpAnyH_ready (rs := [18]) (by kernel_rfl) (by simp) ?_
                refine AllReadyH.cons2 (by kernel_rfl) (fun o ho K hK => ?_) AllReadyH.nil
                cases ho
                go_simp
                refine hK.out _ _ ?_ (fun hHeld => ?_)
                · (try dsimp only); (refine hSx.out _ ?_ <;> (repeat' first | exact (Old.refl w4 _).drew | exact ((Old.refl w4 _).alloc _).drew | exact Old.refl _ _ | exact hO6.out | refine Old.setCell ?_ _ (.inr (.inl rfl)) | refine Old.alloc ?_ _ | refine Old.drew ?_))
                clear hK K
                try simp only [Act.put, List.setIfInBounds_toArray, List.set_cons_zero, List.set_cons_succ]
                refine wpAnyH_done (by kernel_rfl) ?_ _
                refine NoPanic.normal ?_
                have hso6 : ∀ o, Soft w4 o → ¬ (o = Wb ∨ some o = (vs p).ownBlock) := fun o hs e => by
                  rcases e with rfl | e
                  · obtain ⟨c, hc, _⟩ := hWa'.out.blk; exact soft_not hs ⟨_, hc⟩ (by decide) (by decide)
                  · exact soft_not hs ((hWa'.out.q p hp3).tag e) (by decide) (by decide)
                have hr6 : All2 (RpR w6) (ls p ++ [⟨0, 0, 0, 0, 0, Option.none, 0, 0, Option.none, 0, 0, 0, 0, 0, (p : Int), a.id, rb, (servedD a.addr a.kind (8 * a.beats).toNat).length, rc, oddP a.addr⟩]) (expect M p ++ [a.give]) :=
                  ((hWa'.out.rp p hp3).mono fun x y h => h.on hO6.out hso6).snoc ⟨hpp'.out.symm, rfl, hrd5.out.on hO6.out hso6, rfl⟩
                have hput := Sit4.put (hS5.out.no hx5.out) hWx.out hp3 hpu'.out.2.1 hpu'.out.1 hpu'.out.2.2 hr6
                have hEq : setN (fun p => expect M p) p (expect M p ++ [a.give]) = (fun p => expect (M.ask a) p) := by
                  funext j
                  rw [expect_ask]
                  by_cases e : j = p
                  · subst e
                    rw [setN_same, if_pos ⟨he'.out, hpp'.out⟩]
                  · rw [setN_other _ _ e, if_neg (fun h => e (by have h2 := h.2; rw [hpp'.out] at h2; omega))]
                    simp
                rw [hEq] at hput
                simp only [List.length_append, List.length_singleton] at hput
                have hputA := Lib.hid hput.1
                have hputI := Lib.hid ((hput.2.block I (Nat.lt_of_lt_of_le (lt_of_heap hI5.out) hx5.out.size) hIW.out).trans ((hx5.out.block I (lt_of_heap hI5.out) (fun h => h)).trans hI5.out))
                clear hput hr6 hEq
                go_wp2
                go_meet
                exact ⟨k + 1, M.ask a, by go_num, by have := hkk.out; omega, hputA.out.no (by first | exact Old.refl _ _ | exact (Old.refl _ _).drew), hF'.out.ask, fun h => by have := hkk.out; omega, hBy'.out.ask, hputI.out⟩
            · obtain ⟨ev, hev⟩ : ∃ ev, M.askE a = ev := ⟨_, rfl⟩
              rw [hev] at hask he
              have hee : ((ev : Int) == 0) = false := by simp [he]
              go_wp2_with (go_at_call 10; refine (hask.out _ (by exact (Old.refl wc No).alloc _)).mono ?_; rintro e w2 ⟨rfl, hS3, hO3⟩; have hS3' := Lib.hid hS3; have hI3 := Lib.hid ((hO3.block I (by rw [al_size]; exact Nat.lt_succ_of_lt (lt_of_heap hI.out)) (fun e => by subst e; obtain ⟨_, _, _, _, _, _, hR⟩ := hS2'.out.rep; exact absurd (Tag.inj ⟨_, hI.out⟩ hR.bus.tag) (by decide))).trans ((al_old (lt_of_heap hI.out)).trans hI.out)); clear hS3 hO3)
              go_meet
              refine ⟨k + 1, M.ask a, by go_num, by have := hkk.out; omega, ?_, hF'.out.ask, fun h => by have := hkk.out; omega, hBy'.out.ask, hI3.out⟩
              have e : (fun p => expect (M.ask a) p) = (fun p => expect M p) := by
                funext p
                rw [expect_ask, if_neg (fun h => he (by rw [← hev]; exact h.1))]
                simp
              rw [e]
              exact hS3'.out
          · have hstay : k = min (t + 1) top := by have := hkk.out; omega
            have hd : decide (k < top) = false := by simp; omega
            simp only [hd]
            go_wp2
            go_meet
            exact ⟨k, M, rfl, hstay, hS2'.out, hF'.out, fun _ => rfl, hBy'.out, hI.out⟩
        case rest =>
          obtain ⟨k1, M1, rfl, hk1, hS3, hF3, hM1, hB3, hI3⟩ := hcut
          have hB3' := Lib.hid hB3
          have hS3' := Lib.hid hS3
          have hF3' := Lib.hid hF3
          have hk1' := Lib.hid hk1
          have hM1' := Lib.hid hM1
          obtain ⟨⟨i0, i1, i2, i3⟩, _⟩ := blk4 hI3
          clear hS3 hF3 hk1 hM1 hI3 hB3
          have htk : Hid (∀ w1, Old wc w1 No → Calls Try.prog 11 #[.pointer (some ⟨B, 0, none⟩), inV (inAt ins t).li (inAt ins t).rx (inAt ins t).dl (inAt ins t).pk] w1 (fun e w' => ∃ v3 out, e = .returned v3 ∧ GivesL w' v3 out ∧ (∀ b, some b = v3.ownBlock → Tag w' b 43 ∧ W.heap.size ≤ b) ∧ All2 (WyR w') out M1.outs ∧ Sit4 W w' B Wb (M1.tick (inAt ins t).dl (inAt ins t).pk) (t + 1) (fun p => expect M1 p))) := fun w1 ho => (hS3'.out.no ho).tick (by omega) (inAt ins t)
          go_wp2_with (go_at_call 11; refine (htk.out _ (by first | exact Old.refl _ _ | exact (Old.refl _ _).drew)).mono ?_; rintro e w5 ⟨v3, out, rfl, hg, htg, hal, hS5⟩; have hg' := Lib.hid hg; obtain ⟨vb3, vc3, rfl, hrd⟩ := hg; have hrd' := Lib.hid hrd; have hal' := Lib.hid hal; have htg' := Lib.hid htg; have hS5' := Lib.hid hS5; clear hS5 hrd hal htg)
          obtain ⟨no, hno⟩ : ∃ no, out.length = no := ⟨_, rfl⟩
          rw [hno]
          have hno' := Lib.hid hno
          have hno4 : no ≤ 4 := by
            have h1 := hal'.out.1
            have h2 := ansW_len M1.W ⟨fun _ => false, [], []⟩
            have h3 := hF3'.out.w4
            have h4 : M1.outs.length = (M1.W.foldl ansWStep ⟨fun _ => false, [], []⟩).out.length := rfl
            simp only [List.length_nil] at h2
            omega
          have hM2 : Hid (∃ M2, M1.tick (inAt ins t).dl (inAt ins t).pk = M2) := ⟨_, rfl⟩
          have hF7 : Hid (Fit ((m : Int) + 1) (M1.tick (inAt ins t).dl (inAt ins t).pk)) := hF3'.out.tick
          have hexp : Hid (∀ p, p < 3 → expect M1 p = (ofPort M1.outs p).map WayA.give ++ expect (M1.tick (inAt ins t).dl (inAt ins t).pk) p) := fun p hp => expect_tick hp hF3'.out
          have hop : Hid (∀ y ∈ M1.outs, ∃ p : Nat, p < 3 ∧ y.port = (p : Int)) := fun y hy => outs_port hS3'.out.ok hy
          have hg0 : Hid (Tag w5 Wb 45) := by obtain ⟨_, _, h⟩ := hS5'.out.wants; obtain ⟨c, hc, _⟩ := h.blk; exact ⟨_, hc⟩
          have hby : Hid (∀ y ∈ M1.outs, ∃ xs, y.data = bytesL xs) := fun y hy => by obtain ⟨z, hz, rfl⟩ := (ansW_parts M1.W).2 y hy; exact hB3'.out z hz
          clear hno i0 i1 i2 i3
          go_wp2
          go_loopw [17] (fun v17 wr => ∃ i, i ≤ no ∧ v17 = .int .i64 ((i : Nat) : Int) ∧ (∃ E, Sit4 W wr B Wb (M1.tick (inAt ins t).dl (inAt ins t).pk) (t + 1) E ∧ ∀ p, p < 3 → E p = (ofPort (M1.outs.drop i) p).map WayA.give ++ expect (M1.tick (inAt ins t).dl (inAt ins t).pk) p) ∧ Old w5 wr (fun b => b = Wb)) (fun v17 _ => no - (intOf v17).toNat)
          case atStart => exact ⟨0, by omega, rfl, ⟨_, hS5'.out, fun p hp => by rw [List.drop_zero]; exact hexp.out p hp⟩, Old.refl _ _⟩
          case round =>
            obtain ⟨i, hi2, rfl, ⟨E, hSE, hE⟩, hOE⟩ := hrel
            have hSE' := Lib.hid hSE
            have hE' := Lib.hid hE
            have hOE' := Lib.hid hOE
            clear hSE hE hOE
            by_cases hin : i < no
            · obtain ⟨x, hx⟩ : ∃ x, out[i]? = some x := ⟨out[i]'(by rw [hno'.out]; exact hin), List.getElem?_eq_getElem _⟩
              have hil : i < M1.outs.length := by rw [← hal'.out.1, hno'.out]; exact hin
              obtain ⟨y, hy⟩ : ∃ y, M1.outs[i]? = some y := ⟨_, List.getElem?_eq_getElem hil⟩
              have hxy := hal'.out.2 i x y hx hy
              obtain ⟨p, hp3, hyp⟩ := hop.out y (List.mem_of_getElem? hy)
              obtain ⟨xs, hxs⟩ := hby.out y (List.mem_of_getElem? hy)
              have hdrop : M1.outs.drop i = y :: M1.outs.drop (i + 1) := by
                rw [List.drop_eq_getElem_cons hil]
                congr 1
                rw [List.getElem?_eq_getElem hil] at hy
                exact Option.some.inj hy
              have hEp : E p = y.give :: ((ofPort (M1.outs.drop (i + 1)) p).map WayA.give ++ expect (M1.tick (inAt ins t).dl (inAt ins t).pk) p) := by
                rw [hE'.out p hp3, hdrop, ofPort_cons, ofPort_one hyp]
                rfl
              have hEo : Hid (∀ q, q < 3 → q ≠ p → E q = (ofPort (M1.outs.drop (i + 1)) q).map WayA.give ++ expect (M1.tick (inAt ins t).dl (inAt ins t).pk) q) := fun q hq hne => by
                rw [hE'.out q hq, hdrop, ofPort_cons, ofPort_other (by omega)]
                rfl
              obtain ⟨vs, ls, hWa⟩ := hSE'.out.wants
              have hWa' := Lib.hid hWa
              have hrp := hWa.rp p hp3
              rw [hEp] at hrp
              obtain ⟨x1, l1, hl1, hx1, hr1⟩ := hrp.uncons
              have hqp := hWa.q p hp3
              rw [hl1] at hqp
              obtain ⟨qb, qc, hqv⟩ := hqp.form
              rw [hqv] at hqp
              obtain ⟨g, off, rfl, hqn, hqc, hpop, hrow1⟩ := hqp.pop
              obtain ⟨wc3, hw1, hw2, hw3⟩ := hWa.blk
              have cW : wr.cell? ⟨Wb, p, none⟩ = some (.slice (some ⟨g, off, none⟩) (l1.length + 1) qc) := by
                have h := hw3 p hp3
                rw [hqv] at h
                simp only [World.cell?, hw1]
                simpa using h
              have fW : wr.frozen? ⟨Wb, p, none⟩ = false := by simp [World.frozen?, hw1]
              obtain ⟨o, q3, rfl, holt, hrow⟩ := hrd'.out i x hx
              obtain ⟨h43, _⟩ := htg'.out o rfl
              have hoW : ¬ o = Wb := fun e => by
                have h2 := hg0.out
                subst e
                exact absurd (Tag.inj h43 h2) (by decide)
              have hob := hOE'.out.block o holt hoW
              have e0 : wr.cell? ⟨o, q3 + i * 4, none⟩ = some (.int .i64 x.gport) := (World.cell?_of_block hob).trans (hrow 0 _ rfl)
              have e1 : wr.cell? ⟨o, q3 + i * 4 + 1, none⟩ = some (.int .i64 x.gid) := (World.cell?_of_block hob).trans (hrow 1 _ rfl)
              have e2 : wr.cell? ⟨o, q3 + i * 4 + 2, none⟩ = some (.slice x.gb x.gn x.gc) := (World.cell?_of_block hob).trans (hrow 2 _ rfl)
              have e3 : wr.cell? ⟨o, q3 + i * 4 + 3, none⟩ = some (.bool x.gerr) := (World.cell?_of_block hob).trans (hrow 3 _ rfl)
              have f0 : wr.cell? ⟨g, off, none⟩ = some (.int .i64 x1.gport) := hrow1 0 _ rfl
              have f1 : wr.cell? ⟨g, off + 1, none⟩ = some (.int .i64 x1.gid) := hrow1 1 _ rfl
              have f2 : wr.cell? ⟨g, off + 2, none⟩ = some (.slice x1.gb x1.gn x1.gc) := hrow1 2 _ rfl
              have f3 : wr.cell? ⟨g, off + 3, none⟩ = some (.bool x1.gerr) := hrow1 3 _ rfl
              have hxp : x.gport = (p : Int) := hxy.2.2.2.2.1.trans hyp
              have hx1p : x1.gport = (p : Int) := hx1.1.trans hyp
              have hxi : x.gid = x1.gid := hxy.2.2.2.2.2.1.trans hx1.2.1.symm
              have hxe : x.gerr = x1.gerr := hxy.2.2.2.2.2.2.2.trans hx1.2.2.2.symm
              rw [hxp] at e0
              rw [hx1p] at f0
              rw [hxi] at e1
              rw [hxe] at e3
              have hs5 : ∀ o, Soft w5 o → ¬ o = Wb := fun o hs e => by subst e; exact soft_not hs hg0.out (by decide) (by decide)
              have hd1 : RdS wr (.slice x.gb x.gn x.gc) (bytesL xs) := by rw [← hxs]; exact (hxy.2.2.2.2.2.2.1).on hOE'.out hs5
              have hd2 : RdS wr (.slice x1.gb x1.gn x1.gc) (bytesL xs) := by rw [← hxs]; exact hx1.2.2.1
              have hrep : Hid (∀ w1, Old wr w1 No → Calls Try.prog 13 #[replyV (p : Int) x1.gid (.slice x.gb x.gn x.gc) x1.gerr, replyV (p : Int) x1.gid (.slice x1.gb x1.gn x1.gc) x1.gerr] w1 (fun e w' => e = .returned (.bool true) ∧ Old w1 w' No)) := fun w1 ho => reply_calls (hd1.1.on ho (fun _ _ _ _ _ _ h => h)) (hd2.1.on ho (fun _ _ _ _ _ _ h => h))
              have hWlt := lt_of_heap hw1
              have hW1' := Lib.hid hw1
              have hqv' := Lib.hid hqv
              have hl1' := Lib.hid hl1
              have hpop' := Lib.hid hpop
              have hr1' := Lib.hid hr1
              have hp0 : (0 : Int) ≤ (p : Int) := by omega
              have hp1 : (p : Int) < 3 := by omega
              have hpn : ((p : Int) < 0) = False := by simp
              have hpg : ((2 : Int) < (p : Int)) = False := by simp; omega
              have hln0 : (((l1.length : Int) + 1) == 0) = false := by simp; omega
              have hk0 : (0 : Int) ≤ (i : Int) := by omega
              have hk1b : (i : Int) < (no : Int) := by omega
              have hll : (l1.length : Int) + 1 < 1000 := by
                have h1 := (hWa.rp p hp3).1
                rw [hl1, hEp] at h1
                have h2 := hF7.out.q4 p hp3
                have h3 := hF7.out.w4
                have h5 := List.length_filter_le (fun y : WayA => y.port == (p : Int)) (M1.outs.drop (i + 1))
                have h6 := List.length_filter_le (fun y : WayA => y.port == (p : Int)) (M1.tick (inAt ins t).dl (inAt ins t).pk).W
                have h7 := hal'.out.1
                have h8 := hno'.out
                unfold expect ofPort at h1
                simp only [List.length_cons, List.length_append, List.length_map] at h1
                rw [List.length_drop] at h5
                omega
              clear hrow hrow1 hx hy hxy hx1 hd1 hd2 hob hw1 hw2 hw3 hqv hl1 hqp hqn hpop hr1 hrp hWa hEp hdrop hil hxs
              go_wp2
              go_still_tail 23, (by kernel_rfl)
              change wpList _ _ _ _ _ wr.drew
              have hSd : Hid (Old wr wr.drew No) := (Old.refl wr No).drew
              generalize wr.drew = wd at hSd ⊢
              go_wp2_with (go_at_call 13; refine (hrep.out _ hSd.out).mono ?_; rintro e w6 ⟨rfl, ho6⟩; have hO6 := Lib.hid (hSd.out.trans ho6); have hWb6 := Lib.hid (hO6.out.block Wb hWlt (fun h => h)); have cW6 := (World.cell?_of_block (a := ⟨Wb, p, none⟩) hWb6.out).trans cW; have fW6 := (World.frozen?_of_block (a := ⟨Wb, p, none⟩) hWb6.out).trans fW; clear ho6)
              have hn6 : ∀ b, some b = (Value.slice (if qc = 1 then some ⟨g, off, none⟩ else some ⟨g, off + 4, none⟩) l1.length (qc - 1)).ownBlock → some b = (vs p).ownBlock ∨ w6.heap.size ≤ b := fun b hb => .inl (by
                rw [hqv'.out]
                rw [hb]
                split <;> rfl)
              have hput := Sit4.put (w1 := w6) (hSE'.out.no hO6.out) (hWa'.out.no hO6.out) hp3 (Old.refl _ _) ((hpop'.out.pop2).on hO6.out (fun _ _ h => h)) hn6 (hr1'.out.mono fun x y h => h.on hO6.out (fun _ _ h => h))
              have hOw : Old w6 (w6.setCell ⟨Wb, p, none⟩ (.slice (if qc = 1 then some ⟨g, off, none⟩ else some ⟨g, off + 4, none⟩) l1.length (qc - 1))) (fun b => b = Wb) := (Old.refl w6 _).setCell _ (.inr rfl)
              refine ⟨⟨i + 1, by omega, by go_num, ⟨_, hput.1, fun q hq => ?_⟩, (hOE'.out.trans hO6.out.no).trans hOw⟩, by simp [intOf]; omega⟩
              by_cases e : q = p
              · subst e
                rw [setN_same]
              · rw [setN_other _ _ e]
                exact hEo.out q hq e
            · obtain rfl : i = no := by omega
              have hnext : Hid (20 ≤ t + 1 → Drain ((m : Int) + 1) (14 * ((m : Int) + 1) + 1 - (((t + 1 : Nat) : Int) - 20)) (M1.tick (inAt ins t).dl (inAt ins t).pk)) := by
                intro h20
                by_cases h2 : 20 ≤ t
                · have h3 := (hD'.out h2).tick (dl := (inAt ins t).dl) (pk := (inAt ins t).pk) hF'.out
                  have e : 14 * ((m : Int) + 1) + 1 - (((t + 1 : Nat) : Int) - 20) = 14 * ((m : Int) + 1) + 1 - ((t : Int) - 20) - 1 := by omega
                  rw [e, hM1'.out h2]
                  exact h3
                · have e : 14 * ((m : Int) + 1) + 1 - (((t + 1 : Nat) : Int) - 20) = 14 * ((m : Int) + 1) + 1 := by omega
                  rw [e]
                  exact Drain.start hF7.out
              have hlast : ∀ q, q < 3 → expect (M1.tick (inAt ins t).dl (inAt ins t).pk) q = E q := fun q hq => by
                rw [hE'.out q hq, List.drop_eq_nil_of_le (by rw [← hal'.out.1, hno'.out]; exact Nat.le_refl _)]
                rfl
              go_wp2
              exact ⟨⟨t + 1, k1, _, by omega, by go_num, rfl, hk1'.out, hSE'.out.congr hlast, hF7.out, hnext.out, hB3'.out.tick⟩, by simp [intOf]; omega⟩
    · obtain rfl : t = lim := by omega
      have hemp := (hD'.out (by omega)).empty hF'.out (by omega)
      obtain ⟨vs, ls, hWa⟩ := hS'.out.wants
      have hnil : ∀ p, p < 3 → ∃ b c, vs p = .slice b 0 c := fun p hp => by
        have h1 : expect M p = [] := by unfold expect ofPort; rw [hemp.1, hemp.2 p hp]; rfl
        have h2 := (hWa.rp p hp).1
        rw [h1] at h2
        obtain ⟨b, c, hv⟩ := (hWa.q p hp).form
        rw [h2] at hv
        exact ⟨b, c, hv⟩
      obtain ⟨wc3, hw1, hw2, hw3⟩ := hWa.blk
      have cell : ∀ p, p < 3 → wr.cell? ⟨Wb, p, none⟩ = some (vs p) := fun p hp => by simp only [World.cell?, hw1]; simpa using hw3 p hp
      obtain ⟨b0, c0, hv0⟩ := hnil 0 (by omega)
      obtain ⟨b1, c1, hv1⟩ := hnil 1 (by omega)
      obtain ⟨b2, c2, hv2⟩ := hnil 2 (by omega)
      have x0 := cell 0 (by omega)
      have x1 := cell 1 (by omega)
      have x2 := cell 2 (by omega)
      rw [hv0] at x0
      rw [hv1] at x1
      rw [hv2] at x2
      have hbz : Hid (∀ w1, Old wr w1 No → Calls Try.prog 14 #[.pointer (some ⟨B, 0, none⟩)] w1 (fun e w' => e = .returned (.int .i64 0) ∧ Old w1 w' No)) := fun w1 ho => by
        obtain ⟨hd, q, bv, bs, lv, ls', hR⟩ := hS'.out.rep
        refine (busy_calls (hR.no ho)).mono fun e w' ⟨h1, h2⟩ => ⟨?_, h2⟩
        rw [h1, hemp.1]
        rfl
      have hmw : wrap64 (60 * ((m : Int) + 20)) = (t : Int) := by unfold wrap64; omega
      clear hnil cell hw1 hw2 hw3 hWa hemp hv0 hv1 hv2
      go_wp2_with (go_at_call 14; refine (hbz.out _ (by exact Old.refl _ _)).mono ?_; rintro e w6 ⟨rfl, ho6⟩; have hO6 := Lib.hid ho6; clear ho6)
      go_ret
      exact ⟨rfl, hS'.out.old.trans hO6.out⟩
end Go.Proofs.Ytnpgjecifllnaaa
