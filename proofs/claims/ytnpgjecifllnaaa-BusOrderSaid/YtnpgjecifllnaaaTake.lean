/- What is proved here: take. Conditions: the block reads as the bus; its state as it can be. -/
import Derived.Test.YtnpgjecifllnaaaModel
set_option linter.unusedSimpArgs false
set_option linter.unusedVariables false
namespace Go.Proofs.Ytnpgjecifllnaaa
open Go Go.Conc Go.RowKit

abbrev inV (li rx dl pk : Int) : Value := .agg #[.int .i64 li, .int .i64 rx, .int .i64 dl, .int .i64 pk]
/-- Old lists' blocks are of their kinds. -/
theorem own_ne {w : World} {base e size b t : Nat} {v : Value} {n : Nat} {xs : List Value} (h : w.ownsRow base e size v n xs) (ht : Tag w b t) (hne : t ≠ e) : some b ≠ v.ownBlock := by
  obtain ⟨c, hc⟩ := ht
  exact tag_ne h hc hne
theorem Tag.inj {w : World} {b t t' : Nat} (h : Tag w b t) (h' : Tag w b t') : t = t' := by
  obtain ⟨c, hc⟩ := h
  obtain ⟨c', hc'⟩ := h'
  rw [hc] at hc'
  cases hc'
  rfl
theorem soft_not {w : World} {b t : Nat} (h : Soft w b) (ht : Tag w b t) (h5 : t ≠ 5) (h4 : t ≠ 4) : False := (soft_tag h ht).elim h5 h4
theorem Tag.on {w w1 : World} {b t : Nat} {p : Nat → Prop} (h : Tag w b t) (ho : Old w w1 p) (hp : ¬ p b) : Tag w1 b t := by
  obtain ⟨c, hc⟩ := h
  exact ⟨c, (ho.block b (lt_of_heap hc) hp).trans hc⟩
/-- A step more, which may write what has come in between. -/
theorem Upto.more {w w1 w2 : World} {B : Nat} {but but2 cl : Nat → Prop} (h1 : Upto w w1 B but cl) (h2 : Upto w1 w2 B but2 cl) (hb : ∀ b, b < w.heap.size → but2 b → but b) : Upto w w2 B but cl :=
  ⟨⟨Nat.le_trans h1.old.size h2.old.size, h2.old.os.trans h1.old.os, h2.old.output.trans h1.old.output, fun b hlt hn => (h2.old.block b (Nat.lt_of_lt_of_le hlt h1.old.size) (fun h => hn (h.elim .inl fun h => .inr (hb b hlt h)))).trans (h1.old.block b hlt hn)⟩,
   fun j hj => (h2.cell j hj).trans (h1.cell j hj), fun o n h => h2.there o n (h1.there o n h), fun t h => h2.tag t (h1.tag t h)⟩

def RetTake (B : Nat) (s : Sv) (n : Nat) (M : Mst) (dl pk : Int) (bv lv : Value) (w : World) (e : Ending) (w' : World) : Prop :=
  e = .returned (.tuple #[]) ∧ ∃ hd' q' bv' bs' lv' ls', RepX w' B s.val (M.take dl pk) hd' q' bv' bs' lv' ls' ∧ s.st (n + if (M.pick pk).isSome = true then 1 else 0) w' ∧ Old w w' (fun b => b = B ∨ s.but b ∨ some b = bv.ownBlock ∨ some b = lv.ownBlock) ∧
    (∀ b, some b = bv'.ownBlock → some b = bv.ownBlock ∨ w.heap.size ≤ b) ∧ (∀ b, some b = lv'.ownBlock → some b = lv.ownBlock ∨ w.heap.size ≤ b)

set_option maxHeartbeats 2000000 in
set_option maxRecDepth 100000 in
/-- None is taken. -/
theorem take_none {B n : Nat} {s : Sv} {M : Mst} {hd : Nat → Nat} {q : Nat → List It} {bv lv : Value} {bs : List It} {ls : List Lg} {li rx dl pk : Int} {w : World} (h : RepX w B s.val M hd q bv bs lv ls) (hst : s.st n w) (hp : M.pick pk = none) :
    Calls Try.prog 35 #[.pointer (some ⟨B, 0, none⟩), inV li rx dl pk] w (RetTake B s n M dl pk bv lv w) := by
  have hlt := h.bus.lt
  have hc := choose_eq h.wt pk
  have hlen : bs.length = M.W.length := h.wy.1
  have hfew := h.bus.few
  have hfin : Hid (∀ w1, Old w w1 No → RetTake B s n M dl pk bv lv w (.returned (.tuple #[])) w1) := fun w1 ho => by
    refine ⟨rfl, hd, q, bv, bs, lv, ls, ?_, ?_, ho.no, fun b hb => .inl hb, fun b hb => .inl hb⟩
    · have : M.take dl pk = M := by unfold Mst.take; rw [hp]
      rw [this]
      exact h.no ho
    · rw [hp]
      exact Sv.st_on (s := s) (n := n) hst ho (fun _ _ h => h)
  obtain ⟨base, cap, rfl, _⟩ := h.bus.busy
  have c176 := h.bus.busyc
  have hcl : Hid (∀ w1, Old w w1 No → Calls Try.prog 45 #[.pointer (some ⟨B, 0, none⟩), .int .i64 pk] w1 (RetCh (chooseM M.Q pk) w1)) := fun w1 ho => hc ▸ choose_calls (fun k hk => (h.bus.ring k hk).on ho hlt (fun h => h))
  have hpn := pick_none hp
  obtain ⟨nb, hnb⟩ : ∃ nb, bs.length = nb := ⟨_, rfl⟩
  rw [hnb] at c176 hlen hfew
  rw [← hlen] at hpn
  clear hc h hst hp hnb hlen
  by_cases h4 : 4 ≤ nb
  · obtain rfl : nb = 4 := by omega
    obtain ⟨c, hcc⟩ : ∃ c, chooseM M.Q pk = c := ⟨_, rfl⟩
    rw [hcc] at hcl
    clear hpn hcc
    go_enter Try.func35, Try.ntmps35
    go_wp2_with (go_at_call 45; refine (hcl.out _ (by exact (Old.refl w No).alloc _)).mono ?_; rintro e w1 ⟨rfl, hsm⟩; have ho1' := Lib.hid (((Old.refl w No).alloc _).trans hsm.old); clear hsm; have c176 := (ho1'.out.cell (o := 176) hlt (fun h => h)).trans c176)
    go_end0
    exact hfin.out _ ho1'.out
  · obtain ⟨hcc, _⟩ := hpn.resolve_left h4
    rw [hcc] at hcl
    have hnlt : ((4 : Int) ≤ (nb : Int)) = False := by simp; omega
    clear hcc
    go_enter Try.func35, Try.ntmps35
    go_wp2_with (go_at_call 45; refine (hcl.out _ (by exact (Old.refl w No).alloc _)).mono ?_; rintro e w1 ⟨rfl, hsm⟩; have ho1' := Lib.hid (((Old.refl w No).alloc _).trans hsm.old); clear hsm; have c176 := (ho1'.out.cell (o := 176) hlt (fun h => h)).trans c176)
    go_end0
    exact hfin.out _ ho1'.out

theorem wait_of {w : World} {q : Nat → List It} {Q : Nat → List (AskA × Int)} {k : Nat} {a : AskA × Int} {r : List (AskA × Int)} (h : All2 (WtR w) (q k) (Q k)) (e : Q k = a :: r) : ∃ x r', q k = x :: r' ∧ WtR w x a ∧ All2 (WtR w) r' r := by rw [e] at h; exact h.uncons
theorem ones_served (ad kd : Int) (m : Nat) : Ones (servedD ad kd m) := by
  unfold servedD
  split
  · intro u hu; simp at hu
  · split
    · intro u hu; simp at hu
    · intro u hu
      simp only [bytesAt, List.mem_map] at hu
      obtain ⟨i, _, rfl⟩ := hu
      rfl
theorem len_served (ad kd : Int) (m : Nat) : (servedD ad kd m).length ≤ m := by
  unfold servedD bytesAt
  split
  · simp
  · split <;> simp

theorem own_slice2 {w : World} {base e size : Nat} {v : Value} {n : Nat} {xs : List Value} (h : w.ownsRow base e size v n xs) : ∃ b c, v = .slice b n c := by
  rcases h.2 with ⟨rfl, h0⟩ | ⟨g, cap, cur, rfl, _⟩
  · exact ⟨_, _, by rw [h0]⟩
  · exact ⟨_, _, rfl⟩
theorem own_lt {w : World} {base e size b : Nat} {v : Value} {n : Nat} {xs : List Value} (h : w.ownsRow base e size v n xs) (hb : some b = v.ownBlock) : b < w.heap.size := by
  obtain ⟨c, hc⟩ := own_tag h hb.symm
  exact lt_of_heap hc
theorem LgR.of {w : World} {a : AskA} {db sb : Option Addr} {dc sc : Nat} (h1 : RdS w (.slice db a.ds.length dc) a.ds) (h2 : RdS w (.slice sb a.ss.length sc) a.ss) : LgR w ⟨a.port, a.id, a.kind, a.addr, a.beats, db, a.ds.length, dc, sb, a.ss.length, sc, a.size⟩ a := ⟨rfl, rfl, rfl, rfl, rfl, rfl, h1, h2⟩

/-- The state behind it, put together. -/
theorem take_rep {w w3 w9 : World} {B n k : Nat} {s : Sv} {M : Mst} {hd : Nat → Nat} {q : Nat → List It} {bv lv bv' lv' : Value} {bs : List It} {ls : List Lg} {r' : List It} {a : AskA × Int} {r : List (AskA × Int)} {x : It} {g : Lg} {dl : Int}
    (h : RepX w B s.val M hd q bv bs lv ls) (hst : s.st n w) (hk3 : k < 3) (hQ : M.Q k = a :: r) (hW4 : bs.length < 4) (hrr : All2 (WtR w) r' r)
    (hU3 : Upto w w3 B No (fun j => 2 + k * 58 ≤ j ∧ j < 2 + k * 58 + 58)) (hr3 : Ring w3 B (2 + k * 58) ((hd k + 1) % 4) r')
    (hV9 : Upto w3 w9 B (fun b => s.but b ∨ some b = bv.ownBlock ∨ some b = lv.ownBlock) (fun j => j = 176 ∨ j = 177))
    (hbc : w9.cell? ⟨B, 176, none⟩ = some bv') (hbo : w9.ownsRow (B + 1) 77 14 bv' (bs.length + 1) (cellsI bs ++ x.cells.toList))
    (hlc : w9.cell? ⟨B, 177, none⟩ = some lv') (hlo : w9.ownsRow (B + 1) 35 8 lv' (ls.length + 1) (cellsL ls ++ g.cells.toList))
    (hx : WyR w9 x (a.1.served (dueF dl M.most))) (hg : LgR w9 g a.1) :
    RepX w9 B s.val (M.takeK k dl) (fun j => if j = k then (hd k + 1) % 4 else hd j) (fun j => if j = k then r' else q j) bv' (bs ++ [x]) lv' (ls ++ [g]) ∧ Old w w9 (fun b => b = B ∨ s.but b ∨ some b = bv.ownBlock ∨ some b = lv.ownBlock) := by
  have hM : M.takeK k dl = { M with Q := fun j => if j = k then r else M.Q j, W := M.W ++ [a.1.served (dueF dl M.most)], L := M.L ++ [a.1] } := by unfold Mst.takeK; rw [hQ]
  have hU9 : Upto w w9 B (fun b => s.but b ∨ some b = bv.ownBlock ∨ some b = lv.ownBlock) (fun j => (2 + k * 58 ≤ j ∧ j < 2 + k * 58 + 58) ∨ j = 176 ∨ j = 177) :=
    (hU3.weak (fun _ _ h => h.elim) (fun j hj => .inl hj)).more (hV9.weak (fun _ _ h => h) (fun j hj => .inr hj)) (fun _ _ h => h)
  have htag := h.bus.tag
  have hsoft : ∀ o, Soft w o → ¬ (o = B ∨ s.but o ∨ some o = bv.ownBlock ∨ some o = lv.ownBlock) := fun o hso => by
    rintro (rfl | h1 | h1 | h1)
    · exact soft_not hso htag (by decide) (by decide)
    · exact soft_not hso (Sv.tag hst h1) (by decide) (by decide)
    · exact soft_not hso (own_tag h.busyo h1.symm) (by decide) (by decide)
    · exact soft_not hso (own_tag h.logo h1.symm) (by decide) (by decide)
  have ho := hU9.old
  refine ⟨?_, ho⟩
  rw [hM]
  have hbl : (bs ++ [x]).length = bs.length + 1 := by simp
  have hll : (ls ++ [g]).length = ls.length + 1 := by simp
  have hbo2 : w9.ownsRow (B + 1) 77 14 bv' (bs ++ [x]).length (cellsI (bs ++ [x])) := by rw [hbl, cellsI_snoc]; exact hbo
  have hc : ∀ j, j < 2 → w9.cell? ⟨B, j, none⟩ = w.cell? ⟨B, j, none⟩ := fun j hj => hU9.cell j (by omega)
  refine ⟨⟨Nat.lt_of_lt_of_le h.bus.lt ho.size, hU9.tag _ htag, (hc 0 (by omega)).trans h.bus.most, (hc 1 (by omega)).trans h.bus.serve, fun j hj => ?_, hbc, items_of_own hbo2, by rw [hbl]; omega⟩, hU9.there _ _ h.room, hbo2, hlc, by rw [hll, cellsL_snoc]; exact hlo, fun j hj => ?_, ?_, ?_⟩
  · by_cases e : j = k
    · subst e
      simp only [if_true]
      exact hV9.ring hr3 (fun i h1 h2 => by omega)
    · simp only [e, if_false]
      exact hU9.ring (h.bus.ring j hj) (fun i h1 h2 => by omega)
  · by_cases e : j = k
    · subst e
      simp only [if_true]
      exact hrr.mono fun x y hxy => hxy.on ho hsoft
    · simp only [e, if_false]
      exact (h.wt j hj).mono fun x y hxy => hxy.on ho hsoft
  · exact (h.wy.mono fun x y hxy => hxy.on ho hsoft).snoc hx
  · exact (h.lg.mono fun x y hxy => hxy.on ho hsoft).snoc hg

set_option maxHeartbeats 8000000 in
set_option maxRecDepth 100000 in
/-- One is taken. -/
theorem take_some {B n T k : Nat} {s : Sv} {M : Mst} {hd : Nat → Nat} {q : Nat → List It} {bv lv : Value} {bs : List It} {ls : List Lg} {li rx dl pk : Int} {w : World} (h : RepX w B s.val M hd q bv bs lv ls) (hok : M.ok T) (hT : T ≤ 100000) (hst : s.st n w) (hn : n ≤ 100000) (hp : M.pick pk = some k) :
    Calls Try.prog 35 #[.pointer (some ⟨B, 0, none⟩), inV li rx dl pk] w (RetTake B s n M dl pk bv lv w) := by
  have hlt := h.bus.lt
  have hc := choose_eq h.wt pk
  have hlen : bs.length = M.W.length := h.wy.1
  have hllen : ls.length = M.L.length := h.lg.1
  obtain ⟨hW4, hk3, hck, a, r, hQ⟩ := pick_spec hp
  obtain ⟨x, r', hqk, hxa, hrr⟩ := wait_of (h.wt k hk3) hQ
  obtain ⟨⟨haok1, ha0, ha1, hod, hos⟩, hap, ha2, ha3⟩ := hok.q k hk3 a (by rw [hQ]; simp)
  obtain ⟨x1, x2, x3, x4, x5, x6, x7, x8, x9⟩ := hxa
  obtain ⟨base, cap, hbv⟩ := own_slice2 h.busyo
  obtain ⟨lb, lc, hlv⟩ := own_slice2 h.logo
  have c176 := h.bus.busyc
  have hcl : Hid (∀ w1, Old w w1 No → Calls Try.prog 45 #[.pointer (some ⟨B, 0, none⟩), .int .i64 pk] w1 (RetCh (k : Int) w1)) := fun w1 ho => hck ▸ hc ▸ choose_calls (fun k hk => (h.bus.ring k hk).on ho hlt (fun h => h))
  have hQ0 := Lib.hid hQ
  have haa := Lib.hid (And.intro haok1 (And.intro (And.intro ha0 ha1) (And.intro hod hos)))
  obtain ⟨p, i_, kd, ad, bt, db, dn, dc, sb, sn, sc, sz, ag, du, gp, gi, gb, gn, gc, ge⟩ := x
  simp only at x1 x2 x3 x4 x5 x6 x7 x8 x9
  obtain ⟨⟨ap, ai, ak, aad, abt, asz, ads, ass⟩, aage⟩ := a
  simp only at x1 x2 x3 x4 x5 x6 x7 x8 x9 haok1 ha0 ha1 hod hos hap ha2 ha3
  subst x1 x2 x3 x4 x5 x6 x7
  have hpop : Hid (∀ w1, Old w w1 No → Calls Try.prog 46 #[.pointer (some ⟨B, 2 + k * 58, none⟩)] w1 (fun e w' => e = .returned (.agg #[.int .i64 p, .int .i64 i_, .int .i64 kd, .int .u64 ad, .int .i64 bt, .slice db dn dc, .slice sb sn sc, .int .i64 sz, .int .i64 ag, .int .i64 du, .int .i64 gp, .int .i64 gi, .slice gb gn gc, .bool ge]) ∧ Ring w' B (2 + k * 58) ((hd k + 1) % 4) r' ∧ Upon w1 w' B (2 + k * 58) (2 + k * 58 + 58))) := fun w1 ho =>
    pop_calls (Nat.lt_of_lt_of_le hlt ho.size) ((hqk ▸ h.bus.ring k hk3).on ho hlt (fun h => h))
  obtain ⟨nb, hnb⟩ : ∃ nb, bs.length = nb := ⟨_, rfl⟩
  obtain ⟨ln, hln⟩ : ∃ ln, ls.length = ln := ⟨_, rfl⟩
  rw [hnb] at hbv
  rw [hln] at hlv
  subst hbv hlv
  rw [← hlen, hnb] at hW4
  have hlnT : ln ≤ 100000 := by rw [← hln, hllen]; exact Nat.le_trans hok.l hT
  have hnlt : ((4 : Int) ≤ (nb : Int)) = False := by simp; omega
  have hk0 : (0 : Int) ≤ (k : Int) := by omega
  have hk1 : (k : Int) < 3 := by omega
  have hkn : ((k : Int) < 0) = False := by simp
  have h' := Lib.hid h
  have hok' := Lib.hid hok
  have hst' := Lib.hid hst
  have hp' := Lib.hid hp
  have hrr' := Lib.hid hrr
  have hds := Lib.hid x8
  have hss := Lib.hid x9
  have hnb' := Lib.hid hnb
  have hln' := Lib.hid hln
  clear hc hlen hllen hck hp hQ hqk hrr x8 x9 h hok hst haok1 hod hos hap ha2 ha3 hnb hln ha0 ha1
  go_enter Try.func35, Try.ntmps35
  go_wp2_with (first
    | (go_at_call 45; refine (hcl.out _ (by exact (Old.refl w No).alloc _)).mono ?_; rintro e w1 ⟨rfl, hsm⟩; have ho1' := Lib.hid (((Old.refl w No).alloc _).trans hsm.old); have hI1 := Lib.hid ((congrArg (fun h => h[w.heap.size]?) hsm.1).trans al_new); clear hsm; have c176 := (ho1'.out.cell (o := 176) hlt (fun h => h)).trans c176)
    | (go_at_call 46; refine (hpop.out _ (by exact ho1'.out)).mono ?_; rintro e w3 ⟨rfl, hr3, hU3⟩; have hr3' := Lib.hid hr3; have hU3' := Lib.hid hU3; clear hr3 hU3))
  -- what holds so far
  have hnb := hnb'.out
  have hln := hln'.out
  have htag := h'.out.bus.tag
  have hbusyo := h'.out.busyo
  have hlogo := h'.out.logo
  rw [hnb] at hbusyo
  rw [hln] at hlogo
  have hBbv : some B ≠ (Value.slice base nb cap).ownBlock := own_ne hbusyo htag (by decide)
  have hBlv : some B ≠ (Value.slice lb ln lc).ownBlock := own_ne hlogo htag (by decide)
  have hBs : ¬ s.but B := fun hb => absurd (Tag.inj (Sv.tag hst'.out hb) htag) (by decide)
  have hslt : ∀ b, s.but b → b < w.heap.size := fun b hb => by obtain ⟨c, t⟩ := Sv.tag hst'.out hb; exact lt_of_heap t
  have hU3 : Upto w w3 B No (fun j => 2 + k * 58 ≤ j ∧ j < 2 + k * 58 + 58) := (Upto.of_old ho1'.out hlt (fun h => h)).trans (Upto.of_upon hU3'.out (fun j h1 h2 => ⟨h1, h2⟩))
  have hsz3 : w.heap.size ≤ w3.heap.size := hU3.old.size
  have hB3 : B < w3.heap.size := Nat.lt_of_lt_of_le hlt hsz3
  have hsoft : ∀ o, Soft w o → ¬ (o = B ∨ s.but o ∨ some o = (Value.slice lb ln lc).ownBlock) := fun o hso => by
    rintro (rfl | h1 | h1)
    · exact soft_not hso htag (by decide) (by decide)
    · exact soft_not hso (Sv.tag hst'.out h1) (by decide) (by decide)
    · exact soft_not hso (own_tag hlogo h1.symm) (by decide) (by decide)
  generalize hw4 : w3.alloc (.cells #[.int .i64 p, .int .i64 i_, .int .i64 kd, .int .u64 ad, .int .i64 bt, .slice db dn dc, .slice sb sn sc, .int .i64 sz, .int .i64 ag, .int .i64 du, .int .i64 gp, .int .i64 gi, .slice gb gn gc, .bool ge] 77) = w4
  have hT4 : w4.heap[w3.heap.size]? = some (.cells #[.int .i64 p, .int .i64 i_, .int .i64 kd, .int .u64 ad, .int .i64 bt, .slice db dn dc, .slice sb sn sc, .int .i64 sz, .int .i64 ag, .int .i64 du, .int .i64 gp, .int .i64 gi, .slice gb gn gc, .bool ge] 77) := by rw [← hw4]; exact al_new
  have hV4 : Upto w3 w4 B No (fun _ => False) := by rw [← hw4]; exact Upto.of_old ((Old.refl w3 No).alloc _) hB3 (fun h => h)
  clear hw4
  have hO4 : Old w w4 (fun b => b = B ∨ s.but b ∨ some b = (Value.slice lb ln lc).ownBlock) := (hU3.old.trans hV4.old).weak fun b _ h => h.elim .inl fun h => h.elim
  have hlen1 := len_of hds.out.1
  have hlen2 := len_of hss.out.1
  have hmay := haa.out.1
  simp only [MayP] at hmay
  have hbt : bt = 1 ∨ bt = 8 := hmay.2.2.2.2.1
  have hm8 : (((8 * bt).toNat : Nat) : Int) = 8 * bt := by omega
  have hc3 : ∀ j, j < 2 ∨ 176 ≤ j → w3.cell? ⟨B, j, none⟩ = w.cell? ⟨B, j, none⟩ := fun j hj => hU3.cell j (by omega)
  have hlo3 := own_kept hlogo hU3.old (fun b hb h => by rcases h with rfl | h; exact hBlv hb; exact h)
  have hbo3 := own_kept hbusyo hU3.old (fun b hb h => by rcases h with rfl | h; exact hBbv hb; exact h)
  have htag3 := hU3.tag _ htag
  have hroom3 := hU3.there _ _ h'.out.room
  refine Code.wp_mono ?_ (take4_wp (B := B) (T := w3.heap.size) (ds := ads) (ss := ass) (lb := lb) (ln := ln) (lc := lc) (Nat.lt_of_lt_of_le hB3 hV4.old.size) (hV4.tag _ htag3) hT4 (hds.out.on hO4 hsoft) (hss.out.on hO4 hsoft) haa.out.2.2.1 haa.out.2.2.2 (by omega) (by omega) ((hV4.cell 177 (fun h => h)).trans ((hc3 177 (by omega)).trans h'.out.logc)) (hV4.there _ _ hroom3 177 (by omega)).2 (own_kept hlo3 hV4.old (fun b hb h => by rcases h with rfl | h; exact hBlv hb; exact h)) (by omega))
  rintro e a' w5 hN
  obtain ⟨rfl, ⟨_, _, _, _, _, _, _, _, _, _, _, _, rfl⟩, lv', db', dc', sb', sc', hl5, hlo5, hd5, hs5, hV5, hlv5⟩ := Norm.out hN
  clear hN
  -- behind the log
  have hU5 : Upto w3 w5 B (fun b => some b = (Value.slice lb ln lc).ownBlock) (fun j => j = 177) := (hV4.weak (fun _ _ h => h.elim) (fun _ h => h.elim)).trans hV5
  have hnl3 : some w3.heap.size ≠ (Value.slice lb ln lc).ownBlock := fun e => by have := own_lt hlo3 e; omega
  have hTB3 : w3.heap.size ≠ B := by omega
  have hT5 : w5.heap[w3.heap.size]? = some (.cells #[.int .i64 p, .int .i64 i_, .int .i64 kd, .int .u64 ad, .int .i64 bt, .slice db dn dc, .slice sb sn sc, .int .i64 sz, .int .i64 ag, .int .i64 du, .int .i64 gp, .int .i64 gi, .slice gb gn gc, .bool ge] 77) := (hV5.old.block _ (lt_of_heap hT4) (by rintro (h | h); exact hTB3 h; exact hnl3 h)).trans hT4
  have hO5 : Old w w5 (fun b => b = B ∨ s.but b ∨ some b = (Value.slice lb ln lc).ownBlock) := (hU3.old.weak fun b _ h => h.elim .inl fun h => h.elim).trans (hU5.old.weak fun b _ h => h.elim .inl fun h => .inr (.inr h))
  have hst5 : s.st n w5 := Sv.st_on (s := s) (n := n) hst'.out ((hU3.old.weak (fun b _ h => h.elim .inl fun h => h.elim) : Old w w3 (fun b => b = B ∨ some b = (Value.slice lb ln lc).ownBlock)).trans hU5.old) (fun b hb h => h.elim (fun h => hBs (h ▸ hb)) (fun h => absurd (Tag.inj (Sv.tag hst'.out hb) (own_tag hlogo h.symm)) (by decide)))
  have hB5 : B < w5.heap.size := Nat.lt_of_lt_of_le hB3 hU5.old.size
  have hc5 : ∀ j, j < 2 ∨ j = 176 → w5.cell? ⟨B, j, none⟩ = w.cell? ⟨B, j, none⟩ := fun j hj => (hU5.cell j (by omega)).trans (hc3 j (by omega))
  go_wp2
  refine Code.wp_mono ?_ (take5_wp (B := B) (T := w3.heap.size) (s := s) (n := n) (m := (8 * bt).toNat) (ds := ads) (ss := ass) hB5 (hU5.tag _ htag3) hT5 (hds.out.on hO5 hsoft) (hss.out.on hO5 hsoft) haa.out.2.2.1 haa.out.2.2.2 (by omega) (by omega) ((hc5 1 (by omega)).trans h'.out.bus.serve) hst5 (by omega) haa.out.2.1.1 haa.out.2.1.2 hbt hm8)
  rintro e a' w6 hN
  obtain ⟨rfl, R, ⟨_, _, _, _, _, _, _, _, rfl⟩, rb, rc, hR6, hRge, hrd6, hO6, hst6⟩ := Norm.out hN
  clear hN
  have htl : w3.heap.size < w5.heap.size := lt_of_heap hT5
  have hts : ¬ s.but w3.heap.size := fun h => by have := hslt _ h; omega
  have hT6 := (hO6.block _ htl hts).trans hT5
  have hU6 : Upto w3 w6 B (fun b => s.but b ∨ some b = (Value.slice lb ln lc).ownBlock) (fun j => j = 177) := (hU5.weak (fun _ _ h => .inr h) (fun _ h => h)).more (Upto.of_old hO6 hB5 hBs) (fun _ _ h => .inl h)
  go_wp2
  refine Code.wp_mono ?_ (take6_wp (B := B) (T := w3.heap.size) (R := R) (dat := servedD ad kd (8 * bt).toNat) hT6 hR6 hrd6 (ones_served _ _ _) (by have := len_served ad kd (8 * bt).toNat; omega))
  rintro e a' w7 hN
  obtain ⟨rfl, ⟨_, _, _, _, _, _, _, _, _, _, _, _, _, rfl⟩, cb, cc, hT7, hcd7, hO7⟩ := Norm.out hN
  clear hN
  have hB6 : B < w6.heap.size := Nat.lt_of_lt_of_le hB3 hU6.old.size
  have hU7 : Upto w3 w7 B (fun b => s.but b ∨ some b = (Value.slice lb ln lc).ownBlock) (fun j => j = 177) := hU6.more (Upto.of_old hO7 hB6 (by omega)) (fun b hb h => by omega)
  have hB7 : B < w7.heap.size := Nat.lt_of_lt_of_le hB3 hU7.old.size
  have hI3 : w3.heap[w.heap.size]? = some (.cells #[.int .i64 li, .int .i64 rx, .int .i64 dl, .int .i64 pk] 40 (0, 0)) := (hU3'.out.old.block _ (lt_of_heap hI1.out) (by omega)).trans hI1.out
  have hI7 := (hU7.old.block _ (lt_of_heap hI3) (by rintro (h | h | h); omega; have := hslt _ h; omega; have := own_lt hlogo h; omega)).trans hI3
  have hI7c : w7.cell? ⟨w.heap.size, 2, none⟩ = some (.int .i64 dl) := by simp [World.cell?, hI7]
  go_wp2
  refine Code.wp_mono ?_ (take7_wp (B := B) (T := w3.heap.size) (I := w.heap.size) (dl := dl) (mo := M.most) hT7 hB7 (lt_of_heap hI7) (by omega) (by have := lt_of_heap hI3; omega) hI7c ((hU7.cell 0 (by omega)).trans ((hc3 0 (by omega)).trans h'.out.bus.most)) hok'.out.m0 hok'.out.m1)
  rintro e a' w8 hN
  obtain ⟨rfl, ⟨_, _, _, _, _, _, _, _, _, _, _, rfl⟩, hT8, hO8⟩ := Norm.out hN
  clear hN
  have hU8 : Upto w3 w8 B (fun b => s.but b ∨ some b = (Value.slice lb ln lc).ownBlock) (fun j => j = 177) := hU7.more (Upto.of_old hO8 hB7 (by omega)) (fun b hb h => by omega)
  have hbo8 := own_kept hbo3 hU8.old (fun b hb h => by
    rcases h with rfl | h | h
    · exact hBbv hb
    · exact absurd (Tag.inj (Sv.tag hst'.out h) (own_tag hbusyo hb.symm)) (by decide)
    · exact absurd (Tag.inj (own_tag hlogo h.symm) (own_tag hbusyo hb.symm)) (by decide))
  have hB8 : B < w8.heap.size := Nat.lt_of_lt_of_le hB3 hU8.old.size
  go_wp2
  refine Code.wp_mono ?_ (take8_wp (B := B) (T := w3.heap.size) (base := B + 1) (ln := nb) (lb := base) (lc := cap) hB8 (hU8.tag _ htag3) hT8 (fun e => by have := own_lt hbo3 e; omega) ((hU8.cell 176 (by omega)).trans ((hc3 176 (by omega)).trans h'.out.bus.busyc)) (hU8.there _ _ hroom3 176 (by omega)).2 hbo8 (by omega) (by omega))
  rintro e a' w9 hN
  obtain ⟨rfl, ⟨_, _, _, _, _, _, _, _, _, _, rfl⟩, bv', hb9, hbo9, hV9, hbv9⟩ := Norm.out hN
  clear hN
  go_wp2
  go_end0
  -- put together
  have hbo5 := own_kept hbo3 hU5.old (fun b hb h => by
    rcases h with rfl | h
    · exact hBbv hb
    · exact absurd (Tag.inj (own_tag hlogo h.symm) (own_tag hbusyo hb.symm)) (by decide))
  have hV9' : Upto w3 w9 B (fun b => s.but b ∨ some b = (Value.slice base nb cap).ownBlock ∨ some b = (Value.slice lb ln lc).ownBlock) (fun j => j = 176 ∨ j = 177) :=
    (hU8.weak (fun _ _ h => h.elim .inl fun h => .inr (.inr h)) (fun _ h => .inr h)).more (hV9.weak (fun _ _ h => h) (fun _ h => .inl h)) (fun _ _ h => .inr (.inl h))
  have hO79 : Old w7 w9 (fun b => b = B ∨ b = w3.heap.size ∨ some b = (Value.slice base nb cap).ownBlock) := (hO8.weak fun _ _ h => .inr (.inl h)).trans (hV9.old.weak fun _ _ h => h.elim .inl fun h => .inr (.inr h))
  have hO59 : Old w5 w9 (fun b => s.but b ∨ b = B ∨ b = w3.heap.size ∨ some b = (Value.slice base nb cap).ownBlock) := ((hO6.weak fun _ _ h => .inl h).trans (hO7.weak fun _ _ h => .inr (.inr (.inl h)))).trans (hO79.weak fun _ _ h => .inr h)
  have hso7 : ∀ o, Soft w7 o → ¬ (o = B ∨ o = w3.heap.size ∨ some o = (Value.slice base nb cap).ownBlock) := fun o hso => by
    rintro (rfl | rfl | h)
    · exact soft_not hso (hU7.tag _ htag3) (by decide) (by decide)
    · exact soft_not hso ⟨_, hT7⟩ (by decide) (by decide)
    · have hb7 := own_kept hbo5 ((hO6.weak fun _ _ h => .inl h).trans (hO7.weak fun _ _ h => .inr h) : Old w5 w7 (fun b => s.but b ∨ b = w3.heap.size)) (fun b hb h => by
        rcases h with h | rfl
        · exact absurd (Tag.inj (Sv.tag hst5 h) (own_tag hbo5 hb.symm)) (by decide)
        · have := own_lt hbo3 hb; omega)
      exact soft_not hso (own_tag hb7 h.symm) (by decide) (by decide)
  have hso5 : ∀ o, Soft w5 o → ¬ (s.but o ∨ o = B ∨ o = w3.heap.size ∨ some o = (Value.slice base nb cap).ownBlock) := fun o hso => by
    rintro (h | rfl | rfl | h)
    · exact soft_not hso (Sv.tag hst5 h) (by decide) (by decide)
    · exact soft_not hso (hU5.tag _ htag3) (by decide) (by decide)
    · exact soft_not hso ⟨_, hT5⟩ (by decide) (by decide)
    · exact soft_not hso (own_tag hbo5 h.symm) (by decide) (by decide)
  have hlo9 := own_kept hlo5 hO59 (fun b hb h => by
    rcases h with h | rfl | rfl | h
    · exact absurd (Tag.inj (Sv.tag hst5 h) (own_tag hlo5 hb.symm)) (by decide)
    · exact absurd (Tag.inj (hU5.tag _ htag3) (own_tag hlo5 hb.symm)) (by decide)
    · exact absurd (Tag.inj ⟨_, hT5⟩ (own_tag hlo5 hb.symm)) (by decide)
    · exact absurd (Tag.inj (own_tag hbo5 h.symm) (own_tag hlo5 hb.symm)) (by decide))
  have hlc9 : w9.cell? ⟨B, 177, none⟩ = some lv' := (hV9.cell 177 (by omega)).trans ((by
    have h7 : w6.cell? ⟨B, 177, none⟩ = w5.cell? ⟨B, 177, none⟩ := hO6.cell hB5 hBs
    have h8 : w7.cell? ⟨B, 177, none⟩ = w6.cell? ⟨B, 177, none⟩ := hO7.cell hB6 (by omega)
    have h9 : w8.cell? ⟨B, 177, none⟩ = w7.cell? ⟨B, 177, none⟩ := hO8.cell hB7 (by omega)
    exact h9.trans (h8.trans h7) : w8.cell? ⟨B, 177, none⟩ = w5.cell? ⟨B, 177, none⟩).trans hl5)
  obtain ⟨hrep, hold⟩ := take_rep (dl := dl) (g := ⟨p, i_, kd, ad, bt, db', ads.length, dc', sb', ass.length, sc', sz⟩) (x := ⟨p, i_, kd, ad, bt, db, dn, dc, sb, sn, sc, sz, 0, dueF dl M.most, p, i_, cb, (servedD ad kd (8 * bt).toNat).length, cc, oddP ad⟩) h'.out hst'.out hk3 hQ0.out (by rw [hnb]; exact hW4) hrr'.out hU3 hr3'.out hV9' hb9 (by rw [hnb]; exact hbo9) hlc9 (by rw [hln]; exact hlo9) ⟨rfl, rfl, rfl, rfl, rfl, rfl, hcd7.on hO79 hso7, rfl⟩ (LgR.of (a := ⟨p, i_, kd, ad, bt, sz, ads, ass⟩) (hd5.on hO59 hso5) (hs5.on hO59 hso5))
  have htk : M.take dl pk = M.takeK k dl := by unfold Mst.take; rw [hp'.out]
  refine ⟨rfl, _, _, _, _, _, _, by rw [htk]; exact hrep, ?_, hold, fun b hb => ?_, fun b hb => ?_⟩
  · have e1 : n + (if (M.pick pk).isSome = true then 1 else 0) = n + 1 := by rw [hp'.out]; rfl
    rw [e1]
    exact Sv.st_on (s := s) (n := n + 1) hst6 ((hO7.weak fun _ _ h => .inr (.inl h)).trans hO79) (fun b hb h => by
      rcases h with rfl | rfl | h
      · exact hBs hb
      · exact hts hb
      · exact absurd (Tag.inj (Sv.tag hst5 hb) (own_tag hbo5 h.symm)) (by decide))
  · rcases hbv9 b hb with h | h
    · exact .inl h
    · right; have := hU8.old.size; omega
  · rcases hlv5 b hb with h | h
    · exact .inl h
    · right; have := hV4.old.size; omega

/-- Take. -/
theorem take_calls {B n T : Nat} {s : Sv} {M : Mst} {hd : Nat → Nat} {q : Nat → List It} {bv lv : Value} {bs : List It} {ls : List Lg} {li rx dl pk : Int} {w : World} (h : RepX w B s.val M hd q bv bs lv ls) (hok : M.ok T) (hT : T ≤ 100000) (hst : s.st n w) (hn : n ≤ 100000) :
    Calls Try.prog 35 #[.pointer (some ⟨B, 0, none⟩), inV li rx dl pk] w (RetTake B s n M dl pk bv lv w) := by
  cases hp : M.pick pk with
  | none => exact take_none h hst hp
  | some k => exact take_some h hok hT hst hn hp
end Go.Proofs.Ytnpgjecifllnaaa
