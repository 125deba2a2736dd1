/- What is proved here: those whose time has come. Conditions: the block reads as the bus; ports and ages as they can be. -/
import Derived.Test.YtnpgjecifllnaaaChoose
set_option linter.unusedSimpArgs false
set_option linter.unusedVariables false
namespace Go.Proofs.Ytnpgjecifllnaaa
open Go Go.Conc Go.RowKit

def It.older (x : It) : It := { x with age := x.age + 1 }
def It.give (x : It) : Array Value := #[.int .i64 x.gport, .int .i64 x.gid, .slice x.gb x.gn x.gc, .bool x.gerr]
structure AnsS where
  held : Int → Bool
  left : List It
  out : List It
def ansStep (s : AnsS) (x : It) : AnsS := if s.held x.port || decide (x.age + 1 < x.due) then ⟨fun k => if k = x.port then true else s.held k, s.left ++ [x.older], s.out⟩ else ⟨s.held, s.left, s.out ++ [x.older]⟩
def ansRun (l : List It) : AnsS := l.foldl ansStep ⟨fun _ => false, [], []⟩
theorem ansRun_succ {l : List It} {i : Nat} {x : It} (h : l[i]? = some x) : ansRun (l.take (i + 1)) = ansStep (ansRun (l.take i)) x := by
  unfold ansRun
  rw [List.take_add_one, h]
  simp
def cellsI (l : List It) : List Value := l.flatMap fun x => x.cells.toList
def gives (l : List It) : List Value := l.flatMap fun x => x.give.toList
theorem cellsI_snoc (l : List It) (x : It) : cellsI (l ++ [x]) = cellsI l ++ x.cells.toList := by simp [cellsI]
theorem gives_snoc (l : List It) (x : It) : gives (l ++ [x]) = gives l ++ x.give.toList := by simp [gives]

theorem info43 : (Try.prog.info? 43).map (fun i => (i.zero, i.size, i.bytes)) = some (some (.agg #[.int .i64 0, .int .i64 0, .slice none 0 0, .bool false]), 4, 48) := by kernel_rfl

theorem own_tag {w : World} {base e size : Nat} {v : Value} {n : Nat} {xs : List Value} (h : w.ownsRow base e size v n xs) {g : Nat} (hg : v.ownBlock = some g) : Tag w g e := by
  rcases h.2 with ⟨rfl, _⟩ | ⟨g', cap, cur, rfl, _, h4, _⟩
  · simp [Value.ownBlock] at hg
  · simp [Value.ownBlock] at hg
    subst hg
    exact ⟨cur, h4⟩
theorem own_apart {w : World} {b1 b2 e1 e2 s1 s2 : Nat} {v1 v2 : Value} {n1 n2 : Nat} {x1 x2 : List Value} (h1 : w.ownsRow b1 e1 s1 v1 n1 x1) (h2 : w.ownsRow b2 e2 s2 v2 n2 x2) (hne : e1 ≠ e2) : ∀ g, v1.ownBlock = some g → some g ≠ v2.ownBlock := by
  intro g hg he
  obtain ⟨c1, t1⟩ := own_tag h1 hg
  obtain ⟨c2, t2⟩ := own_tag h2 he.symm
  rw [t1] at t2
  cases t2
  exact hne rfl

/-- At the loop's head. -/
structure A34 (W : World) (H : Nat) (s : AnsS) (v3 v4 : Value) (wr : World) : Prop where
  old : Old W wr (fun b => b = H)
  hld : ∃ c : Array Value, wr.heap[H]? = some (.cells c 96 (0, 0)) ∧ c.size = 3 ∧ ∀ k : Nat, k < 3 → c[k]? = some (.bool (s.held k))
  left : wr.ownsRow W.heap.size 77 14 v4 s.left.length (cellsI s.left)
  out : wr.ownsRow W.heap.size 43 4 v3 s.out.length (gives s.out)
def At34 (W : World) (H : Nat) (bs : List It) (v3 v4 v13 : Value) (wr : World) : Prop := ∃ i : Nat, i ≤ bs.length ∧ v13 = .int .i64 ((i : Nat) : Int) ∧ A34 W H (ansRun (bs.take i)) v3 v4 wr

def RetAns (B : Nat) (bs : List It) (w : World) (e : Ending) (w' : World) : Prop := ∃ v3 v4, e = .returned v3 ∧ w'.ownsRow w.heap.size 43 4 v3 (ansRun bs).out.length (gives (ansRun bs).out) ∧ w'.cell? ⟨B, 176, none⟩ = some v4 ∧ w'.ownsRow w.heap.size 77 14 v4 (ansRun bs).left.length (cellsI (ansRun bs).left) ∧ Upon w w' B 176 177

theorem own_setCell {w : World} {base e size H k : Nat} {v u : Value} {n : Nat} {xs : List Value} (h : w.ownsRow base e size v n xs) (hne : some H ≠ v.ownBlock) : (w.setCell ⟨H, k, none⟩ u).ownsRow base e size v n xs := by
  refine ⟨h.1, ?_⟩
  rcases h.2 with h2 | ⟨g, cap, cur, rfl, h3, h4, h5⟩
  · exact .inl h2
  · refine .inr ⟨g, cap, cur, rfl, h3, ?_, h5⟩
    rw [heap_setCell_other _ _ _ _ (by rintro rfl; exact hne rfl)]
    exact h4
theorem tag_ne {w : World} {base e size H t : Nat} {v : Value} {n : Nat} {xs : List Value} (h : w.ownsRow base e size v n xs) {c : Array Value} (hH : w.heap[H]? = some (.cells c t (0, 0))) (hne : t ≠ e) : some H ≠ v.ownBlock := by
  intro he
  obtain ⟨c', t'⟩ := own_tag h he.symm
  rw [hH] at t'
  cases t'
  exact hne rfl

theorem ansRun_len (l : List It) : (ansRun l).left.length + (ansRun l).out.length = l.length := by
  have key : ∀ (l : List It) (s : AnsS), (l.foldl ansStep s).left.length + (l.foldl ansStep s).out.length = s.left.length + s.out.length + l.length := by
    intro l
    induction l with
    | nil => intro s; rfl
    | cons x l ih =>
      intro s
      rw [List.foldl_cons, ih]
      unfold ansStep
      split <;> simp <;> omega
  rw [ansRun, key]
  simp
theorem news_at {w : World} {cs : Array Value} {t : TypeId} {b : Nat} (hb : w.heap.size = b) : ∀ j u, cs.toList[j]? = some u → (w.alloc (.cells cs t (0, 0))).cell? ((⟨b, 0, none⟩ : Addr).add j) = some u := by
  subst hb
  exact World.news_of_block al_new
theorem ones14 (p i_ kd ad bt : Int) (db : Option Addr) (dn dc : Nat) (sb : Option Addr) (sn sc : Nat) (sz ag du gp gi : Int) (gb : Option Addr) (gn gc : Nat) (ge : Bool) : ∀ u ∈ [Value.int .i64 p, Value.int .i64 i_, Value.int .i64 kd, Value.int .u64 ad, Value.int .i64 bt, Value.slice db dn dc, Value.slice sb sn sc, Value.int .i64 sz, Value.int .i64 ag, Value.int .i64 du, Value.int .i64 gp, Value.int .i64 gi, Value.slice gb gn gc, Value.bool ge], u.oneCell' = true := by
  intro u hu
  simp at hu
  rcases hu with rfl | rfl | rfl | rfl | rfl | rfl | rfl | rfl | rfl | rfl | rfl | rfl | rfl | rfl <;> rfl

theorem ans_left {W wr w1 : World} {H kp : Nat} {s : AnsS} {v3 v4 v' : Value} {x : It} {c : Array Value} {o1 o2 : Obj} {news : List Value} (h : A34 W H s v3 v4 wr) (hc : wr.heap[H]? = some (.cells c 96 (0, 0))) (hc2 : c.size = 3) (hc3 : ∀ k : Nat, k < 3 → c[k]? = some (.bool (s.held k))) (hkp : kp < 3) (hxp : x.port = (kp : Int)) (ht : (s.held x.port || decide (x.age + 1 < x.due)) = true)
    (hown : w1.ownsRow W.heap.size 77 14 v' (s.left.length + 1) (cellsI s.left ++ news)) (hg : (((wr.setCell ⟨H, kp, none⟩ (.bool true)).alloc o1).alloc o2).grownBy w1 v4.ownBlock) (hnews : x.older.cells.toList = news := by rfl) : A34 W H (ansStep s x) v3 v' w1 := by
  have hHlt := lt_of_heap hc
  have hL := own_setCell (k := kp) (u := .bool true) h.left (tag_ne h.left hc (by decide))
  have hO := own_setCell (k := kp) (u := .bool true) h.out (tag_ne h.out hc (by decide))
  have hs : ansStep s x = ⟨fun k => if k = x.port then true else s.held k, s.left ++ [x.older], s.out⟩ := by unfold ansStep; rw [if_pos ht]
  rw [hs]
  refine ⟨Old.grown (((h.old.setCell _ (.inr rfl)).alloc _)) (hL.alloc _) (Nat.le_refl _) hg, ⟨c.setIfInBounds kp (.bool true), ?_, ?_, fun k hk => ?_⟩, ?_, ?_⟩
  · rw [hg.block H (by rw [al_size, al_size, World.size_setCell]; omega) (tag_ne h.left hc (by decide)), al_old (by rw [al_size, World.size_setCell]; omega), al_old (by rw [World.size_setCell]; exact hHlt)]
    exact heap_setCell_same wr H kp c 96 _ hc
  · simp [hc2]
  · rw [Array.getElem?_setIfInBounds]
    by_cases e : kp = k
    · subst e
      rw [if_pos rfl, if_pos (by omega)]
      simp [hxp]
    · rw [if_neg e, hc3 k hk]
      have : ¬ ((k : Int) = x.port) := by rw [hxp]; omega
      simp [this]
  · rw [cellsI_snoc, hnews, List.length_append]
    exact hown
  · refine ((hO.alloc _).alloc _).kept hg ?_
    cases hv : v3.ownBlock with
    | none => exact .inl rfl
    | some g => exact .inr (own_apart h.out h.left (by decide) g hv)

theorem ans_out {W wr w1 : World} {H : Nat} {s : AnsS} {v3 v4 v' : Value} {x : It} {c : Array Value} {o1 o2 : Obj} {news : List Value} (h : A34 W H s v3 v4 wr) (hc : wr.heap[H]? = some (.cells c 96 (0, 0))) (hc2 : c.size = 3) (hc3 : ∀ k : Nat, k < 3 → c[k]? = some (.bool (s.held k))) (ht : (s.held x.port || decide (x.age + 1 < x.due)) = false)
    (hown : w1.ownsRow W.heap.size 43 4 v' (s.out.length + 1) (gives s.out ++ news)) (hg : ((wr.alloc o1).alloc o2).grownBy w1 v3.ownBlock) (hnews : x.older.give.toList = news := by rfl) : A34 W H (ansStep s x) v' v4 w1 := by
  have hHlt := lt_of_heap hc
  have hs : ansStep s x = ⟨s.held, s.left, s.out ++ [x.older]⟩ := by unfold ansStep; rw [if_neg (by rw [ht]; decide)]
  rw [hs]
  refine ⟨Old.grown (h.old.alloc _) (h.out.alloc _) (Nat.le_refl _) hg, ⟨c, ?_, hc2, hc3⟩, ?_, ?_⟩
  · rw [hg.block H (by rw [al_size, al_size]; omega) (tag_ne h.out hc (by decide)), al_old (by rw [al_size]; omega), al_old hHlt]
    exact hc
  · refine ((h.left.alloc _).alloc _).kept hg ?_
    cases hv : v4.ownBlock with
    | none => exact .inl rfl
    | some g => exact .inr (own_apart h.left h.out (by decide) g hv)
  · rw [gives_snoc, hnews, List.length_append]
    exact hown
theorem three_false : ∀ k : Nat, k < 3 → (#[Value.bool false, Value.bool false, Value.bool false] : Array Value)[k]? = some (.bool ((ansRun []).held (k : Int))) := by
  intro k hk
  have h : k = 0 ∨ k = 1 ∨ k = 2 := by omega
  rcases h with rfl | rfl | rfl <;> rfl
theorem own_slice {w : World} {base e size : Nat} {v : Value} {n : Nat} {xs : List Value} (h : w.ownsRow base e size v n xs) : ∃ b m c, v = .slice b m c := by
  rcases h.2 with ⟨rfl, _⟩ | ⟨g, cap, cur, rfl, _⟩
  · exact ⟨_, _, _, rfl⟩
  · exact ⟨_, _, _, rfl⟩
theorem own_mono {w : World} {b1 b2 e size : Nat} {v : Value} {n : Nat} {xs : List Value} (hb : b2 ≤ b1) (h : w.ownsRow b1 e size v n xs) : w.ownsRow b2 e size v n xs := by
  refine ⟨h.1, ?_⟩
  rcases h.2 with h2 | ⟨g, cap, cur, e1, h3, h4⟩
  · exact .inl h2
  · exact .inr ⟨g, cap, cur, e1, Nat.le_trans hb h3, h4⟩
theorem ones4 (gp gi : Int) (gb : Option Addr) (gn gc : Nat) (ge : Bool) : ∀ u ∈ [Value.int .i64 gp, Value.int .i64 gi, Value.slice gb gn gc, Value.bool ge], u.oneCell' = true := by
  intro u hu
  simp at hu
  rcases hu with rfl | rfl | rfl | rfl <;> rfl

set_option maxHeartbeats 2000000 in
set_option maxRecDepth 100000 in
theorem answers_calls {B : Nat} {bs : List It} {bv : Value} {w : World} (hB : B < w.heap.size) (hbc : w.cell? ⟨B, 176, none⟩ = some bv) (hbv : Items w bv bs) (hfew : bs.length ≤ 4) (hp : ∀ x ∈ bs, ∃ k : Nat, k < 3 ∧ x.port = (k : Int)) (hage : ∀ x ∈ bs, 0 ≤ x.age ∧ x.age < 1000000) (hz : w.frozen? ⟨B, 176, none⟩ = false) :
    Calls Try.prog 34 #[.pointer (some ⟨B, 0, none⟩)] w (RetAns B bs w) := by
  obtain ⟨base, cap, rfl, hbr⟩ := hbv
  obtain ⟨n, hn0⟩ : ∃ n, bs.length = n := ⟨_, rfl⟩
  rw [hn0] at hfew hbc
  have hn := Lib.hid hn0
  have hbr' := Lib.hid hbr
  have hp' := Lib.hid hp
  have hage' := Lib.hid hage
  have hW : Hid (Old w (w.alloc (.cells #[.bool false, .bool false, .bool false] 96)) No) := (Old.refl w No).alloc _
  have hH : Hid ((w.alloc (.cells #[.bool false, .bool false, .bool false] 96)).heap[w.heap.size]? = some (.cells #[.bool false, .bool false, .bool false] 96 (0, 0))) := al_new
  clear hbr hp hage hn0
  obtain ⟨i77, hi7, hz7, hs7, hb7⟩ := info_parts info77
  obtain ⟨i43, hi4, hz4, hs4, hb4⟩ := info_parts info43
  go_enter Try.func34, Try.ntmps34
  go_wp2
  go_outline
  generalize w.alloc (.cells #[.bool false, .bool false, .bool false] 96) = W at hW hH ⊢
  go_loopw [3, 4, 13] (fun v3 v4 v13 wr => At34 W w.heap.size bs v3 v4 v13 wr) (fun _ _ v13 _ => n - (intOf v13).toNat)
  case atStart => exact ⟨0, Nat.zero_le _, rfl, ⟨Old.refl _ _, ⟨_, hH.out, rfl, three_false⟩, ⟨rfl, .inl ⟨rfl, rfl⟩⟩, ⟨rfl, .inl ⟨rfl, rfl⟩⟩⟩⟩
  case round =>
    obtain ⟨i, hi, rfl, hA⟩ := hrel
    have hA' := Lib.hid hA
    have hi2 : i ≤ n := by rw [← hn.out]; exact hi
    clear hA hi
    by_cases hlt : i < n
    · obtain ⟨x, hx⟩ : ∃ x, bs[i]? = some x := ⟨bs[i]'(by rw [hn.out]; exact hlt), List.getElem?_eq_getElem _⟩
      obtain ⟨kp, hkp, hxp⟩ := hp'.out x (List.mem_of_getElem? hx)
      obtain ⟨hag0, hag1⟩ := hage'.out x (List.mem_of_getElem? hx)
      obtain ⟨o, q, rfl, ho, hrow⟩ := hbr'.out i x hx
      have hrow2 : wr.rangeAt o (q + i * 14) x.cells.toList := range_at hrow ((hA'.out.old.block o (Nat.lt_of_lt_of_le ho hW.out.size) (by omega)).trans (hW.out.block o ho (fun h => h)))
      have hstep := Lib.hid (ansRun_succ hx)
      have hx' := Lib.hid hx
      obtain ⟨c, hc1, hc2, hc3⟩ := hA'.out.hld
      have ck : wr.cell? ⟨w.heap.size, kp, none⟩ = some (.bool ((ansRun (bs.take i)).held (kp : Int))) := by simp only [World.cell?, hc1]; simpa using hc3 kp hkp
      have fk : wr.frozen? ⟨w.heap.size, kp, none⟩ = false := by simp [World.frozen?, hc1]
      have hHlt := lt_of_heap hc1
      have hc1' := Lib.hid hc1
      have hc3' := Lib.hid hc3
      clear hx hrow hc1 hc3
      obtain ⟨p, i_, kd, ad, bt, db, dn, dc, sb, sn, sc, sz, ag, du, gp, gi, gb, gn, gc, ge⟩ := x
      obtain rfl : p = (kp : Int) := hxp
      simp only at hag0 hag1
      have hk : ∀ k v, (It.cells ⟨(kp : Int), i_, kd, ad, bt, db, dn, dc, sb, sn, sc, sz, ag, du, gp, gi, gb, gn, gc, ge⟩).toList[k]? = some v → wr.cell? ⟨o, q + i * 14 + k, none⟩ = some v := hrow2
      have e0 : wr.cell? ⟨o, q + i * 14, none⟩ = some (.int .i64 ((kp : Nat) : Int)) := hk 0 _ rfl
      have e1 : wr.cell? ⟨o, q + i * 14 + 1, none⟩ = some (.int .i64 i_) := hk 1 _ rfl
      have e2 : wr.cell? ⟨o, q + i * 14 + 2, none⟩ = some (.int .i64 kd) := hk 2 _ rfl
      have e3 : wr.cell? ⟨o, q + i * 14 + 3, none⟩ = some (.int .u64 ad) := hk 3 _ rfl
      have e4 : wr.cell? ⟨o, q + i * 14 + 4, none⟩ = some (.int .i64 bt) := hk 4 _ rfl
      have e5 : wr.cell? ⟨o, q + i * 14 + 5, none⟩ = some (.slice db dn dc) := hk 5 _ rfl
      have e6 : wr.cell? ⟨o, q + i * 14 + 6, none⟩ = some (.slice sb sn sc) := hk 6 _ rfl
      have e7 : wr.cell? ⟨o, q + i * 14 + 7, none⟩ = some (.int .i64 sz) := hk 7 _ rfl
      have e8 : wr.cell? ⟨o, q + i * 14 + 8, none⟩ = some (.int .i64 ag) := hk 8 _ rfl
      have e9 : wr.cell? ⟨o, q + i * 14 + 9, none⟩ = some (.int .i64 du) := hk 9 _ rfl
      have e10 : wr.cell? ⟨o, q + i * 14 + 10, none⟩ = some (.int .i64 gp) := hk 10 _ rfl
      have e11 : wr.cell? ⟨o, q + i * 14 + 11, none⟩ = some (.int .i64 gi) := hk 11 _ rfl
      have e12 : wr.cell? ⟨o, q + i * 14 + 12, none⟩ = some (.slice gb gn gc) := hk 12 _ rfl
      have e13 : wr.cell? ⟨o, q + i * 14 + 13, none⟩ = some (.bool ge) := hk 13 _ rfl
      clear hk hrow2
      have hk0 : (0 : Int) ≤ (kp : Int) := by omega
      have hk1 : (kp : Int) < 3 := by omega
      have hlen := Lib.hid (show (ansRun (bs.take i)).left.length + (ansRun (bs.take i)).out.length = i by rw [ansRun_len, List.length_take, hn.out]; omega)
      cases hheld : (ansRun (bs.take i)).held (kp : Int) with
      | true =>
        rw [hheld] at ck
        have hheld' := hheld
        clear hheld
        have hoL := Lib.hid (own_setCell (k := kp) (u := .bool true) hA'.out.left (tag_ne hA'.out.left hc1'.out (by decide)))
        have hoO := Lib.hid (own_setCell (k := kp) (u := .bool true) hA'.out.out (tag_ne hA'.out.out hc1'.out (by decide)))
        go_wp2_with (at_builtin; refine wpList_append_own _ rfl (.tmp 37) (.tmp 39) 82 rfl W.heap.size 77 i77 _ 14 160 Try.underlying82 hi7 hz7 hs7 hb7 rfl (by decide) _ _ _ rfl ((hoL.out.alloc _).alloc _) ⟨wr.heap.size + 1, 0, none⟩ 1 1 [Value.int .i64 ((kp : Nat) : Int), Value.int .i64 i_, Value.int .i64 kd, Value.int .u64 ad, Value.int .i64 bt, Value.slice db dn dc, Value.slice sb sn sc, Value.int .i64 sz, Value.int .i64 (ag + 1), Value.int .i64 du, Value.int .i64 gp, Value.int .i64 gi, Value.slice gb gn gc, Value.bool ge] rfl rfl (news_at (cs := #[Value.int .i64 ((kp : Nat) : Int), Value.int .i64 i_, Value.int .i64 kd, Value.int .u64 ad, Value.int .i64 bt, Value.slice db dn dc, Value.slice sb sn sc, Value.int .i64 sz, Value.int .i64 (ag + 1), Value.int .i64 du, Value.int .i64 gp, Value.int .i64 gi, Value.slice gb gn gc, Value.bool ge]) (by simp)) (ones14 _ _ _ _ _ _ _ _ _ _ _ _ _ _ _ _ _ _ _ _) (by have := hlen.out; unfold maxLen; omega) (by have := hlen.out; omega) (by have := hA'.out.old.size; simp; omega) ?_; intro v' w1 hown1 hgrow _)
        have hstepA : Hid (A34 W w.heap.size (ansRun (bs.take (i + 1))) u3 v' w1) := by
          show A34 _ _ _ _ _ _
          rw [hstep.out]
          exact ans_left (x := ⟨(kp : Int), i_, kd, ad, bt, db, dn, dc, sb, sn, sc, sz, ag, du, gp, gi, gb, gn, gc, ge⟩) hA'.out hc1'.out hc2 hc3'.out hkp rfl (by rw [hheld']; first | rfl | simp [hdue]) hown1 hgrow
        have hgr := Lib.hid hgrow
        clear hown1 hgrow
        go_wp2
        go_roundw
        case rel => exact ⟨i + 1, by rw [hn.out]; omega, by go_num, hstepA.out⟩
        case measure => simp [intOf]; omega
      | false =>
        rw [hheld] at ck
        have hheld' := hheld
        clear hheld
        by_cases hdue : ag + 1 < du
        · have hdd : decide (ag + 1 < du) = true := by simpa using hdue
          have hoL := Lib.hid (own_setCell (k := kp) (u := .bool true) hA'.out.left (tag_ne hA'.out.left hc1'.out (by decide)))
          have hoO := Lib.hid (own_setCell (k := kp) (u := .bool true) hA'.out.out (tag_ne hA'.out.out hc1'.out (by decide)))
          go_wp2_with (at_builtin; refine wpList_append_own _ rfl (.tmp 37) (.tmp 39) 82 rfl W.heap.size 77 i77 _ 14 160 Try.underlying82 hi7 hz7 hs7 hb7 rfl (by decide) _ _ _ rfl ((hoL.out.alloc _).alloc _) ⟨wr.heap.size + 1, 0, none⟩ 1 1 [Value.int .i64 ((kp : Nat) : Int), Value.int .i64 i_, Value.int .i64 kd, Value.int .u64 ad, Value.int .i64 bt, Value.slice db dn dc, Value.slice sb sn sc, Value.int .i64 sz, Value.int .i64 (ag + 1), Value.int .i64 du, Value.int .i64 gp, Value.int .i64 gi, Value.slice gb gn gc, Value.bool ge] rfl rfl (news_at (cs := #[Value.int .i64 ((kp : Nat) : Int), Value.int .i64 i_, Value.int .i64 kd, Value.int .u64 ad, Value.int .i64 bt, Value.slice db dn dc, Value.slice sb sn sc, Value.int .i64 sz, Value.int .i64 (ag + 1), Value.int .i64 du, Value.int .i64 gp, Value.int .i64 gi, Value.slice gb gn gc, Value.bool ge]) (by simp)) (ones14 _ _ _ _ _ _ _ _ _ _ _ _ _ _ _ _ _ _ _ _) (by have := hlen.out; unfold maxLen; omega) (by have := hlen.out; omega) (by have := hA'.out.old.size; simp; omega) ?_; intro v' w1 hown1 hgrow _)
          have hstepA : Hid (A34 W w.heap.size (ansRun (bs.take (i + 1))) u3 v' w1) := by
            show A34 _ _ _ _ _ _
            rw [hstep.out]
            exact ans_left (x := ⟨(kp : Int), i_, kd, ad, bt, db, dn, dc, sb, sn, sc, sz, ag, du, gp, gi, gb, gn, gc, ge⟩) hA'.out hc1'.out hc2 hc3'.out hkp rfl (by rw [hheld']; first | rfl | simp [hdue]) hown1 hgrow
          have hgr := Lib.hid hgrow
          clear hown1 hgrow
          go_wp2
          go_roundw
          case rel => exact ⟨i + 1, by rw [hn.out]; omega, by go_num, hstepA.out⟩
          case measure => simp [intOf]; omega
        · have hdd : decide (ag + 1 < du) = false := by simpa using hdue
          go_wp2_with (at_builtin; refine wpList_append_own _ rfl (.tmp 41) (.tmp 44) 37 rfl W.heap.size 43 i43 _ 4 48 Try.underlying37 hi4 hz4 hs4 hb4 rfl (by decide) _ _ _ rfl ((hA'.out.out.alloc _).alloc _) ⟨wr.heap.size + 1, 0, none⟩ 1 1 [Value.int .i64 gp, Value.int .i64 gi, Value.slice gb gn gc, Value.bool ge] rfl rfl (news_at (cs := #[Value.int .i64 gp, Value.int .i64 gi, Value.slice gb gn gc, Value.bool ge]) (by simp)) (ones4 _ _ _ _ _ _) (by have := hlen.out; unfold maxLen; omega) (by have := hlen.out; omega) (by have := hA'.out.old.size; simp; omega) ?_; intro v' w1 hown1 hgrow _)
          have hstepA : Hid (A34 W w.heap.size (ansRun (bs.take (i + 1))) v' u4 w1) := by
            show A34 _ _ _ _ _ _
            rw [hstep.out]
            exact ans_out (x := ⟨(kp : Int), i_, kd, ad, bt, db, dn, dc, sb, sn, sc, sz, ag, du, gp, gi, gb, gn, gc, ge⟩) hA'.out hc1'.out hc2 hc3'.out (by rw [hheld']; simp [hdue]) hown1 hgrow
          clear hown1 hgrow
          go_wp2
          go_roundw
          case rel => exact ⟨i + 1, by rw [hn.out]; omega, by go_num, hstepA.out⟩
          case measure => simp [intOf]; omega
    · obtain rfl : i = n := by omega
      have hsz := hW.out.size
      have hHs := lt_of_heap hH.out
      have hoW : Hid (Old w wr No) := (hW.out.no.trans hA'.out.old).weak (fun b hb e => by omega)
      have c176 : wr.cell? ⟨B, 176, none⟩ = some (.slice base i cap) := (hoW.out.cell hB (fun h => h)).trans hbc
      have f176 : wr.frozen? ⟨B, 176, none⟩ = false := by rw [World.frozen?_of_block (hoW.out.block B hB (fun h => h))]; exact hz
      have htk : Hid (bs.take i = bs) := List.take_of_length_le (by rw [hn.out]; exact Nat.le_refl _)
      have hA2 : Hid (A34 W w.heap.size (ansRun bs) u3 u4 wr) := by
        have h := hA'.out
        rw [htk.out] at h
        exact h
      obtain ⟨b4, n4, c4, hv4⟩ := own_slice hA2.out.left
      subst hv4
      have hA3 := Lib.hid hA2.out
      clear hA' hA2 hbc hz
      go_wp2
      go_ret
      have hU := (Upon.of_old (lo := 176) (hi := 177) hoW.out hB).setCell (.slice b4 n4 c4) (Nat.le_refl _) (by omega)
      refine ⟨_, .slice b4 n4 c4, rfl, own_mono (by omega) (own_setCell hA3.out.out (owns_ge hA3.out.out (by omega))), World.cell?_setCell_same _ _ _ c176, own_mono (by omega) (own_setCell hA3.out.left (owns_ge hA3.out.left (by omega))), hU⟩
end Go.Proofs.Ytnpgjecifllnaaa
