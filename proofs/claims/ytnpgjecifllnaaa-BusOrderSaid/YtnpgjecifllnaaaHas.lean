/- What is proved here: whether a transaction of that port and number waits, or is under way. Conditions: the block reads as the bus. -/
import Derived.Test.YtnpgjecifllnaaaPop
set_option linter.unusedSimpArgs false
set_option linter.unusedVariables false
namespace Go.Proofs.Ytnpgjecifllnaaa
open Go Go.Conc Go.RowKit

def SameW (w w1 : World) : Prop := w1.heap = w.heap ∧ w1.os = w.os ∧ w1.output = w.output
theorem SameW.old {w w1 : World} (h : SameW w w1) : Old w w1 No := ⟨by rw [h.1]; exact Nat.le_refl _, h.2.1, h.2.2, fun b _ _ => by rw [h.1]⟩
theorem SameW.cell {w w1 : World} (h : SameW w w1) (a : Addr) : w1.cell? a = w.cell? a := by unfold World.cell?; rw [h.1]

/-- Is it that port's, and of that number? -/
def It.is (x : It) (port id : Int) : Bool := x.port == port && x.id == id
def RetBool (b : Bool) (w : World) (e : Ending) (w' : World) : Prop := e = .returned (.bool b) ∧ Old w w' No

set_option maxRecDepth 100000 in
theorem is_calls {x : It} {port id : Int} {pb ib : Nat} {w : World} (h1 : w.cell? ⟨pb, 0, none⟩ = some (.int .i64 port)) (h2 : w.cell? ⟨ib, 0, none⟩ = some (.int .i64 id)) :
    Calls Try.prog 42 #[.agg x.cells, .pointer (some ⟨pb, 0, none⟩), .pointer (some ⟨ib, 0, none⟩)] w (RetBool (x.is port id) w) := by
  have hp := World.block_lt_of_cell? w _ h1
  have hi := World.block_lt_of_cell? w _ h2
  obtain ⟨p, i, kd, ad, bt, db, dn, dc, sb, sn, sc, sz, ag, du, gp, gi, gb, gn, gc, ge⟩ := x
  cases hq : (p == port) with
  | true =>
    have hb : It.is ⟨p, i, kd, ad, bt, db, dn, dc, sb, sn, sc, sz, ag, du, gp, gi, gb, gn, gc, ge⟩ port id = (i == id) := by show ((p == port) && (i == id)) = (i == id); rw [hq]; rfl
    rw [hb]
    clear hb
    simp only [It.cells]
    go_enter Try.func42, Try.ntmps42
    go_wp2
    go_ret
    exact ⟨rfl, (Old.refl w No).alloc _⟩
  | false =>
    have hb : It.is ⟨p, i, kd, ad, bt, db, dn, dc, sb, sn, sc, sz, ag, du, gp, gi, gb, gn, gc, ge⟩ port id = false := by show ((p == port) && (i == id)) = false; rw [hq]; rfl
    rw [hb]
    clear hb
    simp only [It.cells]
    go_enter Try.func42, Try.ntmps42
    go_wp2
    go_ret
    exact ⟨rfl, (Old.refl w No).alloc _⟩

/-- A slice of items. -/
def Items (w : World) (v : Value) (l : List It) : Prop := ∃ base cap, v = .slice base l.length cap ∧ ∀ i x, l[i]? = some x → ∃ o q, base = some ⟨o, q, none⟩ ∧ o < w.heap.size ∧ w.rangeAt o (q + i * 14) x.cells.toList
theorem Items.on {w w1 : World} {v : Value} {l : List It} (h : Items w v l) (ho : Old w w1 No) : Items w1 v l := by
  obtain ⟨base, cap, e, hr⟩ := h
  refine ⟨base, cap, e, fun i x hx => ?_⟩
  obtain ⟨o, q, e1, hlt, hr1⟩ := hr i x hx
  exact ⟨o, q, e1, Nat.lt_of_lt_of_le hlt ho.size, range_at hr1 (ho.block o hlt (fun h => h))⟩

def RetIdx (l : List It) (port id : Int) (w : World) (e : Ending) (w' : World) : Prop := ∃ r : Int, e = .returned (.int .i64 r) ∧ (decide (0 ≤ r) = l.any (·.is port id)) ∧ Old w w' No
def At51 (l : List It) (port id : Int) (w : World) (v : Value) (wr : World) : Prop := ∃ i : Nat, i ≤ l.length ∧ v = .int .i64 ((i : Nat) : Int) ∧ Old w wr No ∧ ∀ j x, j < i → l[j]? = some x → x.is port id = false

set_option maxHeartbeats 1000000 in
set_option maxRecDepth 100000 in
theorem index_calls {v : Value} {l : List It} {port id : Int} {pb ib : Nat} {w : World} (hv : Items w v l) (hl : l.length ≤ 1000) (h1 : w.cell? ⟨pb, 0, none⟩ = some (.int .i64 port)) (h2 : w.cell? ⟨ib, 0, none⟩ = some (.int .i64 id)) :
    Calls Try.prog 51 #[v, .func (.func 42) #[] #[.pointer (some ⟨pb, 0, none⟩), .pointer (some ⟨ib, 0, none⟩)]] w (RetIdx l port id w) := by
  obtain ⟨base, cap, rfl, hr⟩ := hv
  have hp := World.block_lt_of_cell? w _ h1
  have hi := World.block_lt_of_cell? w _ h2
  obtain ⟨n, hn0⟩ : ∃ n, l.length = n := ⟨_, rfl⟩
  rw [hn0] at hl ⊢
  have hn := Lib.hid hn0
  have hr' := Lib.hid hr
  have h1' := Lib.hid h1
  have h2' := Lib.hid h2
  have hc : Hid (∀ x w1, Old w w1 No → Calls Try.prog 42 #[.agg (It.cells x), .pointer (some ⟨pb, 0, none⟩), .pointer (some ⟨ib, 0, none⟩)] w1 (RetBool (x.is port id) w1)) := fun x w1 ho => is_calls ((ho.cell hp (fun h => h)).trans h1'.out) ((ho.cell hi (fun h => h)).trans h2'.out)
  clear hn0 hr h1 h2
  go_enter Try.func51, Try.ntmps51
  go_wp2
  go_loopw [8] (fun v wr => At51 l port id w v wr) (fun v _ => n - (intOf v).toNat)
  case atStart => exact ⟨0, Nat.zero_le _, rfl, Old.refl _ _, fun j x h => by omega⟩
  case round =>
    obtain ⟨i, hi2, rfl, hold, hno⟩ := hrel
    have hold' := Lib.hid hold
    have hno' := Lib.hid hno
    rw [hn.out] at hi2
    clear hold hno
    by_cases hlt : i < n
    · obtain ⟨x, hx⟩ : ∃ x, l[i]? = some x := ⟨l[i]'(by rw [hn.out]; exact hlt), List.getElem?_eq_getElem _⟩
      obtain ⟨o, q, rfl, ho, hrow⟩ := hr'.out i x hx
      have hrow2 : wr.rangeAt o (q + i * 14) x.cells.toList := range_at hrow (hold'.out.block o ho (fun h => h))
      have hx' := Lib.hid hx
      clear hx hrow
      obtain ⟨p, i_, kd, ad, bt, db, dn, dc, sb, sn, sc, sz, ag, du, gp, gi, gb, gn, gc, ge⟩ := x
      have hk : ∀ k v, (It.cells ⟨p, i_, kd, ad, bt, db, dn, dc, sb, sn, sc, sz, ag, du, gp, gi, gb, gn, gc, ge⟩).toList[k]? = some v → wr.cell? ⟨o, q + i * 14 + k, none⟩ = some v := hrow2
      have e0 : wr.cell? ⟨o, q + i * 14, none⟩ = some (.int .i64 p) := hk 0 _ rfl
      have e1 : wr.cell? ⟨o, q + i * 14 + 1, none⟩ = some (.int .i64 i_) := hk 1 _ rfl
      have e2 : wr.cell? ⟨o, q + i * 14 + 2, none⟩ = some (.int .i64 kd) := hk 2 _ rfl
      have e3 : wr.cell? ⟨o, q + i * 14 + 3, none⟩ = some (.int .u64 ad) := hk 3 _ rfl
      have e4 : wr.cell? ⟨o, q + i * 14 + 4, none⟩ = some (.int .i64 bt) := hk 4 _ rfl
      have e5 : wr.cell? ⟨o, q + i * 14 + 5, none⟩ = some (.slice db dn dc) := hk 5 _ rfl
      have e6 : wr.cell? ⟨o, q + i * 14 + 6, none⟩ = some (.slice sb sn sc) := hk 6 _ rfl
      have e7 : wr.cell? ⟨o, q + i * 14 + 7, none⟩ = some (.int .i64 sz) := hk 7 _ rfl
      have e8 : wr.cell? ⟨o, q + i * 14 + 8, none⟩ = some (.int .i64 ag) := hk 8 _ rfl
      have e9 : wr.cell? ⟨o, q + i * 14 + 9, none⟩ = some (.int .i64 du) := hk 9 _ rfl
      have e10 : wr.cell? ⟨o, q + i * 14 + 10, none⟩ = some (.int .i64 gp) := hk 10 _ rfl
      have e11 : wr.cell? ⟨o, q + i * 14 + 11, none⟩ = some (.int .i64 gi) := hk 11 _ rfl
      have e12 : wr.cell? ⟨o, q + i * 14 + 12, none⟩ = some (.slice gb gn gc) := hk 12 _ rfl
      have e13 : wr.cell? ⟨o, q + i * 14 + 13, none⟩ = some (.bool ge) := hk 13 _ rfl
      clear hk hrow2
      have hcx := Lib.hid (hc.out ⟨p, i_, kd, ad, bt, db, dn, dc, sb, sn, sc, sz, ag, du, gp, gi, gb, gn, gc, ge⟩ wr hold'.out)
      cases hq : It.is ⟨p, i_, kd, ad, bt, db, dn, dc, sb, sn, sc, sz, ag, du, gp, gi, gb, gn, gc, ge⟩ port id with
      | true =>
        rw [hq] at hcx
        have hq' := Lib.hid hq
        clear hq
        go_wp2_with (go_at_call 42; refine hcx.out.mono ?_; rintro e w1 ⟨rfl, ho1⟩; have ho1' := Lib.hid ho1; clear ho1)
        go_ret
        refine ⟨i, rfl, ?_, hold'.out.trans ho1'.out⟩
        rw [decide_eq_true (by omega)]
        symm
        rw [List.any_eq_true]
        exact ⟨_, List.mem_of_getElem? hx'.out, hq'.out⟩
      | false =>
        rw [hq] at hcx
        have hq' := Lib.hid hq
        clear hq
        go_wp2_with (go_at_call 42; refine hcx.out.mono ?_; rintro e w1 ⟨rfl, ho1⟩; have ho1' := Lib.hid ho1; clear ho1)
        go_roundw
        case rel =>
          refine ⟨i + 1, by rw [hn.out]; omega, by go_num, hold'.out.trans ho1'.out, fun j y hj hy => ?_⟩
          rcases Nat.lt_or_ge j i with h | h
          · exact hno'.out j y h hy
          · obtain rfl : j = i := by omega
            rw [hx'.out] at hy
            cases hy
            exact hq'.out
        case measure => simp [intOf]; omega
    · obtain rfl : i = n := by omega
      go_wp2
      go_ret
      refine ⟨-1, rfl, ?_, hold'.out⟩
      rw [decide_eq_false (by omega)]
      symm
      rw [List.any_eq_false]
      intro y hy
      obtain ⟨j, hj⟩ := List.getElem?_of_mem hy
      have := hno'.out j y (by have := (List.getElem?_eq_some_iff.1 hj).1; have := hn.out; omega) hj
      simp [this]

set_option maxRecDepth 100000 in
theorem contains_calls {v : Value} {l : List It} {port id : Int} {pb ib : Nat} {w : World} (hv : Items w v l) (hl : l.length ≤ 1000) (h1 : w.cell? ⟨pb, 0, none⟩ = some (.int .i64 port)) (h2 : w.cell? ⟨ib, 0, none⟩ = some (.int .i64 id)) :
    Calls Try.prog 41 #[v, .func (.func 42) #[] #[.pointer (some ⟨pb, 0, none⟩), .pointer (some ⟨ib, 0, none⟩)]] w (RetBool (l.any (·.is port id)) w) := by
  have hc := Lib.hid (index_calls hv hl h1 h2)
  clear hv h1 h2
  go_enter Try.func41, Try.ntmps41
  go_wp2_with (go_at_call 51; refine hc.out.mono ?_; rintro e w1 ⟨r, rfl, hr, ho1⟩; have ho1' := Lib.hid ho1; clear ho1; have hr' := Lib.hid hr; clear hr)
  go_ret
  refine ⟨?_, ho1'.out⟩
  rw [← hr'.out]
  rfl
end Go.Proofs.Ytnpgjecifllnaaa
