/- What is proved here: Until, alone. Conditions: its list reads as records, their cells of the fields' kinds; the room of the copy. -/
import Derived.Test.YtofoplpnpfaofaaStop
set_option linter.unusedSimpArgs false
set_option linter.unusedVariables false
namespace Go.Proofs.Ytofoplpnpfaofaa
open Go Go.Conc Go.RowKit

def NoneBefore (pc : Int) (vs : List Value) (i : Nat) : Prop := ∀ j v, j < i → vs[j]? = some v → pcOf v ≠ pc
/-- Where it is cut: behind the first of that place, or at the end. -/
def Cut (pc : Int) (vs : List Value) (m : Nat) (found : Bool) : Prop :=
  (found = true ∧ ∃ i v, m = i + 1 ∧ NoneBefore pc vs i ∧ vs[i]? = some v ∧ pcOf v = pc) ∨ (found = false ∧ m = vs.length ∧ NoneBefore pc vs vs.length)

theorem Cut.unique {pc : Int} {vs : List Value} {m m' : Nat} {f f' : Bool} (h : Cut pc vs m f) (h' : Cut pc vs m' f') : m = m' ∧ f = f' := by
  have key : ∀ {i v j}, vs[i]? = some v → pcOf v = pc → NoneBefore pc vs j → j ≤ i := fun {i v j} hi hv hn => by
    rcases Nat.lt_or_ge i j with h | h
    · exact absurd hv (hn i v h hi)
    · exact h
  rcases h with ⟨rfl, i, v, rfl, h1, h2, h3⟩ | ⟨rfl, rfl, h1⟩ <;> rcases h' with ⟨rfl, i', v', rfl, k1, k2, k3⟩ | ⟨rfl, rfl, k1⟩
  · have := key h2 h3 k1
    have := key k2 k3 h1
    exact ⟨by omega, rfl⟩
  · have := key h2 h3 k1
    have := (List.getElem?_eq_some_iff.1 h2).1
    omega
  · have := key k2 k3 h1
    have := (List.getElem?_eq_some_iff.1 k2).1
    omega
  · exact ⟨rfl, rfl⟩

theorem Old.weak {w w1 : World} {p q : Nat → Prop} (h : Old w w1 p) (hpq : ∀ b, b < w.heap.size → p b → q b) : Old w w1 q := ⟨h.size, h.os, h.output, fun b hb hn => h.block b hb fun hp => hn (hpq b hb hp)⟩
theorem Old.trans' {w w1 w2 : World} {p : Nat → Prop} (h1 : Old w w1 p) (h2 : Old w1 w2 p) : Old w w2 p :=
  ⟨Nat.le_trans h1.size h2.size, h2.os.trans h1.os, h2.output.trans h1.output, fun b hb hn => (h2.block b (Nat.lt_of_lt_of_le hb h1.size) hn).trans (h1.block b hb hn)⟩

theorem RowAt.take {w : World} {b : Option Addr} {vs : List Value} (h : RowAt w b vs) (m : Nat) : RowAt w b (vs.take m) := fun i v hi => h i v (by
  rw [List.getElem?_take] at hi
  split at hi
  · exact hi
  · cases hi)

def RetCut (pc : Int) (vs : List Value) (ab : Nat) (w : World) (e : Ending) (w' : World) : Prop :=
  ∃ v m found, e = .returned (.tuple #[v, .bool found]) ∧ Cut pc vs m found ∧ Rows w' v (vs.take m) ∧ Old w w' (fun b => b = ab) ∧ w'.heap[ab]? = some (.cells #[.int .i64 ((m : Nat) : Int)] 3 (0, 0))
def AtU (pc : Int) (vs : List Value) (ab : Nat) (w : World) (n : Nat) (v6 v7 v14 : Value) (wr : World) : Prop :=
  v6 = .int .i64 n ∧ v7 = .bool false ∧ ∃ i : Nat, i ≤ n ∧ v14 = .int .i64 i ∧ Old w wr (fun b => b = ab) ∧ wr.heap[ab]? = some (.cells #[.int .i64 i] 3 (0, 0)) ∧ NoneBefore pc vs i

/-- The twelve cells of a record that stands there. -/
theorem rec_cells {w : World} {o q : Nat} {a0 a1 a2 a3 a4 a5 a6 a7 a8 a9 a10 a11 : Value} (h : w.rangeAt o q [a0, a1, a2, a3, a4, a5, a6, a7, a8, a9, a10, a11]) :
    w.cell? ⟨o, q, none⟩ = some a0 ∧ w.cell? ⟨o, q + 1, none⟩ = some a1 ∧ w.cell? ⟨o, q + 2, none⟩ = some a2 ∧ w.cell? ⟨o, q + 3, none⟩ = some a3 ∧ w.cell? ⟨o, q + 4, none⟩ = some a4 ∧ w.cell? ⟨o, q + 5, none⟩ = some a5 ∧
    w.cell? ⟨o, q + 6, none⟩ = some a6 ∧ w.cell? ⟨o, q + 7, none⟩ = some a7 ∧ w.cell? ⟨o, q + 8, none⟩ = some a8 ∧ w.cell? ⟨o, q + 9, none⟩ = some a9 ∧ w.cell? ⟨o, q + 10, none⟩ = some a10 ∧ w.cell? ⟨o, q + 11, none⟩ = some a11 :=
  ⟨h 0 _ rfl, h 1 _ rfl, h 2 _ rfl, h 3 _ rfl, h 4 _ rfl, h 5 _ rfl, h 6 _ rfl, h 7 _ rfl, h 8 _ rfl, h 9 _ rfl, h 10 _ rfl, h 11 _ rfl⟩

set_option maxRecDepth 100000 in
theorem until_calls {b1 : Option Addr} {n c1 ab pb : Nat} {pc : Int} {vs : List Value} {w : World} (hl : vs.length = n) (hv : ∀ v ∈ vs, RecT v) (h1 : RowAt w b1 vs) (hb : n * 88 ≤ 140737488355328) (hnc : n ≤ c1) (hbb : b1 = none ∨ ∃ g o, b1 = some ⟨g, o, none⟩) (hab : ∀ g o, b1 = some ⟨g, o, none⟩ → 0 < n → g ≠ ab)
    (ha : w.heap[ab]? = some (.cells #[.int .i64 0] 3 (0, 0))) (hp : w.cell? ⟨pb, 0, none⟩ = some (.int .u64 pc)) (hpb : pb < w.heap.size) (hne : ab ≠ pb) :
    Calls Try.prog 11 #[.slice b1 n c1, .func (.func 12) #[] #[.pointer (some ⟨ab, 0, none⟩), .pointer (some ⟨pb, 0, none⟩)]] w (RetCut pc vs ab w) := by
  have hclone := fun (m : Nat) (hm : m ≤ n) (w1 : World) (ho : Old w w1 (fun b => b = ab)) (hr : RowAt w1 b1 (vs.take m)) => clone_calls (cap := c1) (vs := vs.take m) (n := m) (by rw [List.length_take]; omega) (fun v hv' => (hv v (List.mem_of_mem_take hv')).rec) hr (by omega)
  have hkeep : ∀ w1, Old w w1 (fun b => b = ab) → RowAt w1 b1 vs := by
    intro w1 ho i v hi
    obtain ⟨o, q, e, hb, hr⟩ := h1 i v hi
    exact ⟨o, q, e, Nat.lt_of_lt_of_le hb ho.size, ho.range hb (hab o q e (by have := (List.getElem?_eq_some_iff.1 hi).1; omega)) hr⟩
  have hcl := Lib.hid hclone
  have hk := Lib.hid hkeep
  have hl' := Lib.hid hl
  have hv' := Lib.hid hv
  have ha' := Lib.hid ha
  have hp' := Lib.hid hp
  have hpb' := Lib.hid hpb
  have hb' := Lib.hid hb
  have hbb' := Lib.hid hbb
  have hnil : ∀ w, (Go.binOp .neq 38 (.func (.func 12) #[] #[.pointer (some ⟨ab, 0, none⟩), .pointer (some ⟨pb, 0, none⟩)]) .nilFunc).run Try.prog w = .ok (.bool true) w := fun w => rfl
  have h63 : n ≤ 9223372036854775806 := by omega
  clear hclone hkeep hl hv h1 ha hp hpb hb hbb hab
  go_enter Try.func11, Try.ntmps11
  go_wp2
  go_step3
  go_wp2
  go_step3
  go_wp2
  go_loopw [6, 7, 14] (fun v6 v7 v14 wr => AtU pc vs ab w n v6 v7 v14 wr) (fun _ _ v _ => n - (intOf v).toNat)
  case atStart => exact ⟨rfl, rfl, 0, Nat.zero_le _, rfl, Old.refl _ _, ha'.out, fun j v h => by omega⟩
  case round =>
    obtain ⟨rfl, rfl, i, hi, rfl, ho, hai, hno⟩ := hrel
    have hai' := Lib.hid hai
    clear hai
    by_cases hlt : i < n
    · obtain ⟨v, hvi⟩ : ∃ v, vs[i]? = some v := ⟨vs[i]'(by have := hl'.out; omega), List.getElem?_eq_getElem _⟩
      have hvt := hv'.out v (List.mem_of_getElem? hvi)
      obtain ⟨o1, q1, rfl, hb1, hr1⟩ := hk.out wr ho i v hvi
      have hvi' := Lib.hid hvi
      have hpw := (ho.cell (g := pb) (o := 0) hpb'.out (fun e => hne e.symm)).trans hp'.out
      have hpb2 : pb < wr.heap.size := Nat.lt_of_lt_of_le hpb'.out ho.size
      have hst := fun (w1 : World) (h1 : w1.heap[ab]? = some (.cells #[.int .i64 i] 3 (0, 0))) (h2 : w1.cell? ⟨pb, 0, none⟩ = some (.int .u64 pc)) => stop_calls hvt h1 h2 (by omega) hne
      have habw := lt_of_heap hai'.out
      have hbefore : ∀ w1 : World, Old wr w1 (fun b => b = ab) → Old w w1 (fun b => b = ab) := fun w1 h => ho.trans' h
      have hpw' := Lib.hid hpw
      have hb2 := Lib.hid hbefore
      have hho := Lib.hid ho
      clear hpw hbefore
      cases hq : (pcOf v == pc) with
      | true =>
        have hcut : Cut pc vs (i + 1) true := .inl ⟨rfl, i, v, rfl, hno, hvi, by simpa using hq⟩
        rw [hq] at hst
        have hcut' := Lib.hid hcut
        have hst' := Lib.hid hst
        clear hcut hst hq hvi ho hno hvi'
        obtain ⟨a0, a1, a2, a3, a4, a5, a6, a7, a8, a9, a10, a11, rfl⟩ := hvt
        obtain ⟨e0, e1, e2, e3, e4, e5, e6, e7, e8, e9, e10, e11⟩ := rec_cells hr1
        clear hr1
        go_wp2_with (go_at_call 12; refine (hst'.out _ ((alloc_old habw).trans hai'.out) ((World.cell?_of_block (alloc_old hpb2)).trans hpw'.out)).mono ?_; rintro e w1 ⟨rfl, ho1, h1⟩; have h1' := Lib.hid h1; clear h1; have ho1' := Lib.hid ho1; clear ho1)
        have hos := Old.trans' (hho.out) (Old.trans' (((Old.refl wr (fun _ => False)).alloc _).weak (q := fun b => b = ab) (fun _ _ h => h.elim)) ho1'.out)
        have hos' := Lib.hid hos
        clear hos
        have hx := Lib.hid (hcl.out (i + 1) (by omega) w1 hos'.out ((hk.out w1 hos'.out).take (i + 1)))
        refine hx.out.mono ?_
        rintro e w2 ⟨v', rfl, hr', ho2⟩
        go_wp2
        go_ret2
        exact ⟨v', i + 1, true, rfl, hcut'.out, hr', hos'.out.trans' (ho2.weak (fun _ _ h => h.elim)), (ho2.block ab (lt_of_heap h1'.out) id).trans h1'.out⟩
      | false =>
        have hno2 : NoneBefore pc vs (i + 1) := by
          intro j u hj hu
          rcases Nat.lt_or_ge j i with h | h
          · exact hno j u h hu
          · obtain rfl : j = i := by omega
            rw [hvi] at hu
            cases hu
            simpa using hq
        rw [hq] at hst
        have hno2' := Lib.hid hno2
        have hst' := Lib.hid hst
        clear hno2 hst hq hvi ho hno hvi'
        obtain ⟨a0, a1, a2, a3, a4, a5, a6, a7, a8, a9, a10, a11, rfl⟩ := hvt
        obtain ⟨e0, e1, e2, e3, e4, e5, e6, e7, e8, e9, e10, e11⟩ := rec_cells hr1
        clear hr1
        go_wp2_with (go_at_call 12; refine (hst'.out _ ((alloc_old habw).trans hai'.out) ((World.cell?_of_block (alloc_old hpb2)).trans hpw'.out)).mono ?_; rintro e w1 ⟨rfl, ho1, h1⟩; have h1' := Lib.hid h1; clear h1; have ho1' := Lib.hid ho1; clear ho1)
        have hos := Old.trans' (hho.out) (Old.trans' (((Old.refl wr (fun _ => False)).alloc _).weak (q := fun b => b = ab) (fun _ _ h => h.elim)) ho1'.out)
        go_roundw
        case rel => exact ⟨rfl, rfl, i + 1, by omega, by go_num, hos, h1'.out, hno2'.out⟩
        case measure => simp [intOf]; omega
    · obtain rfl : i = n := by omega
      have hcut : Cut pc vs i false := .inr ⟨rfl, hl'.out.symm, by rw [hl'.out]; exact hno⟩
      have hcut' := Lib.hid hcut
      have ho' := Lib.hid ho
      clear hcut ho hno
      have hx := Lib.hid (hcl.out i (Nat.le_refl _) wr ho'.out ((hk.out wr ho'.out).take i))
      rcases hbb'.out with rfl | ⟨g, o, rfl⟩
      · go_wp2_with fail
        refine hx.out.mono ?_
        rintro e w2 ⟨v', rfl, hr', ho2⟩
        go_wp2
        go_ret2
        exact ⟨v', i, false, rfl, hcut'.out, hr', ho'.out.trans' (ho2.weak (fun _ _ h => h.elim)), (ho2.block ab (lt_of_heap hai'.out) id).trans hai'.out⟩
      · go_wp2_with fail
        refine hx.out.mono ?_
        rintro e w2 ⟨v', rfl, hr', ho2⟩
        go_wp2
        go_ret2
        exact ⟨v', i, false, rfl, hcut'.out, hr', ho'.out.trans' (ho2.weak (fun _ _ h => h.elim)), (ho2.block ab (lt_of_heap hai'.out) id).trans hai'.out⟩

def RetAll (vs : List Value) (w : World) (e : Ending) (w' : World) : Prop := ∃ v, e = .returned (.tuple #[v, .bool false]) ∧ Rows w' v vs ∧ Old w w' (fun _ => False)
def AtN (w : World) (n : Nat) (v6 v7 v14 : Value) (wr : World) : Prop := v6 = .int .i64 n ∧ v7 = .bool false ∧ ∃ i : Nat, i ≤ n ∧ v14 = .int .i64 i ∧ Old w wr (fun _ => False)

set_option maxRecDepth 100000 in
theorem until_nil {b1 : Option Addr} {n c1 : Nat} {vs : List Value} {w : World} (hl : vs.length = n) (hv : ∀ v ∈ vs, RecT v) (h1 : RowAt w b1 vs) (hb : n * 88 ≤ 140737488355328) (hnc : n ≤ c1) (hbb : b1 = none ∨ ∃ g o, b1 = some ⟨g, o, none⟩) :
    Calls Try.prog 11 #[.slice b1 n c1, .nilFunc] w (RetAll vs w) := by
  have hclone := fun (w1 : World) (hr : RowAt w1 b1 vs) => clone_calls (cap := c1) (vs := vs) (n := n) hl (fun v hv' => (hv v hv').rec) hr (by omega)
  have hkeep : ∀ w1, Old w w1 (fun _ => False) → RowAt w1 b1 vs := fun w1 ho => h1.mono ho
  have hcl := Lib.hid hclone
  have hk := Lib.hid hkeep
  have hl' := Lib.hid hl
  have hv' := Lib.hid hv
  have hb' := Lib.hid hb
  have hbb' := Lib.hid hbb
  have hnil : ∀ w, (Go.binOp .neq 38 .nilFunc .nilFunc).run Try.prog w = .ok (.bool false) w := fun w => rfl
  have h63 : n ≤ 9223372036854775806 := by omega
  clear hclone hkeep hl hv h1 hb hbb
  go_enter Try.func11, Try.ntmps11
  go_wp2
  go_step3
  go_wp2
  go_step3
  go_wp2
  go_loopw [6, 7, 14] (fun v6 v7 v14 wr => AtN w n v6 v7 v14 wr) (fun _ _ v _ => n - (intOf v).toNat)
  case atStart => exact ⟨rfl, rfl, 0, Nat.zero_le _, rfl, Old.refl _ _⟩
  case round =>
    obtain ⟨rfl, rfl, i, hi, rfl, ho⟩ := hrel
    by_cases hlt : i < n
    · obtain ⟨v, hvi⟩ : ∃ v, vs[i]? = some v := ⟨vs[i]'(by have := hl'.out; omega), List.getElem?_eq_getElem _⟩
      have hvt := hv'.out v (List.mem_of_getElem? hvi)
      obtain ⟨o1, q1, rfl, hb1, hr1⟩ := hk.out wr ho i v hvi
      have hho := Lib.hid ho
      obtain ⟨a0, a1, a2, a3, a4, a5, a6, a7, a8, a9, a10, a11, rfl⟩ := hvt
      obtain ⟨e0, e1, e2, e3, e4, e5, e6, e7, e8, e9, e10, e11⟩ := rec_cells hr1
      clear hvi hr1 ho
      go_wp2
      go_roundw
      case rel => exact ⟨rfl, rfl, i + 1, by omega, by go_num, hho.out.alloc _⟩
      case measure => simp [intOf]; omega
    · obtain rfl : i = n := by omega
      have ho' := Lib.hid ho
      clear ho
      have hx := Lib.hid (hcl.out wr (hk.out wr ho'.out))
      rcases hbb'.out with rfl | ⟨g, o, rfl⟩
      · go_wp2_with fail
        refine hx.out.mono ?_
        rintro e w2 ⟨v', rfl, hr', ho2⟩
        go_wp2
        go_ret2
        exact ⟨v', rfl, hr', ho'.out.trans ho2⟩
      · go_wp2_with fail
        refine hx.out.mono ?_
        rintro e w2 ⟨v', rfl, hr', ho2⟩
        go_wp2
        go_ret2
        exact ⟨v', rfl, hr', ho'.out.trans ho2⟩
end Go.Proofs.Ytofoplpnpfaofaa
