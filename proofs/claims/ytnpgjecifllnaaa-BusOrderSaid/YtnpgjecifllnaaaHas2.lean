/- What is proved here: whether a transaction waits, or is under way: has. Conditions: the block reads as the bus. -/
import Derived.Test.YtnpgjecifllnaaaHas
set_option linter.unusedSimpArgs false
set_option linter.unusedVariables false
namespace Go.Proofs.Ytnpgjecifllnaaa
open Go Go.Conc Go.RowKit

def hasB (q : List It) (bs : List It) (port id : Int) : Bool := q.any (fun x => x.id == id) || bs.any (·.is port id)
def At31 (q : List It) (id : Int) (w : World) (v : Value) (wr : World) : Prop := ∃ i : Nat, i ≤ q.length ∧ v = .int .i64 ((i : Nat) : Int) ∧ SameW w wr ∧ ∀ j x, j < i → q[j]? = some x → x.id ≠ id

theorem remAt (hd i k : Nat) (h4 : hd < 4) (hi : i ≤ 4) (hk : (hd + i) % 4 = k) : (IntKind.i64.wrap (((hd : Nat) : Int) + ((i : Nat) : Int))).tmod 4 = ((k : Nat) : Int) := by
  have h : IntKind.i64.wrap (((hd : Nat) : Int) + ((i : Nat) : Int)) = ((hd : Nat) : Int) + ((i : Nat) : Int) := by rw [IntKind.wrap_i64]; omega
  rw [h, Int.tmod_eq_emod_of_nonneg (by omega)]
  omega

set_option maxHeartbeats 1000000 in
set_option maxRecDepth 100000 in
theorem has_calls {B k hd : Nat} {q bs : List It} {bv : Value} {id : Int} {w : World} (hB : B < w.heap.size) (hk : k < 3) (hr : Ring w B (2 + k * 58) hd q) (hbc : w.cell? ⟨B, 176, none⟩ = some bv) (hbv : Items w bv bs) (hbl : bs.length ≤ 1000) :
    Calls Try.prog 31 #[.pointer (some ⟨B, 0, none⟩), .int .i64 ((k : Nat) : Int), .int .i64 id] w (RetBool (hasB q bs k id) w) := by
  obtain ⟨n, hn0⟩ : ∃ n, q.length = n := ⟨_, rfl⟩
  have hn := Lib.hid hn0
  have hn4 : n ≤ 4 := by rw [← hn0]; exact hr.len
  have hd4 := hr.hd4
  have hr' := Lib.hid hr
  have hB' := Lib.hid hB
  have hk0 : (0 : Int) ≤ (k : Int) := by omega
  have hk1 : (k : Int) < 3 := by omega
  have hW : Hid (Old w ((w.alloc (.cells #[.int .i64 ((k : Nat) : Int)] 3)).alloc (.cells #[.int .i64 id] 3)) No) := ((Old.refl w No).alloc _).alloc _
  obtain ⟨base, cap, rfl, hbr⟩ := hbv
  have hbv' : Hid (Items w (.slice base bs.length cap) bs) := ⟨base, cap, rfl, hbr⟩
  have hbl' := Lib.hid hbl
  have hbc' := Lib.hid hbc
  have c57 : w.cell? ⟨B, 2 + k * 58 + 57, none⟩ = some (.int .i64 ((n : Nat) : Int)) := by have h := hr.num; rw [hn0] at h; exact h
  clear hr hn0 hbr hbl hbc
  go_enter Try.func31, Try.ntmps31
  go_wp2_with fail
  go_quiet (fail)
  go_wp2_with fail
  have hb1 : Hid (((w.alloc (.cells #[.int .i64 ((k : Nat) : Int)] 3)).alloc (.cells #[.int .i64 id] 3)).cell? ⟨w.heap.size, 0, none⟩ = some (.int .i64 ((k : Nat) : Int))) := by
    have h : ((w.alloc (.cells #[.int .i64 ((k : Nat) : Int)] 3)).alloc (.cells #[.int .i64 id] 3)).heap[w.heap.size]? = some (.cells #[.int .i64 ((k : Nat) : Int)] 3 (0, 0)) := (al_old (by rw [al_size]; omega)).trans al_new
    simp [Hid, World.cell?, h]
  have hb2 : Hid (((w.alloc (.cells #[.int .i64 ((k : Nat) : Int)] 3)).alloc (.cells #[.int .i64 id] 3)).cell? ⟨w.heap.size + 1, 0, none⟩ = some (.int .i64 id)) := by
    have h := al_new (w := w.alloc (.cells #[.int .i64 ((k : Nat) : Int)] 3)) (o := .cells #[.int .i64 id] 3 (0, 0))
    rw [al_size] at h
    show World.cell? _ _ = _
    unfold World.cell?
    rw [h]
    rfl
  generalize (w.alloc (.cells #[.int .i64 ((k : Nat) : Int)] 3)).alloc (.cells #[.int .i64 id] 3) = W at hW hb1 hb2 ⊢
  have hb1d : Hid ((W.drewN nq).cell? ⟨w.heap.size, 0, none⟩ = some (.int .i64 ((k : Nat) : Int))) := hb1.out
  have hb2d : Hid ((W.drewN nq).cell? ⟨w.heap.size + 1, 0, none⟩ = some (.int .i64 id)) := hb2.out
  have hWd : Hid (Old w (W.drewN nq) No) := hW.out.drewN nq
  clear hb1 hb2 hW
  generalize W.drewN nq = V at hWd hb1d hb2d ⊢
  have hrV : Hid (Ring V B (2 + k * 58) hd q) := hr'.out.on hWd.out hB'.out (fun h => h)
  have hbV : Hid (V.cell? ⟨B, 176, none⟩ = some (.slice base bs.length cap)) := (hWd.out.cell hB'.out (fun h => h)).trans hbc'.out
  clear c57
  go_outline
  go_loopw [18] (fun v wr => At31 q id V v wr) (fun v _ => n - (intOf v).toNat)
  case atStart => exact ⟨0, Nat.zero_le _, rfl, ⟨rfl, rfl, rfl⟩, fun j x h => by omega⟩
  case round =>
    obtain ⟨i, hi2, rfl, hsame, hno⟩ := hrel
    have hs' := Lib.hid hsame
    have hno' := Lib.hid hno
    rw [hn.out] at hi2
    clear hsame hno
    by_cases hlt : i < n
    · obtain ⟨x, hx⟩ : ∃ x, q[i]? = some x := ⟨q[i]'(by rw [hn.out]; exact hlt), List.getElem?_eq_getElem _⟩
      obtain ⟨k1, hk1'⟩ : ∃ k1, (hd + i) % 4 = k1 := ⟨_, rfl⟩
      have hrow := hrV.out.item i x hx
      rw [hk1'] at hrow
      have cid : wr.cell? ⟨B, 2 + k * 58 + k1 * 14 + 1, none⟩ = some (.int .i64 x.id) := (hs'.out.cell _).trans (hrow 1 _ rfl)
      have c56 : wr.cell? ⟨B, 2 + k * 58 + 56, none⟩ = some (.int .i64 ((hd : Nat) : Int)) := (hs'.out.cell _).trans hrV.out.head
      have cb : wr.cell? ⟨w.heap.size + 1, 0, none⟩ = some (.int .i64 id) := (hs'.out.cell _).trans hb2d.out
      have hx' := Lib.hid hx
      have hk4 : k1 < 4 := by omega
      have hk40 : (0 : Int) ≤ (k1 : Int) := by omega
      have hk41 : (k1 : Int) < 4 := by omega
      have hrem := remAt hd i k1 hd4 (by omega) hk1'
      clear hx hrow hk1'
      cases hq : (x.id == id) with
      | true =>
        have hq' := Lib.hid hq
        go_wp2_with fail
        go_quiet (fail)
        go_wp2_with fail
        go_ret
        refine ⟨?_, (hWd.out.trans hs'.out.old).drewN _⟩
        have hb : hasB q bs k id = true := by
          unfold hasB
          have : q.any (fun x => x.id == id) = true := List.any_eq_true.2 ⟨x, List.mem_of_getElem? hx'.out, hq'.out⟩
          rw [this]
          rfl
        rw [hb]
        rfl
      | false =>
        have hq' := Lib.hid hq
        go_wp2_with fail
        go_quiet (fail)
        go_wp2_with fail
        go_roundw
        case rel =>
          refine ⟨i + 1, by rw [hn.out]; omega, by go_num, ⟨hs'.out.1, hs'.out.2.1, hs'.out.2.2⟩, fun j y hj hy => ?_⟩
          rcases Nat.lt_or_ge j i with h | h
          · exact hno'.out j y h hy
          · obtain rfl : j = i := by omega
            rw [hx'.out] at hy
            cases hy
            simpa using hq'.out
        case measure => simp [intOf]; omega
    · obtain rfl : i = n := by omega
      have hbw : wr.cell? ⟨B, 176, none⟩ = some (.slice base bs.length cap) := (hs'.out.cell _).trans hbV.out
      have hcc := Lib.hid (contains_calls (w := wr) (hbv'.out.on (hWd.out.trans hs'.out.old)) hbl'.out ((hs'.out.cell _).trans hb1d.out) ((hs'.out.cell _).trans hb2d.out))
      have hqf : Hid (hasB q bs k id = bs.any (·.is k id)) := by
        show hasB q bs k id = _
        unfold hasB
        have : q.any (fun x => x.id == id) = false := by
          rw [List.any_eq_false]
          intro y hy
          obtain ⟨j, hj⟩ := List.getElem?_of_mem hy
          have h := hno'.out j y (by have := (List.getElem?_eq_some_iff.1 hj).1; have := hn.out; omega) hj
          simpa using h
        rw [this]
        rfl
      go_wp2_with (go_at_call 41; refine hcc.out.mono ?_; rintro e w1 ⟨rfl, ho1⟩; have ho1' := Lib.hid ho1; clear ho1)
      go_ret
      exact ⟨by rw [hqf.out]; rfl, (hWd.out.trans hs'.out.old).trans ho1'.out⟩
end Go.Proofs.Ytnpgjecifllnaaa
