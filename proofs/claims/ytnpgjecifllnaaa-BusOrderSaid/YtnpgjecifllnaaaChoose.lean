/- What is proved here: which port's first one is taken. Conditions: the block reads as the bus. -/
import Derived.Test.YtnpgjecifllnaaaAsk
set_option linter.unusedSimpArgs false
set_option linter.unusedVariables false
namespace Go.Proofs.Ytnpgjecifllnaaa
open Go Go.Conc Go.RowKit

/-- The oldest so far, among the first k ports' first ones that have waited long. -/
def betterB (q : Nat → List It) (b : Option Nat) (k : Nat) : Bool :=
  match q k with
  | [] => false
  | x :: _ => decide (8 ≤ x.age) && (match b with
    | none => true
    | some j => match q j with
      | [] => false
      | y :: _ => decide (y.age < x.age))
def bestOf (q : Nat → List It) : Nat → Option Nat
  | 0 => none
  | k + 1 => if betterB q (bestOf q k) k = true then some k else bestOf q k
def optI : Option Nat → Int
  | none => -1
  | some k => (k : Int)
def atOf (pick : Int) (i : Nat) : Nat := (((pick.tmod 3 + 3).tmod 3).toNat + i) % 3
def chooseF (q : Nat → List It) (pick : Int) : Int :=
  match bestOf q 3 with
  | some k => (k : Int)
  | none => if q (atOf pick 0) ≠ [] then (atOf pick 0 : Int) else if q (atOf pick 1) ≠ [] then (atOf pick 1 : Int) else if q (atOf pick 2) ≠ [] then (atOf pick 2 : Int) else -1

theorem best_spec (q : Nat → List It) : ∀ k j, bestOf q k = some j → j < k ∧ ∃ x r, q j = x :: r ∧ 8 ≤ x.age := by
  intro k
  induction k with
  | zero => intro j h; cases h
  | succ k ih =>
    intro j h
    unfold bestOf at h
    split at h
    · rename_i hb
      cases h
      refine ⟨by omega, ?_⟩
      unfold betterB at hb
      split at hb
      · cases hb
      · rename_i x r e
        simp only [Bool.and_eq_true, decide_eq_true_eq] at hb
        exact ⟨x, r, e, hb.1⟩
    · obtain ⟨h1, h2⟩ := ih j h
      exact ⟨by omega, h2⟩

def At45 (q : Nat → List It) (w : World) (v5 v10 : Value) (wr : World) : Prop := ∃ k : Nat, k ≤ 3 ∧ v10 = .int .i64 ((k : Nat) : Int) ∧ v5 = .int .i64 (optI (bestOf q k)) ∧ SameW w wr
def RetCh (c : Int) (w : World) (e : Ending) (w' : World) : Prop := e = .returned (.int .i64 c) ∧ SameW w w'

theorem SameW.ring {w w1 : World} {B off hd : Nat} {q : List It} (h : SameW w w1) (hr : Ring w B off hd q) : Ring w1 B off hd q := by
  refine ⟨hr.hd4, hr.len, (h.cell _).trans hr.head, (h.cell _).trans hr.num, fun j x hj i v hi => (h.cell _).trans (hr.item j x hj i v hi), fun j hj => ?_⟩
  have := hr.room j hj
  rw [h.cell]
  refine ⟨this.1, ?_⟩
  unfold World.frozen? at this ⊢
  rw [h.1]
  exact this.2

theorem Ring.drewN {w : World} {B off hd : Nat} {q : List It} (h : Ring w B off hd q) (n : Nat) : Ring (w.drewN n) B off hd q := SameW.ring (w := w) ⟨rfl, rfl, rfl⟩ h

set_option maxHeartbeats 2000000 in
set_option maxRecDepth 100000 in
theorem choose_calls {B : Nat} {hd : Nat → Nat} {q : Nat → List It} {pick : Int} {w : World} (hr : ∀ k, k < 3 → Ring w B (2 + k * 58) (hd k) (q k)) :
    Calls Try.prog 45 #[.pointer (some ⟨B, 0, none⟩), .int .i64 pick] w (RetCh (chooseF q pick) w) := by
  have hr' := Lib.hid hr
  clear hr
  go_enter Try.func45, Try.ntmps45
  go_wp2
  go_loopw [5, 10] (fun v5 v10 wr => At45 q w v5 v10 wr) (fun _ v10 _ => 3 - (intOf v10).toNat)
  case atStart => exact ⟨0, by omega, rfl, rfl, ⟨rfl, rfl, rfl⟩⟩
  case round =>
    obtain ⟨k, hk, rfl, rfl, hsame⟩ := hrel
    have hs' := Lib.hid hsame
    clear hsame
    by_cases hlt : k < 3
    · have hring := hs'.out.ring (hr'.out k hlt)
      have hring' := Lib.hid hring
      have hk0 : (0 : Int) ≤ (k : Int) := by omega
      have hk1 : (k : Int) < 3 := by omega
      have c57 := hring.num
      cases hq : q k with
      | nil =>
        rw [hq] at c57
        have hb : Hid (bestOf q (k + 1) = bestOf q k) := by
          show bestOf q (k + 1) = bestOf q k
          rw [bestOf, if_neg]
          unfold betterB
          rw [hq]
          simp
        clear hq hring
        simp only [List.length_nil] at c57
        go_wp2_with fail
        go_quiet (fail)
        go_wp2_with fail
        go_roundw
        case rel => exact ⟨k + 1, by omega, by go_num, by rw [hb.out], ⟨hs'.out.1, hs'.out.2.1, hs'.out.2.2⟩⟩
        case measure => simp [intOf]; omega
      | cons x r =>
        rw [hq] at c57
        simp only [List.length_cons] at c57
        have hq' := Lib.hid hq
        obtain ⟨h0, hh0⟩ : ∃ h0, hd k = h0 := ⟨_, rfl⟩
        have cage : wr.cell? ⟨B, 2 + k * 58 + h0 * 14 + 8, none⟩ = some (.int .i64 x.age) := by
          have h := hring.item 0 x (by rw [hq]; rfl)
          rw [Nat.add_zero, Nat.mod_eq_of_lt hring.hd4, hh0] at h
          exact h 8 _ rfl
        have hf : Hid (∀ n, Calls Try.prog 52 #[.pointer (some ⟨B, 2 + k * 58, none⟩)] (wr.drewN n) fun e w'' => e = .returned (.pointer (some ⟨B, 2 + k * 58 + h0 * 14, none⟩)) ∧ ∃ m, w'' = wr.drewN m) := fun n => Calls.quiet_of (hh0 ▸ first_calls (hring'.out.drewN n))
        clear hq hring hh0
        by_cases ha : 8 ≤ x.age
        · cases hbest : bestOf q k with
          | none =>
            have hb : Hid (bestOf q (k + 1) = some k) := by
              show bestOf q (k + 1) = some k
              rw [bestOf, if_pos]
              unfold betterB
              rw [hq'.out, hbest]
              simp [ha]
            clear hbest
            simp only [optI]
            go_wp2_with fail
            go_quiet (with_reducible exact hf.out _)
            go_wp2_with fail
            go_roundw
            case rel => exact ⟨k + 1, by omega, by go_num, by rw [hb.out]; rfl, ⟨hs'.out.1, hs'.out.2.1, hs'.out.2.2⟩⟩
            case measure => simp [intOf]; omega
          | some j =>
            obtain ⟨hjk, y, r2, hqj, hy8⟩ := best_spec q k j hbest
            have hj0 : (0 : Int) ≤ (j : Int) := by omega
            have hj1 : (j : Int) < 3 := by omega
            have hringj := hs'.out.ring (hr'.out j (by omega))
            obtain ⟨h1, hh1⟩ : ∃ h1, hd j = h1 := ⟨_, rfl⟩
            have cagej : wr.cell? ⟨B, 2 + j * 58 + h1 * 14 + 8, none⟩ = some (.int .i64 y.age) := by
              have h := hringj.item 0 y (by rw [hqj]; rfl)
              rw [Nat.add_zero, Nat.mod_eq_of_lt hringj.hd4, hh1] at h
              exact h 8 _ rfl
            have hfj : Hid (∀ n, Calls Try.prog 52 #[.pointer (some ⟨B, 2 + j * 58, none⟩)] (wr.drewN n) fun e w'' => e = .returned (.pointer (some ⟨B, 2 + j * 58 + h1 * 14, none⟩)) ∧ ∃ m, w'' = wr.drewN m) := fun n => Calls.quiet_of (hh1 ▸ first_calls (hringj.drewN n))
            have hjneg : decide ((j : Int) < 0) = false := by simp
            by_cases hc : y.age < x.age
            · have hb : Hid (bestOf q (k + 1) = some k) := by
                show bestOf q (k + 1) = some k
                rw [bestOf, if_pos]
                unfold betterB
                rw [hq'.out, hbest]
                simp [ha, hqj, hc]
              have hcd : decide (y.age < x.age) = true := by simpa using hc
              clear hbest hqj hringj hh1
              simp only [optI]
              go_wp2_with fail
              go_quiet (first | (with_reducible exact hf.out _) | (with_reducible exact hfj.out _))
              go_wp2_with fail
              go_roundw
              case rel => exact ⟨k + 1, by omega, by go_num, by rw [hb.out]; rfl, ⟨hs'.out.1, hs'.out.2.1, hs'.out.2.2⟩⟩
              case measure => simp [intOf]; omega
            · have hb : Hid (bestOf q (k + 1) = some j) := by
                show bestOf q (k + 1) = some j
                rw [bestOf, if_neg, hbest]
                unfold betterB
                rw [hq'.out, hbest]
                simp [ha, hqj, hc]
              have hcd : decide (y.age < x.age) = false := by simpa using hc
              clear hbest hqj hringj hh1
              simp only [optI]
              go_wp2_with fail
              go_quiet (first | (with_reducible exact hf.out _) | (with_reducible exact hfj.out _))
              go_wp2_with fail
              go_roundw
              case rel => exact ⟨k + 1, by omega, by go_num, by rw [hb.out]; rfl, ⟨hs'.out.1, hs'.out.2.1, hs'.out.2.2⟩⟩
              case measure => simp [intOf]; omega
        · have hb : Hid (bestOf q (k + 1) = bestOf q k) := by
            show bestOf q (k + 1) = bestOf q k
            rw [bestOf, if_neg]
            unfold betterB
            rw [hq'.out]
            simp [ha]
          have had : decide (8 ≤ x.age) = false := by simpa using ha
          go_wp2_with fail
          go_quiet (with_reducible exact hf.out _)
          go_wp2_with fail
          go_roundw
          case rel => exact ⟨k + 1, by omega, by go_num, by rw [hb.out], ⟨hs'.out.1, hs'.out.2.1, hs'.out.2.2⟩⟩
          case measure => simp [intOf]; omega
    · obtain rfl : k = 3 := by omega
      cases hbest : bestOf q 3 with
      | some j =>
        have hch : Hid (chooseF q pick = (j : Int)) := by
          show chooseF q pick = (j : Int)
          unfold chooseF
          rw [hbest]
        have hj0 : (0 : Int) ≤ (j : Int) := by omega
        clear hbest
        simp only [optI]
        go_wp2
        go_ret
        exact ⟨by rw [hch.out]; rfl, hs'.out⟩
      | none =>
        have hbest' := Lib.hid hbest
        clear hbest
        simp only [optI]
        have hrlo : -3 < pick.tmod 3 := by have := Int.lt_tmod_of_pos pick (b := 3) (by omega); omega
        have hrhi : pick.tmod 3 < 3 := Int.tmod_lt_of_pos pick (by omega)
        obtain ⟨a, ha⟩ : ∃ a : Nat, (pick.tmod 3 + 3).tmod 3 = (a : Int) := ⟨((pick.tmod 3 + 3).tmod 3).toNat, by rw [Int.tmod_eq_emod_of_nonneg (by omega)]; omega⟩
        have ha3 : a < 3 := by rw [Int.tmod_eq_emod_of_nonneg (by omega)] at ha; omega
        have hat : Hid (∀ i, atOf pick i = (a + i) % 3) := fun i => by unfold atOf; rw [ha]; rfl
        go_wp2
        go_loopw [57] (fun v57 wr2 => ∃ i : Nat, i ≤ 3 ∧ v57 = .int .i64 ((i : Nat) : Int) ∧ SameW w wr2 ∧ ∀ j, j < i → q (atOf pick j) = []) (fun v57 _ => 3 - (intOf v57).toNat)
        case atStart => exact ⟨0, by omega, rfl, hs'.out, fun j h => by omega⟩
        case round =>
          obtain ⟨i, hi, rfl, hsame2, hemp⟩ := hrel
          have hs2 := Lib.hid hsame2
          have hemp' := Lib.hid hemp
          clear hsame2 hemp
          by_cases hi3 : i < 3
          · obtain ⟨at_, hat0⟩ : ∃ at_, (a + i) % 3 = at_ := ⟨_, rfl⟩
            have hat3 : at_ < 3 := by omega
            have hat' := Lib.hid hat0
            have hring := hs2.out.ring (hr'.out at_ hat3)
            have c57 := hring.num
            have hm : ((a : Int) + (i : Int)) % 3 = (at_ : Int) := by omega
            have ht0 : (0 : Int) ≤ (at_ : Int) := by omega
            have ht1 : (at_ : Int) < 3 := by omega
            have hemp2 : Hid (q at_ = [] → ∀ j, j < i + 1 → q (atOf pick j) = []) := by
              intro he j hj
              rcases Nat.lt_or_ge j i with h | h
              · exact hemp'.out j h
              · obtain rfl : j = i := by omega
                rw [hat.out, hat'.out]
                exact he
            have hch : Hid (q at_ ≠ [] → chooseF q pick = (at_ : Int)) := by
              intro he
              unfold chooseF
              rw [hbest'.out]
              have hai : atOf pick i = at_ := by rw [hat.out, hat'.out]
              have hcase : i = 0 ∨ i = 1 ∨ i = 2 := by omega
              rcases hcase with rfl | rfl | rfl
              · simp only [hai]; rw [if_pos he]
              · have e0 := hemp'.out 0 (by omega)
                simp only [hai, e0]; simp [he]
              · have e0 := hemp'.out 0 (by omega)
                have e1 := hemp'.out 1 (by omega)
                simp only [hai, e0, e1]; simp [he]
            clear hring hat0
            cases hq : q at_ with
            | nil =>
              rw [hq] at c57
              have hq' := Lib.hid hq
              clear hq
              simp only [List.length_nil] at c57
              go_wp2
              go_roundw
              case rel => exact ⟨i + 1, by omega, by go_num, hs2.out, hemp2.out hq'.out⟩
              case measure => simp [intOf]; omega
            | cons x r =>
              rw [hq] at c57
              have hq' := Lib.hid hq
              clear hq
              simp only [List.length_cons] at c57
              go_wp2
              go_ret
              exact ⟨by rw [hch.out (by rw [hq'.out]; simp), ← hm]; rfl, hs2.out⟩
          · obtain rfl : i = 3 := by omega
            have hch : Hid (chooseF q pick = -1) := by
              show chooseF q pick = -1
              unfold chooseF
              rw [hbest'.out]
              have e0 := hemp'.out 0 (by omega)
              have e1 := hemp'.out 1 (by omega)
              have e2 := hemp'.out 2 (by omega)
              simp [e0, e1, e2]
            go_wp2
            go_ret
            exact ⟨by rw [hch.out]; rfl, hs2.out⟩
end Go.Proofs.Ytnpgjecifllnaaa
