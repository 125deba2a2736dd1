/- What is proved here: Ask, over the bus's state; Busy; the world of a tick. Conditions: the block reads as the bus; the transaction's slices as lists. -/
import Derived.Test.YtnpgjecifllnaaaNew
set_option linter.unusedSimpArgs false
set_option linter.unusedVariables false
namespace Go.Proofs.Ytnpgjecifllnaaa
open Go Go.Conc Go.RowKit

def Mst.has (M : Mst) (port id : Int) : Bool := (M.Q port.toNat).any (fun a => a.1.id == id) || M.W.any (fun y => y.port == port && y.id == id)
def AskA.may (a : AskA) : Prop := MayP a.port a.id a.kind a.addr a.beats a.ds.length a.ss.length a.size
instance (a : AskA) : Decidable a.may := by unfold AskA.may; infer_instance
def Mst.askE (M : Mst) (a : AskA) : Int := if ¬ a.may then 7 else if (M.Q a.port.toNat).length = 4 then 3 else if M.has a.port a.id = true then 8 else 0
def Mst.put (M : Mst) (a : AskA) : Mst := { M with Q := fun j => if j = a.port.toNat then M.Q j ++ [(a, 0)] else M.Q j }
def Mst.ask (M : Mst) (a : AskA) : Mst := if M.askE a = 0 then M.put a else M

theorem any_all2 {α β : Type} {R : α → β → Prop} {l : List α} {m : List β} {f : α → Bool} {g : β → Bool} (h : All2 R l m) (e : ∀ x y, R x y → f x = g y) : l.any f = m.any g := by
  induction l generalizing m with
  | nil =>
    cases m with
    | nil => rfl
    | cons y m => have := h.1; simp at this
  | cons x l ih =>
    obtain ⟨y, m', rfl, hr, hr'⟩ := h.uncons_left
    simp only [List.any_cons]
    rw [e x y hr, ih hr']

theorem askE_eq {w : World} {B : Nat} {sv : Value} {M : Mst} {hd : Nat → Nat} {q : Nat → List It} {bv lv : Value} {bs : List It} {ls : List Lg} (h : RepX w B sv M hd q bv bs lv ls) (a : AskA) : Ytnpgjecifllnaaa.askE a.port a.id a.kind a.addr a.beats a.ds.length a.ss.length a.size (q a.port.toNat) bs = M.askE a := by
  unfold askE Mst.askE
  by_cases hm : a.may
  · have hm2 : MayP a.port a.id a.kind a.addr a.beats a.ds.length a.ss.length a.size := hm
    have hk : a.port.toNat < 3 := by have := hm2.1; have := hm2.2.1; omega
    have hw := h.wt _ hk
    have hh : hasB (q a.port.toNat) bs a.port a.id = M.has a.port a.id := by
      unfold hasB Mst.has
      rw [any_all2 hw (fun x y hxy => by rw [hxy.2.1] : ∀ x y, WtR w x y → (x.id == a.id) = (y.1.id == a.id)), any_all2 h.wy (fun x y hxy => by unfold It.is; rw [hxy.1, hxy.2.1] : ∀ x y, WyR w x y → (x.is a.port a.id) = (y.port == a.port && y.id == a.id))]
    simp only [hm2, hm, not_true_eq_false, if_false, hw.1, hh]
  · have hm2 : ¬ MayP a.port a.id a.kind a.addr a.beats a.ds.length a.ss.length a.size := hm
    simp only [hm2, hm, not_false_eq_true, if_true]
theorem askE_may {M : Mst} {a : AskA} (h : M.askE a = 0) : a.may ∧ (M.Q a.port.toNat).length ≠ 4 ∧ M.has a.port a.id = false := by
  unfold Mst.askE at h
  split at h
  · cases h
  · rename_i h1
    split at h
    · cases h
    · rename_i h2
      split at h
      · cases h
      · rename_i h3
        exact ⟨Decidable.not_not.1 h1, h2, by simpa using h3⟩
theorem Mst.ok.ask {M : Mst} {T : Nat} {a : AskA} (h : M.ok T) (h0 : 0 ≤ a.addr) (h1 : a.addr < 18446744073709551616) (o1 : Ones a.ds) (o2 : Ones a.ss) : (M.ask a).ok T := by
  unfold Mst.ask
  split
  · rename_i he
    obtain ⟨hm, _, _⟩ := askE_may he
    have hm2 : MayP a.port a.id a.kind a.addr a.beats a.ds.length a.ss.length a.size := hm
    refine ⟨h.m0, h.m1, fun k hk b hb => ?_, h.w, h.w4, h.l, h.la⟩
    simp only [Mst.put] at hb
    by_cases e : k = a.port.toNat
    · rw [if_pos e] at hb
      simp only [List.mem_append, List.mem_singleton] at hb
      rcases hb with hb | rfl
      · exact h.q k hk b hb
      · refine ⟨⟨hm2, h0, h1, o1, o2⟩, ?_, ?_, ?_⟩
        · have := hm2.1; simp only; omega
        · simp
        · simp
    · rw [if_neg e] at hb
      exact h.q k hk b hb
  · exact h

def RetAskR (B : Nat) (sv : Value) (M : Mst) (a : AskA) (bv : Value) (bs : List It) (lv : Value) (ls : List Lg) (w : World) (e : Ending) (w' : World) : Prop :=
  e = .returned (.int .i64 (M.askE a)) ∧ (∃ hd q, RepX w' B sv (M.ask a) hd q bv bs lv ls) ∧ Old w w' (fun b => b = B)

theorem askR_calls {w : World} {B : Nat} {sv : Value} {M : Mst} {hd : Nat → Nat} {q : Nat → List It} {bv lv : Value} {bs : List It} {ls : List Lg} {a : AskA} {db sb : Option Addr} {nd dc ns sc : Nat} (h : RepX w B sv M hd q bv bs lv ls) (ha : 0 ≤ a.addr) (hdr : Rd w (.slice db nd dc) a.ds) (hsr : Rd w (.slice sb ns sc) a.ss) (h1 : Ones a.ds) (h2 : Ones a.ss) :
    Calls Try.prog 10 #[.pointer (some ⟨B, 0, none⟩), askV a.port a.id a.kind a.addr a.beats (.slice db nd dc) (.slice sb ns sc) a.size] w (RetAskR B sv M a bv bs lv ls w) := by
  have e1 := len_of hdr
  have e2 := len_of hsr
  subst e1 e2
  refine (ask_calls h.bus ha hdr hsr h1 h2).mono ?_
  rintro e w' ⟨rfl, hr⟩
  rw [askE_eq h a] at hr ⊢
  rcases hr with ⟨hne, ho⟩ | ⟨he, db', dc', sb', sc', hd', hs', hR, hU⟩
  · refine ⟨rfl, ⟨hd, q, ?_⟩, ho.no⟩
    have : M.ask a = M := by unfold Mst.ask; rw [if_neg hne]
    rw [this]
    exact h.no ho
  · obtain ⟨hm, _, _⟩ := askE_may he
    have hm2 : MayP a.port a.id a.kind a.addr a.beats a.ds.length a.ss.length a.size := hm
    have hk : a.port.toNat < 3 := by have := hm2.1; have := hm2.2.1; omega
    have htag := h.bus.tag
    have hsoft : ∀ o, Soft w o → ¬ o = B := fun o hso e => by subst e; exact soft_not hso htag (by decide) (by decide)
    have hup : Upto w w' B No (fun j => 2 + a.port.toNat * 58 ≤ j ∧ j < 2 + a.port.toNat * 58 + 58) := Upto.of_upon hU (fun j h1 h2 => ⟨h1, h2⟩)
    have hbo := own_kept h.busyo hU.old (fun b hb e => by subst e; exact own_ne h.busyo htag (by decide) hb)
    have hMa : M.ask a = M.put a := by unfold Mst.ask; rw [if_pos he]
    unfold RetAskR
    rw [hMa]
    refine ⟨rfl, ⟨hd, fun j => if j = a.port.toNat then q j ++ [It.asked a.port a.id a.kind a.addr a.beats db' a.ds.length dc' sb' a.ss.length sc' a.size] else q j, ?_⟩, hU.old⟩
    refine ⟨⟨Nat.lt_of_lt_of_le h.bus.lt hU.old.size, hU.tag _ htag, (hU.cell 0 (by omega)).trans h.bus.most, (hU.cell 1 (by omega)).trans h.bus.serve, fun j hj => ?_, (hU.cell 176 (by omega)).trans h.bus.busyc, items_of_own hbo, h.bus.few⟩, hU.there _ _ h.room, hbo, (hU.cell 177 (by omega)).trans h.logc, own_kept h.logo hU.old (fun b hb e => by subst e; exact own_ne h.logo htag (by decide) hb), fun j hj => ?_, h.wy.mono fun x y hxy => hxy.on hU.old hsoft, h.lg.mono fun x y hxy => hxy.on hU.old hsoft⟩
    · by_cases e : j = a.port.toNat
      · subst e
        simp only [if_true]
        exact hR
      · simp only [e, if_false]
        exact hup.ring (h.bus.ring j hj) (fun i h1 h2 => by omega)
    · have hw := (h.wt j hj).mono fun x y hxy => hxy.on hU.old hsoft
      simp only [Mst.put]
      by_cases e : j = a.port.toNat
      · subst e
        simp only [if_true]
        exact hw.snoc ⟨rfl, rfl, rfl, rfl, rfl, rfl, rfl, hd', hs'⟩
      · simp only [e, if_false]
        exact hw

set_option maxHeartbeats 1000000 in
set_option maxRecDepth 100000 in
theorem busy_calls {w : World} {B : Nat} {sv : Value} {M : Mst} {hd : Nat → Nat} {q : Nat → List It} {bv lv : Value} {bs : List It} {ls : List Lg} (h : RepX w B sv M hd q bv bs lv ls) :
    Calls Try.prog 14 #[.pointer (some ⟨B, 0, none⟩)] w (fun e w' => e = .returned (.int .i64 ((M.W.length : Nat) : Int)) ∧ Old w w' No) := by
  obtain ⟨base, cap, hbv⟩ := own_slice2 h.busyo
  have c176 := h.bus.busyc
  have hnil : ∀ w, (Go.binOp .eql 25 (.pointer (some ⟨B, 0, none⟩)) (.pointer none)).run Try.prog w = .ok (.bool false) w := fun w => rfl
  rw [hbv, h.wy.1] at c176
  obtain ⟨n, hn⟩ : ∃ n, M.W.length = n := ⟨_, rfl⟩
  rw [hn] at c176 ⊢
  clear h hn hbv
  go_enter Try.func14, Try.ntmps14
  go_wp2
  go_ret
  exact ⟨rfl, Old.refl _ _⟩
end Go.Proofs.Ytnpgjecifllnaaa
