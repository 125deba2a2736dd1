/- What is proved here: tee.Spread, from behind its own copy on, follows the script of one that starts listeners and senders and takes the answers. Conditions: the room that its list takes. -/
import Derived.Test.YtofoplpnpfaofaaSend
import Derived.Conc.SmallLaws
import Derived.Laws.MakeOwn
set_option linter.unusedSimpArgs false
set_option linter.unusedVariables false
namespace Go.Proofs.Ytofoplpnpfaofaa
open Go Go.Conc Go.RowKit

section
variable {X : Cx} {main : Bool} {Stop : Hp → Goroutine → Prop} {m : Nat} {H H' : Hp} {w w' : World}

noncomputable def body7 : Code := Try.f7.body.getD .skip
/-- Behind the two channels. -/
noncomputable def from5 : Code := match body7 with | .seq _ (.seq _ (.seq _ (.seq _ c))) => c | _ => .skip
noncomputable def from6 : Code := match from5 with | .seq _ c => c | _ => .skip
noncomputable def loop7 : Code := match from6 with | .seq (.seq _ (.block _ (.loop c))) _ => c | _ => .skip
noncomputable def from13 : Code := match from6 with | .seq _ c => c | _ => .skip
noncomputable def from14 : Code := match from13 with | .seq _ c => c | _ => .skip
noncomputable def loop15' : Code := match from14 with | .seq (.seq _ (.block _ (.loop c))) _ => c | _ => .skip
noncomputable def from19 : Code := match from14 with | .seq _ c => c | _ => .skip
noncomputable def in7 : Code := match loop7 with | .seq _ (.seq _ (.seq (.block _ c) _)) => c | _ => .skip
noncomputable def r12 : Code := match loop7 with | .seq _ (.seq _ (.seq _ c)) => c | _ => .skip
noncomputable def in9 : Code := match in7 with | .seq _ c => c | _ => .skip
noncomputable def ops9 : Array Oper := match in9 with | .seq (.region _ ops _) _ => ops | _ => #[]
noncomputable def in10 : Code := match in9 with | .seq _ c => c | _ => .skip
noncomputable def ops10 : Array Oper := match in10 with | .seq (.region _ ops _) _ => ops | _ => #[]
noncomputable def in11 : Code := match in10 with | .seq _ c => c | _ => .skip
noncomputable def ops11 : Array Oper := match in11 with | .region _ ops _ => ops | _ => #[]
noncomputable def in15 : Code := match loop15' with | .seq _ (.seq _ (.seq (.block _ c) _)) => c | _ => .skip
noncomputable def r18 : Code := match loop15' with | .seq _ (.seq _ (.seq _ c)) => c | _ => .skip
noncomputable def ops16' : Array Oper := match in15 with | .seq (.region _ ops _) _ => ops | _ => #[]
noncomputable def in17 : Code := match in15 with | .seq _ c => c | _ => .skip

/-- At the head of the first loop: p pairs are there. -/
noncomputable def atP (n room sb tb p : Nat) (own : Value) (T : Nat → Value) (cs : List Frame) : Goroutine :=
  G ((base 7).at ⟨#[T 0, .int .i64 n, .int .i64 room, T 3, T 4, T 5, T 6, T 7, own, .chan (some sb), .chan (some tb), T 11, T 12, T 13, T 14, T 15, T 16, T 17, T 18, T 19, T 20, T 21, T 22, T 23, T 24, T 25, T 26, T 27, T 28, T 29, T 30, T 31, T 32, T 33, .int .i64 n, .int .i64 p, T 36, T 37, T 38, T 39, T 40, T 41, T 42, T 43, T 44, T 45, T 46, T 47, T 48, T 49, T 50, T 51, T 52, T 53, T 54, T 55, T 56, T 57, T 58, T 59, T 60, T 61], [closeD 42 sb]⟩ [.code loop7, .inLoop loop7, .inBlock 0, .code from13]) cs
/-- At the head of the second loop: j answers are there. -/
noncomputable def atQ (n room sb tb ob j : Nat) (own : Value) (T : Nat → Value) (cs : List Frame) : Goroutine :=
  G ((base 7).at ⟨#[T 0, .int .i64 n, .int .i64 room, T 3, T 4, T 5, T 6, T 7, own, .chan (some sb), .chan (some tb), T 11, T 12, .slice (some ⟨ob, 0, none⟩) n n, T 14, T 15, T 16, T 17, T 18, T 19, T 20, T 21, T 22, T 23, T 24, T 25, T 26, T 27, T 28, T 29, T 30, T 31, T 32, T 33, T 34, T 35, T 36, T 37, T 38, T 39, T 40, T 41, T 42, T 43, T 44, T 45, T 46, T 47, T 48, .int .i64 n, .int .i64 j, T 51, T 52, T 53, T 54, T 55, T 56, T 57, T 58, T 59, T 60, T 61], [closeD 42 sb]⟩ [.code loop15', .inLoop loop15', .inBlock 2, .code from19]) cs
/-- Behind it. -/
noncomputable def atE (n room sb tb ob : Nat) (own : Value) (T : Nat → Value) (cs : List Frame) : Goroutine :=
  G ((base 7).at ⟨#[T 0, .int .i64 n, .int .i64 room, T 3, T 4, T 5, T 6, T 7, own, .chan (some sb), .chan (some tb), T 11, T 12, .slice (some ⟨ob, 0, none⟩) n n, T 14, T 15, T 16, T 17, T 18, T 19, T 20, T 21, T 22, T 23, T 24, T 25, T 26, T 27, T 28, T 29, T 30, T 31, T 32, T 33, T 34, T 35, T 36, T 37, T 38, T 39, T 40, T 41, T 42, T 43, T 44, T 45, T 46, T 47, T 48, T 49, T 50, T 51, T 52, T 53, T 54, T 55, T 56, T 57, T 58, T 59, T 60, T 61], [closeD 42 sb]⟩ [.code from19]) cs

/-- The answers so far. -/
def outA (f : Nat → Option Value) (n : Nat) : Array Value := Array.ofFn (n := n) fun i => (f i).getD (.slice none 0 0)
theorem outA_set {f : Nat → Option Value} {n k : Nat} {v : Value} (hk : k < n) : (outA f n).setIfInBounds k v = outA (setF f k v) n := by
  apply Array.ext_getElem?
  intro i
  by_cases h : k = i
  · subst h
    rw [Array.getElem?_setIfInBounds_self_of_lt (by simpa [outA] using hk)]
    simp [outA, setF, hk]
  · rw [Array.getElem?_setIfInBounds_ne h]
    simp only [outA, Array.getElem?_ofFn]
    split
    · simp [setF, Ne.symm h]
    · rfl
theorem outA_new (n : Nat) : madeCells #[.slice none 0 0] n = outA (fun _ => none) n := by
  apply Array.ext
  · simp [outA, madeCells]
  · intro i h1 h2
    simp [outA, madeCells, Nat.mod_one]

def MStop (X : Cx) : Nat → (Nat → Option Value) → Hp → Goroutine → Prop
  | 0, f => X.Fin f
  | rem + 1, f => ARecvT X f (MRecv X rem)
theorem mrecvRun_eq (X : Cx) (rem : Nat) (f : Nat → Option Value) (m : Nat) (H : Hp) (g : Goroutine) : MRecvRun X rem f m H g ↔ GH X true (MStop X rem f) m H g := by cases rem <;> exact Iff.rfl

/-- What Spread's own walk takes for granted of the phase. -/
structure SprX (X : Cx) (own : Value) (cs : List Frame) : Prop where
  P : X.P = Try.prog
  n : X.n ≤ 16
  room : X.room ≤ 64
  lis : ∀ p c, X.lisF p c = lisD X.tb p c
  snd : ∀ c, X.sndF c = sndD X.sb own c
  hv : ∀ k sl, X.hv k sl = .agg #[.int .i64 k, sl]
  one : ∀ k sl H, X.ok k sl H → sl.cells = #[sl] ∧ sl.oneCell' = true
  fin : ∀ f H T ob, X.B0 ≤ ob → (ob, .cells (outA f X.n) 22 (0, 0)) ∈ H → X.Fin f H (atE X.n X.room X.sb X.tb ob own T cs)

variable {own : Value} {cs : List Frame}

set_option maxRecDepth 100000 in
theorem spr_end (L : SprX X own cs) (f : Nat → Option Value) (ob : Nat) (T : Nat → Value) (hB : X.B0 ≤ ob) (hin : (ob, .cells (outA f X.n) 22 (0, 0)) ∈ H) : GH X true (X.Fin f) 60 H (atQ X.n X.room X.sb X.tb ob X.n own T cs) := by
  have hn := L.n
  simp only [atQ, loop15', from14, from13, from6, from5, body7, Try.f7, Option.getD_some]
  refine GH.ctl L.P rfl (fun w => stepG_seq) ?_
  refine GH.ctl L.P rfl (fun w => stepG_region) ?_
  simp only [List.size_toArray, List.length_cons, List.length_nil, Nat.reduceAdd, Nat.zero_add, List.range, List.range.loop]
  refine GH.val L.P (.bool false) rfl rfl (by decide) (fun w => by go_simp) (fun w => by simp [go_sem]) ?_
  walk_nrm
  refine GH.ctl L.P rfl (fun w => stepG_region_end) ?_
  refine GH.ctl L.P rfl (fun w => stepG_seq) ?_
  refine GH.ctl L.P rfl (fun w => stepG_cond (t := false) rfl) ?_
  simp only [Bool.false_eq_true, if_false]
  refine GH.ctl L.P rfl (fun w => stepG_exit rfl) ?_
  have h := L.fin f H (fun q => match q with | 49 => .int .i64 X.n | 50 => .int .i64 X.n | 51 => .bool false | q => T q) ob hB hin
  exact GH.stop h

set_option maxRecDepth 100000 in
theorem spr_to (L : SprX X own cs) (f : Nat → Option Value) (rem ob j : Nat) (T : Nat → Value) (hj : j < X.n) (hB : X.B0 ≤ ob) (hin : (ob, .cells (outA f X.n) 22 (0, 0)) ∈ H)
    (next : ∀ k sl Hl T', k < X.n → X.ok k sl Hl → ∀ H' , (ob, .cells (outA (setF f k sl) X.n) 22 (0, 0)) ∈ H' → MRecvRun X rem (setF f k sl) 60 H' (atQ X.n X.room X.sb X.tb ob (j + 1) own T' cs)) :
    GH X true (ARecvT X f (MRecv X rem)) 60 H (atQ X.n X.room X.sb X.tb ob j own T cs) := by
  have hn := L.n
  obtain ⟨i48, hi, hz, hs48, hb48⟩ := info_parts info48
  obtain ⟨i22, hi2, hz2, hs22, _⟩ := info_parts info22
  simp only [atQ, loop15', from14, from13, from6, from5, body7, Try.f7, Option.getD_some]
  refine GH.ctl L.P rfl (fun w => stepG_seq) ?_
  refine GH.ctl L.P rfl (fun w => stepG_region) ?_
  simp only [List.size_toArray, List.length_cons, List.length_nil, Nat.reduceAdd, Nat.zero_add, List.range, List.range.loop]
  refine GH.val L.P (.bool true) rfl rfl (by decide) (fun w => by go_simp; try (simp; omega)) (fun w => by simp [go_sem]) ?_
  walk_nrm
  refine GH.ctl L.P rfl (fun w => stepG_region_end) ?_
  refine GH.ctl L.P rfl (fun w => stepG_seq) ?_
  refine GH.ctl L.P rfl (fun w => stepG_cond (t := true) rfl) ?_
  simp only [if_true]
  refine GH.ctl L.P rfl (fun w => stepG_skip) ?_
  refine GH.ctl L.P rfl (fun w => stepG_seq) ?_
  refine GH.ctl L.P rfl (fun w => stepG_block) ?_
  refine GH.ctl L.P rfl (fun w => stepG_seq) ?_
  refine GH.ctl L.P rfl (fun w => stepG_region) ?_
  simp only [List.size_toArray, List.length_cons, List.length_nil, Nat.reduceAdd, Nat.zero_add, List.range, List.range.loop]
  refine GH.val L.P (.chan (some X.tb)) rfl rfl (by decide) (fun w => by go_simp) (fun w => by simp [go_sem]) ?_
  walk_nrm
  refine GH.stop ⟨rfl, .agg #[.int .i64 0, .slice none 0 0], fun w => ?_, fun k sl Hl hk hf hok => ?_⟩
  · rw [L.P]
    rw [stepG_comm (cases := #[rcase X.tb (.agg #[.int .i64 0, .slice none 0 0])]) (blocking := true) (shape := .recv false) (w' := w) rfl rfl (by decide) (by unfold execOp; walk_nrm; simp [rcase, run_underlying Try.underlying43, zeroValue, typeInfo, hi, hz])]
    rw [core_G, listed_none (by unfold execOp; walk_nrm; simp [run_underlying Try.underlying43])]
  obtain ⟨hone, hone'⟩ := L.one k sl Hl hok
  rw [mrecv_iff]
  refine ⟨100, ?_⟩
  have hnext := fun T' H' hin' => next k sl Hl T' hk hok H' hin'
  rw [L.hv]
  simp only [core_G, served_G]
  walk_nrm
  rw [mrecvRun_eq]
  have hstop := fun T' H' hin' => (mrecvRun_eq _ _ _ _ _ _).mp (hnext T' H' hin')
  refine GH.alloc L.P rfl rfl (by decide) rfl hi hz (fun N hBN hlt => ?_)
  walk_nrm
  have hNob : N ≠ ob := fun e => by have := hlt _ hin; simp only at this; omega
  refine GH.storeRow L.P ((N, .cells #[.int .i64 k, sl] 48 (0, 0)) :: H) rfl rfl (by decide) rfl rfl rfl (List.mem_cons_self ..) (by simp [hi, hs48]) rfl (by rw [Array.all_eq_true_iff_forall_mem]; intro u hu; simp at hu; rcases hu with rfl | rfl; rfl; exact hone')
    (fun p hp => by
      rcases List.mem_cons.1 hp with rfl | hp
      · exact .inl rfl
      · exact .inr ⟨List.mem_cons_of_mem _ hp, fun e => by have := hlt p hp; omega⟩) ?_
  walk_nrm
  refine GH.ctl L.P rfl (fun w => stepG_region_end) ?_
  refine GH.ctl L.P rfl (fun w => stepG_region) ?_
  simp only [List.size_toArray, List.length_cons, List.length_nil, Nat.reduceAdd, Nat.zero_add, List.range, List.range.loop]
  refine GH.val L.P (.slice (some ⟨ob, 0, none⟩) X.n X.n) rfl rfl (by decide) (fun w => by go_simp) (fun w => by simp [go_sem]) ?_
  walk_nrm
  refine GH.val L.P (.pointer (some ⟨N, 0, none⟩)) rfl rfl (by decide) (fun w => by go_simp) (fun w => by simp [go_sem]) ?_
  walk_nrm
  have hinN : ∀ w, Has ((N, Obj.cells #[.int .i64 k, sl] 48 (0, 0)) :: H) w → w.heap[N]? = some (.cells #[.int .i64 k, sl] 48 (0, 0)) := fun w hH => hH _ (List.mem_cons_self ..)
  refine GH.loadCell L.P (.int .i64 k) rfl rfl (by decide) rfl rfl Try.underlying3 rfl (fun w _ hH => by simp [World.cell?, hinN w hH]) (.inr ⟨_, List.mem_cons_self .., rfl⟩) ?_
  walk_nrm
  refine GH.val L.P (.pointer (some ⟨N, 1, none⟩)) rfl rfl (by decide) (fun w => by go_simp) (fun w => by simp [go_sem]) ?_
  walk_nrm
  refine GH.loadCell L.P sl rfl rfl (by decide) rfl rfl Try.underlying22 rfl (fun w _ hH => by simp [World.cell?, hinN w hH]) (.inr ⟨_, List.mem_cons_self .., rfl⟩) ?_
  walk_nrm
  refine GH.val L.P (.pointer (some ⟨ob, k, none⟩)) rfl rfl (by decide) (fun w => ?_) (fun w => ?_) ?_
  · unfold execOp
    walk_nrm
    simp [Instr.indexAt, asIntOf, run_underlying Try.underlying28, sizeOf, typeInfo, hi2, hs22, hk, Addr.add]
    exact fun h => h.symm
  · unfold execOp
    walk_nrm
    simp [Instr.indexAt, asIntOf, run_underlying Try.underlying28, sizeOf, typeInfo, hi2, hs22, hk]
  walk_nrm
  refine GH.storeCell L.P [(ob, .cells (outA (setF f k sl) X.n) 22 (0, 0))] rfl rfl (by decide) rfl rfl rfl (List.mem_cons_of_mem _ hin) (by simp [hi2, hs22]) hone (by simpa [outA] using hk) hone'
    (fun p hp => .inl (by rw [outA_set hk]; exact List.mem_singleton.1 hp)) ?_
  walk_nrm
  refine GH.ctl L.P rfl (fun w => stepG_region_end) ?_
  refine GH.ctl L.P rfl (fun w => stepG_inBlock) ?_
  refine GH.ctl L.P rfl (fun w => stepG_region) ?_
  simp only [List.size_toArray, List.length_cons, List.length_nil, Nat.reduceAdd, Nat.zero_add, List.range, List.range.loop]
  refine GH.val L.P (.int .i64 ((j + 1 : Nat) : Int)) rfl rfl (by decide) (fun w => by go_simp; try (rw [IntKind.wrap_i64]; omega)) (fun w => by simp [go_sem]) ?_
  walk_nrm
  refine GH.val L.P (.int .i64 ((j + 1 : Nat) : Int)) rfl rfl (by decide) (fun w => by go_simp) (fun w => by simp [go_sem]) ?_
  walk_nrm
  refine GH.ctl L.P rfl (fun w => stepG_region_end) ?_
  refine GH.ctl L.P rfl (fun w => stepG_inLoop) ?_
  have h := hstop (fun q => match q with | 51 => .bool true | 52 => .chan (some X.tb) | 53 => .agg #[.int .i64 k, sl] | 14 => .pointer (some ⟨N, 0, none⟩) | 54 => .slice (some ⟨ob, 0, none⟩) X.n X.n | 55 => .pointer (some ⟨N, 0, none⟩) | 56 => .int .i64 k | 57 => .pointer (some ⟨N, 1, none⟩) | 58 => sl | 59 => .pointer (some ⟨ob, k, none⟩) | 60 => .int .i64 ((j + 1 : Nat) : Int) | q => T q) _ (List.mem_singleton.2 rfl)
  exact (GH.addS (l := 22) h)

theorem spr_recv (L : SprX X own cs) (ob : Nat) (hB : X.B0 ≤ ob) : ∀ (rem j : Nat) (f : Nat → Option Value) (H : Hp) (T : Nat → Value), j + rem = X.n → (ob, .cells (outA f X.n) 22 (0, 0)) ∈ H → MRecvRun X rem f 60 H (atQ X.n X.room X.sb X.tb ob j own T cs) := by
  intro rem
  induction rem with
  | zero =>
    intro j f H T hj hin
    obtain rfl : j = X.n := by omega
    exact spr_end L f ob T hB hin
  | succ rem ih =>
    intro j f H T hj hin
    exact spr_to L f rem ob j T (by omega) hB hin fun k sl Hl T' hk hok H' hin' => ih (j + 1) _ H' T' (by omega) hin'

set_option maxRecDepth 100000 in
theorem spr_out (L : SprX X own cs) (T : Nat → Value) (h : ∀ ob H' T', X.B0 ≤ ob → (ob, .cells (outA (fun _ => none) X.n) 22 (0, 0)) ∈ H' → GH X true Stop 60 H' (atQ X.n X.room X.sb X.tb ob 0 own T' cs)) : GH X true Stop 100 H (atP X.n X.room X.sb X.tb X.n own T cs) := by
  have hn := L.n
  obtain ⟨i22, hi2, hz2, hs22, hb22⟩ := info_parts info22
  simp only [atP, loop7, from13, from6, from5, body7, Try.f7, Option.getD_some]
  refine GH.ctl L.P rfl (fun w => stepG_seq) ?_
  refine GH.ctl L.P rfl (fun w => stepG_region) ?_
  simp only [List.size_toArray, List.length_cons, List.length_nil, Nat.reduceAdd, Nat.zero_add, List.range, List.range.loop]
  refine GH.val L.P (.bool false) rfl rfl (by decide) (fun w => by go_simp) (fun w => by simp [go_sem]) ?_
  walk_nrm
  refine GH.ctl L.P rfl (fun w => stepG_region_end) ?_
  refine GH.ctl L.P rfl (fun w => stepG_seq) ?_
  refine GH.ctl L.P rfl (fun w => stepG_cond (t := false) rfl) ?_
  simp only [Bool.false_eq_true, if_false]
  refine GH.ctl L.P rfl (fun w => stepG_exit rfl) ?_
  refine GH.ctl L.P rfl (fun w => stepG_seq) ?_
  refine GH.ctl L.P rfl (fun w => stepG_region) ?_
  simp only [List.size_toArray, List.length_cons, List.length_nil, Nat.reduceAdd, Nat.zero_add, List.range, List.range.loop]
  refine GH.val L.P (.int .i64 X.n) rfl rfl (by decide) (fun w => by go_simp) (fun w => by simp [go_sem]) ?_
  walk_nrm
  refine GH.newBlk L.P (fun N => .slice (some ⟨N, 0, none⟩) X.n X.n) (.cells (outA (fun _ => none) X.n) 22 (0, 0)) rfl rfl (by decide) (fun w => ?_) (fun w => ?_) (fun ob hB hlt => ?_)
  · have := run_make (P := Try.prog) w 28 22 i22 (.slice none 0 0) Try.underlying28 hi2 hz2 .i64 .i64 X.n X.n (by omega) (by omega) (by rw [hb22]; omega) (by omega)
    rw [hs22, Nat.mul_one, Int.toNat_natCast, show (Value.slice none 0 0).cells = #[.slice none 0 0] from rfl, outA_new] at this
    unfold execOp
    walk_nrm
    simp only [Sem.run_bind, this, Result.andThen_ok, Sem.run_pure]
  · have := events_make (P := Try.prog) w 28 22 i22 (.slice none 0 0) Try.underlying28 hi2 hz2 .i64 .i64 X.n X.n (by omega) (by omega) (by rw [hb22]; omega) (by omega) (by rw [hb22]; omega) #[]
    have h2 := run_make (P := Try.prog) w 28 22 i22 (.slice none 0 0) Try.underlying28 hi2 hz2 .i64 .i64 X.n X.n (by omega) (by omega) (by rw [hb22]; omega) (by omega)
    unfold execOp
    walk_nrm
    simp only [Sem.events_bind, this, h2, Result.evThen_ok, Sem.events_pure]
  walk_nrm
  refine GH.val L.P (.slice (some ⟨ob, 0, none⟩) X.n X.n) rfl rfl (by decide) (fun w => by go_simp) (fun w => by simp [go_sem]) ?_
  walk_nrm
  refine GH.ctl L.P rfl (fun w => stepG_region_end) ?_
  refine GH.ctl L.P rfl (fun w => stepG_seq) ?_
  refine GH.ctl L.P rfl (fun w => stepG_seq) ?_
  refine GH.ctl L.P rfl (fun w => stepG_region) ?_
  simp only [List.size_toArray, List.length_cons, List.length_nil, Nat.reduceAdd, Nat.zero_add, List.range, List.range.loop]
  refine GH.val L.P (.int .i64 X.n) rfl rfl (by decide) (fun w => by go_simp) (fun w => by simp [go_sem]) ?_
  walk_nrm
  refine GH.val L.P (.int .i64 ((0 : Nat) : Int)) rfl rfl (by decide) (fun w => by go_simp) (fun w => by simp [go_sem]) ?_
  walk_nrm
  refine GH.ctl L.P rfl (fun w => stepG_region_end) ?_
  refine GH.ctl L.P rfl (fun w => stepG_block) ?_
  refine GH.ctl L.P rfl (fun w => stepG_loop) ?_
  have hh := h ob ((ob, .cells (outA (fun _ => none) X.n) 22 (0, 0)) :: H) (fun q => match q with | 34 => .int .i64 X.n | 35 => .int .i64 X.n | 36 => .bool false | 47 => .int .i64 X.n | 48 => .slice (some ⟨ob, 0, none⟩) X.n X.n | q => T q) hB (List.mem_cons_self ..)
  exact GH.addS (l := 19) hh

theorem mspawn_pre {l p rem : Nat} {g1 g2 : Goroutine} (h : ∀ {Stop : Hp → Goroutine → Prop} {m : Nat}, GH X true Stop m H g2 → GH X true Stop (m + l) H g1) (hs : MSpawn X p rem H g2) : MSpawn X p rem H g1 := by
  cases rem with
  | zero =>
    have hs' : MRecv X X.n (fun _ => none) H g2 := hs
    show MRecv X X.n (fun _ => none) H g1
    rw [mrecv_iff] at hs' ⊢
    obtain ⟨m, hm⟩ := hs'
    exact ⟨m + l, (mrecvRun_eq _ _ _ _ _ _).2 (h ((mrecvRun_eq _ _ _ _ _ _).1 hm))⟩
  | succ r =>
    obtain ⟨m, hm⟩ := hs
    exact ⟨m + l, h hm⟩

noncomputable def atMk (X : Cx) (own : Value) (cs : List Frame) (p c : Nat) (T : Nat → Value) : Goroutine :=
  G ((base 7).at ⟨#[T 0, .int .i64 X.n, .int .i64 X.room, T 3, T 4, T 5, T 6, T 7, own, .chan (some X.sb), .chan (some X.tb), .int .i64 p, T 12, T 13, T 14, T 15, T 16, T 17, T 18, T 19, T 20, T 21, T 22, T 23, T 24, T 25, T 26, T 27, T 28, T 29, T 30, T 31, T 32, T 33, .int .i64 X.n, .int .i64 p, .bool true, .int .i64 p, .int .i64 X.room, .chan (some c), T 40, T 41, T 42, T 43, T 44, T 45, T 46, T 47, T 48, T 49, T 50, T 51, T 52, T 53, T 54, T 55, T 56, T 57, T 58, T 59, T 60, T 61], [closeD 42 X.sb]⟩ [.inRegion ops9 [2], .code in10, .inBlock 1, .code r12, .inLoop loop7, .inBlock 0, .code from13]) cs
noncomputable def atG1 (X : Cx) (own : Value) (cs : List Frame) (p c : Nat) (T : Nat → Value) : Goroutine :=
  G ((base 7).at ⟨#[T 0, .int .i64 X.n, .int .i64 X.room, T 3, T 4, T 5, T 6, T 7, own, .chan (some X.sb), .chan (some X.tb), .int .i64 p, .chan (some c), T 13, T 14, T 15, T 16, T 17, T 18, T 19, T 20, T 21, T 22, T 23, T 24, T 25, T 26, T 27, T 28, T 29, T 30, T 31, T 32, T 33, .int .i64 X.n, .int .i64 p, .bool true, .int .i64 p, .int .i64 X.room, .chan (some c), .int .i64 p, .chan (some c), .chan (some X.tb), T 43, T 44, T 45, T 46, T 47, T 48, T 49, T 50, T 51, T 52, T 53, T 54, T 55, T 56, T 57, T 58, T 59, T 60, T 61], [closeD 42 X.sb]⟩ [.inRegion ops10 [], .code in11, .inBlock 1, .code r12, .inLoop loop7, .inBlock 0, .code from13]) cs
noncomputable def atG2 (X : Cx) (own : Value) (cs : List Frame) (p c : Nat) (T : Nat → Value) : Goroutine :=
  G ((base 7).at ⟨#[T 0, .int .i64 X.n, .int .i64 X.room, T 3, T 4, T 5, T 6, T 7, own, .chan (some X.sb), .chan (some X.tb), .int .i64 p, .chan (some c), T 13, T 14, T 15, T 16, T 17, T 18, T 19, T 20, T 21, T 22, T 23, T 24, T 25, T 26, T 27, T 28, T 29, T 30, T 31, T 32, T 33, .int .i64 X.n, .int .i64 p, .bool true, .int .i64 p, .int .i64 X.room, .chan (some c), .int .i64 p, .chan (some c), .chan (some X.tb), own, .chan (some c), .chan (some X.sb), T 46, T 47, T 48, T 49, T 50, T 51, T 52, T 53, T 54, T 55, T 56, T 57, T 58, T 59, T 60, T 61], [closeD 42 X.sb]⟩ [.inRegion ops11 [], .inBlock 1, .code r12, .inLoop loop7, .inBlock 0, .code from13]) cs

set_option maxRecDepth 100000 in
theorem spr_back (L : SprX X own cs) (p c : Nat) (hp : p < X.n) (T : Nat → Value) : ∃ T', ∀ {Stop : Hp → Goroutine → Prop} {m : Nat}, GH X true Stop m H (atP X.n X.room X.sb X.tb (p + 1) own T' cs) → GH X true Stop (m + 7) H (atG2 X own cs p c T) := by
  have hn := L.n
  refine ⟨(fun q => match q with | 36 => .bool true | 37 => .int .i64 p | 11 => .int .i64 p | 38 => .int .i64 X.room | 39 => .chan (some c) | 12 => .chan (some c) | 40 => .int .i64 p | 41 => .chan (some c) | 42 => .chan (some X.tb) | 43 => own | 44 => .chan (some c) | 45 => .chan (some X.sb) | 46 => .int .i64 ((p + 1 : Nat) : Int) | q => T q), fun {Stop m} h => ?_⟩
  simp only [atG2, ops11, in11, in10, in9, in7, r12, loop7, from13, from6, from5, body7, Try.f7, Option.getD_some]
  refine GH.ctl L.P rfl (fun w => stepG_region_end) ?_
  refine GH.ctl L.P rfl (fun w => stepG_inBlock) ?_
  refine GH.ctl L.P rfl (fun w => stepG_region) ?_
  simp only [List.size_toArray, List.length_cons, List.length_nil, Nat.reduceAdd, Nat.zero_add, List.range, List.range.loop]
  refine GH.val L.P (.int .i64 ((p + 1 : Nat) : Int)) rfl rfl (by decide) (fun w => by go_simp; try (rw [IntKind.wrap_i64]; omega)) (fun w => by simp [go_sem]) ?_
  walk_nrm
  refine GH.val L.P (.int .i64 ((p + 1 : Nat) : Int)) rfl rfl (by decide) (fun w => by go_simp) (fun w => by simp [go_sem]) ?_
  walk_nrm
  refine GH.ctl L.P rfl (fun w => stepG_region_end) ?_
  refine GH.ctl L.P rfl (fun w => stepG_inLoop) ?_
  exact h

set_option maxRecDepth 100000 in
theorem spr_make (L : SprX X own cs) (p : Nat) (hp : p < X.n) (T : Nat → Value) {Next : Nat → Hp → Goroutine → Prop} (h : ∀ c, X.B0 ≤ c → Next c H (atMk X own cs p c T)) : GH X true (AMake X Next) 30 H (atP X.n X.room X.sb X.tb p own T cs) := by
  have hn := L.n
  have hroom := L.room
  obtain ⟨i27, hi, hz, hs27, hb27⟩ := info_parts info27
  simp only [atP, loop7, from13, from6, from5, body7, Try.f7, Option.getD_some]
  refine GH.ctl L.P rfl (fun w => stepG_seq) ?_
  refine GH.ctl L.P rfl (fun w => stepG_region) ?_
  simp only [List.size_toArray, List.length_cons, List.length_nil, Nat.reduceAdd, Nat.zero_add, List.range, List.range.loop]
  refine GH.val L.P (.bool true) rfl rfl (by decide) (fun w => by go_simp; try (simp; omega)) (fun w => by simp [go_sem]) ?_
  walk_nrm
  refine GH.ctl L.P rfl (fun w => stepG_region_end) ?_
  refine GH.ctl L.P rfl (fun w => stepG_seq) ?_
  refine GH.ctl L.P rfl (fun w => stepG_cond (t := true) rfl) ?_
  simp only [if_true]
  refine GH.ctl L.P rfl (fun w => stepG_skip) ?_
  refine GH.ctl L.P rfl (fun w => stepG_seq) ?_
  refine GH.ctl L.P rfl (fun w => stepG_block) ?_
  refine GH.ctl L.P rfl (fun w => stepG_seq) ?_
  refine GH.ctl L.P rfl (fun w => stepG_region) ?_
  simp only [List.size_toArray, List.length_cons, List.length_nil, Nat.reduceAdd, Nat.zero_add, List.range, List.range.loop]
  refine GH.val L.P (.int .i64 p) rfl rfl (by decide) (fun w => by go_simp) (fun w => by simp [go_sem]) ?_
  walk_nrm
  refine GH.val L.P (.int .i64 p) rfl rfl (by decide) (fun w => by go_simp) (fun w => by simp [go_sem]) ?_
  walk_nrm
  refine GH.ctl L.P rfl (fun w => stepG_region_end) ?_
  refine GH.ctl L.P rfl (fun w => stepG_seq) ?_
  refine GH.ctl L.P rfl (fun w => stepG_region) ?_
  simp only [List.size_toArray, List.length_cons, List.length_nil, Nat.reduceAdd, Nat.zero_add, List.range, List.range.loop]
  refine GH.val L.P (.int .i64 X.room) rfl rfl (by decide) (fun w => by go_simp) (fun w => by simp [go_sem]) ?_
  walk_nrm
  refine GH.stop ⟨rfl, fun c => atMk X own cs p c T, fun w => ?_, h⟩
  have hr := run_makeChan (P := Try.prog) (w := w) Try.underlying44 hi .i64 X.room (by omega) (by rw [hb27]; omega)
  have he := fun es => events_makeChan (P := Try.prog) (w := w) Try.underlying44 hi .i64 X.room (by omega) (by rw [hb27]; omega) es
  rw [L.P, stepG_value (v := .chan (some w.heap.size)) (w' := w.alloc (.chan X.room #[] false 0 0 false)) rfl rfl (by decide) (by unfold execOp; walk_nrm; simp only [Sem.run_bind, hr, Result.andThen_ok, Sem.run_pure]), listed_none (by unfold execOp; walk_nrm; simp only [Sem.events_bind, he, hr, Result.evThen_ok, Sem.events_pure])]
  rfl

set_option maxRecDepth 100000 in
theorem spr_go1 (L : SprX X own cs) (p c : Nat) (T : Nat → Value) {Next : Hp → Goroutine → Prop} (h : Next H (atG1 X own cs p c T)) : GH X true (AGo X (X.lisF p c) Next) 30 H (atMk X own cs p c T) := by
  simp only [atMk, ops9, in10, in9, in7, r12, loop7, from13, from6, from5, body7, Try.f7, Option.getD_some]
  refine GH.val L.P (.chan (some c)) rfl rfl (by decide) (fun w => by go_simp) (fun w => by simp [go_sem]) ?_
  walk_nrm
  refine GH.ctl L.P rfl (fun w => stepG_region_end) ?_
  refine GH.ctl L.P rfl (fun w => stepG_seq) ?_
  refine GH.ctl L.P rfl (fun w => stepG_region) ?_
  simp only [List.size_toArray, List.length_cons, List.length_nil, Nat.reduceAdd, Nat.zero_add, List.range, List.range.loop]
  refine GH.val L.P (.int .i64 p) rfl rfl (by decide) (fun w => by go_simp) (fun w => by simp [go_sem]) ?_
  walk_nrm
  refine GH.val L.P (.chan (some c)) rfl rfl (by decide) (fun w => by go_simp) (fun w => by simp [go_sem]) ?_
  walk_nrm
  refine GH.val L.P (.chan (some X.tb)) rfl rfl (by decide) (fun w => by go_simp) (fun w => by simp [go_sem]) ?_
  walk_nrm
  refine GH.stop ⟨rfl, atG1 X own cs p c T, fun w => ?_, h⟩
  rw [L.P, L.lis, stepG_spawn (d := lisD X.tb p c) (w' := w) (f := .func 15) (c := #[]) rfl rfl (by decide) (by unfold execOp; walk_nrm; simp [resolve, Deferred.ofValue, lisD, dcall, Act.eval]) rfl, listed_none (by unfold execOp; walk_nrm; simp [resolve, Deferred.ofValue, Act.eval])]
  rfl

set_option maxRecDepth 100000 in
theorem spr_go2 (L : SprX X own cs) (p c : Nat) (T : Nat → Value) {Next : Hp → Goroutine → Prop} (h : Next H (atG2 X own cs p c T)) : GH X true (AGo X (X.sndF c) Next) 30 H (atG1 X own cs p c T) := by
  simp only [atG1, ops10, in11, in10, in9, in7, r12, loop7, from13, from6, from5, body7, Try.f7, Option.getD_some]
  refine GH.ctl L.P rfl (fun w => stepG_region_end) ?_
  refine GH.ctl L.P rfl (fun w => stepG_region) ?_
  simp only [List.size_toArray, List.length_cons, List.length_nil, Nat.reduceAdd, Nat.zero_add, List.range, List.range.loop]
  refine GH.val L.P (own) rfl rfl (by decide) (fun w => by go_simp) (fun w => by simp [go_sem]) ?_
  walk_nrm
  refine GH.val L.P (.chan (some c)) rfl rfl (by decide) (fun w => by go_simp) (fun w => by simp [go_sem]) ?_
  walk_nrm
  refine GH.val L.P (.chan (some X.sb)) rfl rfl (by decide) (fun w => by go_simp) (fun w => by simp [go_sem]) ?_
  walk_nrm
  refine GH.stop ⟨rfl, atG2 X own cs p c T, fun w => ?_, h⟩
  rw [L.P, L.snd, stepG_spawn (d := sndD X.sb own c) (w' := w) (f := .func 16) (c := #[]) rfl rfl (by decide) (by unfold execOp; walk_nrm; simp [resolve, Deferred.ofValue, sndD, dcall, Act.eval]) rfl, listed_none (by unfold execOp; walk_nrm; simp [resolve, Deferred.ofValue, Act.eval])]
  rfl

theorem spr_spawn (L : SprX X own cs) : ∀ (rem p : Nat) (H : Hp) (T : Nat → Value), p + rem = X.n → MSpawn X p rem H (atP X.n X.room X.sb X.tb p own T cs) := by
  intro rem
  induction rem with
  | zero =>
    intro p H T hp
    obtain rfl : p = X.n := by omega
    show MRecv X X.n (fun _ => none) H _
    rw [mrecv_iff]
    refine ⟨100, ?_⟩
    rw [mrecvRun_eq]
    exact spr_out L T fun ob H' T' hB hin => (mrecvRun_eq _ _ _ _ _ _).1 (spr_recv L ob hB X.n 0 _ H' T' (by omega) hin)
  | succ rem ih =>
    intro p H T hp
    refine ⟨30, spr_make L p (by omega) T fun c hc => ⟨30, spr_go1 L p c T ⟨30, spr_go2 L p c T ?_⟩⟩⟩
    obtain ⟨T', hT'⟩ := spr_back (H := H) L p c (by omega) T
    exact mspawn_pre hT' (ih (p + 1) H T' (by omega))

/-- Behind the two channels. -/
noncomputable def at5 (n room sb tb : Nat) (own : Value) (T : Nat → Value) (cs : List Frame) : Goroutine :=
  G ((base 7).at ⟨#[T 0, .int .i64 n, .int .i64 room, T 3, T 4, T 5, T 6, T 7, own, .chan (some sb), .chan (some tb), T 11, T 12, T 13, T 14, T 15, T 16, T 17, T 18, T 19, T 20, T 21, T 22, T 23, T 24, T 25, T 26, T 27, T 28, T 29, T 30, T 31, T 32, T 33, T 34, T 35, T 36, T 37, T 38, T 39, T 40, T 41, T 42, T 43, T 44, T 45, T 46, T 47, T 48, T 49, T 50, T 51, T 52, T 53, T 54, T 55, T 56, T 57, T 58, T 59, T 60, T 61], []⟩ [.code from5]) cs

set_option maxRecDepth 100000 in
/-- ████ Spread. ████ -/
theorem spr_all (L : SprX X own cs) (H : Hp) (T : Nat → Value) : MSpawn X 0 X.n H (at5 X.n X.room X.sb X.tb own T cs) := by
  have hgo : ∃ T', ∀ {Stop : Hp → Goroutine → Prop} {m : Nat}, GH X true Stop m H (atP X.n X.room X.sb X.tb 0 own T' cs) → GH X true Stop (m + 13) H (at5 X.n X.room X.sb X.tb own T cs) := by
    refine ⟨(fun q => match q with | 33 => .chan (some X.sb) | q => T q), fun {Stop m} h => ?_⟩
    simp only [at5, from5, body7, Try.f7, Option.getD_some]
    refine GH.ctl L.P rfl (fun w => stepG_seq) ?_
    refine GH.ctl L.P rfl (fun w => stepG_region) ?_
    simp only [List.size_toArray, List.length_cons, List.length_nil, Nat.reduceAdd, Nat.zero_add, List.range, List.range.loop]
    refine GH.val L.P (.chan (some X.sb)) rfl rfl (by decide) (fun w => by go_simp) (fun w => by simp [go_sem]) ?_
    walk_nrm
    refine GH.ctl L.P rfl (fun w => stepG_defer' (d := closeD 42 X.sb) rfl rfl (by decide) (by unfold execOp; walk_nrm; simp [resolve, closeD, Act.eval]) (by unfold execOp; walk_nrm; simp [resolve])) ?_
    walk_nrm
    refine GH.ctl L.P rfl (fun w => stepG_region_end) ?_
    refine GH.ctl L.P rfl (fun w => stepG_seq) ?_
    refine GH.ctl L.P rfl (fun w => stepG_seq) ?_
    refine GH.ctl L.P rfl (fun w => stepG_region) ?_
    simp only [List.size_toArray, List.length_cons, List.length_nil, Nat.reduceAdd, Nat.zero_add, List.range, List.range.loop]
    refine GH.val L.P (.int .i64 X.n) rfl rfl (by decide) (fun w => by go_simp) (fun w => by simp [go_sem]) ?_
    walk_nrm
    refine GH.val L.P (.int .i64 ((0 : Nat) : Int)) rfl rfl (by decide) (fun w => by go_simp) (fun w => by simp [go_sem]) ?_
    walk_nrm
    refine GH.ctl L.P rfl (fun w => stepG_region_end) ?_
    refine GH.ctl L.P rfl (fun w => stepG_block) ?_
    refine GH.ctl L.P rfl (fun w => stepG_loop) ?_
    exact h
  obtain ⟨T', hT'⟩ := hgo
  exact mspawn_pre hT' (spr_spawn L X.n 0 H T' (by omega))
end
end Go.Proofs.Ytofoplpnpfaofaa
