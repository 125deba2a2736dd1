/- What is proved here: tee.listen follows a listener's script. Conditions: the room that its record takes. -/
import Derived.Test.YtofoplpnpfaofaaGH
import Derived.Test.YtofoplpnpfaofaaRows
import Derived.RowKit
import Derived.KernelRfl
import Derived.Great.BuildSlice
import Derived.Maps.AppendAt
set_option linter.unusedSimpArgs false
set_option linter.unusedVariables false
namespace Go.Proofs.Ytofoplpnpfaofaa
open Go Go.Conc Go.RowKit

theorem info_parts {o : Option TypeInfo} {z : Value} {s b : Nat} (h : o.map (fun i => (i.zero, i.size, i.bytes)) = some (some z, s, b)) : ∃ i, o = some i ∧ i.zero = some z ∧ i.size = s ∧ i.bytes = b := by
  cases o with
  | none => cases h
  | some i =>
    simp only [Option.map_some, Option.some.injEq, Prod.mk.injEq] at h
    exact ⟨i, rfl, h⟩

theorem info3 : (Try.prog.info? 3).map (fun i => (i.zero, i.size, i.bytes)) = some (some (.int .i64 0), 1, 8) := by kernel_rfl
def zRec : Array Value := #[.int .u64 0, .int .u64 0, .int .u32 0, .bool false, .int .u64 0, .int .u64 0, .int .i64 0, .int .u64 0, .int .i64 0, .int .u64 0, .int .i64 0, .int .u64 0]
theorem info27 : (Try.prog.info? 27).map (fun i => (i.zero, i.size, i.bytes)) = some (some (.agg zRec), 12, 88) := by kernel_rfl
theorem info48 : (Try.prog.info? 48).map (fun i => (i.zero, i.size, i.bytes)) = some (some (.agg #[.int .i64 0, .slice none 0 0]), 2, 32) := by kernel_rfl
theorem info22 : (Try.prog.info? 22).map (fun i => (i.zero, i.size, i.bytes)) = some (some (.slice none 0 0), 1, 24) := by kernel_rfl
theorem info28 : (Try.prog.info? 28).map (fun i => (i.zero, i.size, i.bytes)) = some (some (.slice none 0 0), 1, 24) := by kernel_rfl
theorem info55 : (Try.prog.info? 55).map (fun i => (i.zero, i.size, i.bytes)) = some (some (.agg #[]), 0, 0) := by kernel_rfl

section
variable {X : Cx} {main : Bool} {Stop : Hp → Goroutine → Prop} {n : Nat} {H H' : Hp} {w w' : World} {b : Frame} {a : Act} {k : List Item} {cs : List Frame} {ops : Array Oper} {i : Nat} {rest : List Nat} {o : Oper}

/-- An operation that makes one block. -/
theorem GH.newBlk {P : Program} (hP : X.P = P) (val : Nat → Value) (ob : Obj) (ho : ops[i]? = some o) (hw : Region.wanted o (yielded ops a.tmps) = true) (hk : b.kind ≠ .early) (hr : ∀ w, (execOp a.eval o).run P w = .ok (.value (val w.heap.size)) (w.alloc ob)) (he : ∀ w, (execOp a.eval o).events P w #[] = #[])
    (h : ∀ N, X.B0 ≤ N → (∀ p ∈ H, p.1 < N) → GH X main Stop n ((N, ob) :: H) (G (b.at (a.put o.dst (val N)) (.inRegion ops rest :: k)) cs)) : GH X main Stop (n + 1) H (G (b.at a (.inRegion ops (i :: rest) :: k)) cs) := by
  refine GH.value hP ho hw hk fun w hB hH => ⟨val w.heap.size, w.alloc ob, (w.heap.size, ob) :: H, hr w, rfl, rfl, rfl, by rw [alloc_size]; omega, fun b hb _ => alloc_old hb, has_alloc hH _, fun b hb => ?_, fun e hx => ?_, h _ hB.size fun p hp => has_lt hH ⟨p, hp, rfl⟩⟩
  · obtain ⟨p, hp, rfl⟩ := hb
    rcases List.mem_cons.1 hp with rfl | hp
    · exact .inr ⟨Nat.le_refl _, by rw [alloc_size]; omega⟩
    · exact .inl ⟨p, hp, rfl⟩
  · rw [he] at hx; simp at hx

/-- A list of n records that its holder has made himself. -/
def OwnV (B0 : Nat) (v : Value) (n : Nat) (xs : List Value) (Hv : Hp) : Prop :=
  xs.length = n * 12 ∧ ((v = .slice none 0 0 ∧ n = 0 ∧ Hv = []) ∨ ∃ g cap cur, v = .slice (some ⟨g, 0, none⟩) n cap ∧ B0 ≤ g ∧ Hv = [(g, .cells cur 27 (0, 0))] ∧ n ≤ cap ∧ cap ≤ maxLen ∧ cur.size = cap * 12 ∧ cur.toList.take (n * 12) = xs)

theorem OwnV.row {B0 : Nat} {v : Value} {m : Nat} {xs : List Value} {Hv : Hp} (h : OwnV B0 v m xs Hv) (hH : Has Hv w) : w.ownsRow B0 27 12 v m xs := by
  obtain ⟨h1, h2 | ⟨g, cap, cur, h2, h3, rfl, h4, h5, h6, h7⟩⟩ := h
  · exact ⟨h1, .inl ⟨h2.1, h2.2.1⟩⟩
  · exact ⟨h1, .inr ⟨g, cap, cur, h2, h3, hH (g, .cells cur 27 (0, 0)) (by simp), h4, h5, h6, h7⟩⟩

theorem ownV_of {B0 : Nat} {v : Value} {m : Nat} {xs : List Value} (h : w.ownsRow B0 27 12 v m xs) : ∃ Hv, OwnV B0 v m xs Hv ∧ Has Hv w ∧ ∀ p ∈ Hv, some p.1 = v.ownBlock := by
  obtain ⟨h1, h2 | ⟨g, cap, cur, h2, h3, h8, h4, h5, h6, h7⟩⟩ := h
  · exact ⟨[], ⟨h1, .inl ⟨h2.1, h2.2, rfl⟩⟩, (fun p hp => by cases hp), (fun p hp => by cases hp)⟩
  · refine ⟨[(g, .cells cur 27 (0, 0))], ⟨h1, .inr ⟨g, cap, cur, h2, h3, rfl, h4, h5, h6, h7⟩⟩, ?_, ?_⟩
    · intro p hp; simp at hp; subst hp; exact h8
    · intro p hp; simp at hp; subst hp; subst h2; rfl

theorem OwnV.block {B0 : Nat} {v : Value} {m : Nat} {xs : List Value} {Hv : Hp} (h : OwnV B0 v m xs Hv) {g : Nat} (hg : v.ownBlock = some g) : ∃ ob, (g, ob) ∈ Hv := by
  obtain ⟨h1, ⟨rfl, _⟩ | ⟨g', cap, cur, rfl, h3, rfl, _⟩⟩ := h
  · cases hg
  · simp only [Value.ownBlock, Option.some.injEq] at hg; subst hg; exact ⟨.cells cur 27 (0, 0), by simp⟩

/-- One record more. -/
theorem GH.append {P : Program} (hP : X.P = P) {s x : Operand} {v : Value} {m N1 : Nat} {xs : List Value} {Hv H0 : Hp} {cells : Array Value} {ie : TypeInfo} {z : Value} (ho : ops[i]? = some o) (hw : Region.wanted o (yielded ops a.tmps) = true) (hk : b.kind ≠ .early) (hop : o.op = .call { callee := .builtin .append, args := #[s, x], argTypes := #[22, 22] })
    (hs : a.eval s = v) (hx : a.eval x = .slice (some ⟨N1, 0, none⟩) 1 1) (hu : P.underlying 22 = some (.slice 27)) (hi : P.info? 27 = some ie) (hz : ie.zero = some z) (hsz : ie.size = 12) (hby : ie.bytes = 88) (hzs : z.cells.size = 12)
    (hown : OwnV X.B0 v m xs Hv) (hHv : ∀ p ∈ Hv, p ∈ H) (hN : (N1, .cells cells 27 (0, 0)) ∈ H) (hcs : cells.size = 12) (h1 : ∀ u ∈ cells.toList, u.oneCell' = true) (hm : m ≤ 1000) (hH0 : ∀ p ∈ H0, p ∈ H ∧ some p.1 ≠ v.ownBlock)
    (h : ∀ v' Hv', OwnV X.B0 v' (m + 1) (xs ++ cells.toList) Hv' → (∀ p ∈ Hv', ∀ q ∈ H0, p.1 ≠ q.1) → GH X main Stop n (Hv' ++ H0) (G (b.at (a.put o.dst v') (.inRegion ops rest :: k)) cs)) : GH X main Stop (n + 1) H (G (b.at a (.inRegion ops (i :: rest) :: k)) cs) := by
  refine GH.value hP ho hw hk fun w hB hH => ?_
  have hrow := hown.row (w := w) (fun p hp => hH p (hHv p hp))
  have hblk : w.heap[N1]? = some (.cells cells 27 (0, 0)) := hH _ hN
  have hnews : ∀ j u, cells.toList[j]? = some u → w.cell? ((⟨N1, 0, none⟩ : Addr).add j) = some u := by
    intro j u hj
    rw [Addr.add_mid]
    simp only [World.cell?, hblk, Nat.zero_add]
    simpa using hj
  have h63 : m + 1 ≤ maxLen := by simp only [maxLen]; omega
  have hbytes : (m + 1) * 88 ≤ 140737488355328 := by omega
  obtain ⟨v', w', hr, hown', hgrow, _, hat⟩ := run_append_own_at (P := P) w X.B0 22 o.type 27 ie z 12 88 hu hi hz hsz hby hzs (by decide) v m xs hrow ⟨N1, 0, none⟩ 1 1 cells.toList (by simp [hcs]) hnews h1 h63 hbytes hB.size
  have hevs := events_append_where (P := P) w X.B0 22 o.type 27 ie z 12 88 hu hi hz hsz hby v m xs hrow ⟨N1, 0, none⟩ 1 1 cells.toList (by simp [hcs]) hnews h1 h63 hbytes
  obtain ⟨Hv', o1, o2, o3⟩ := ownV_of hown'
  have hkeyv : ∀ g, v.ownBlock = some g → keyOfHp H g := fun g hg => by
    obtain ⟨ob, hob⟩ := hown.block hg
    exact ⟨_, hHv _ hob, rfl⟩
  have hrun : (execOp a.eval o).run P w = .ok (.value v') w' := by
    unfold execOp
    simp only [hop, resolve, invoke, builtin, Sem.run_bind, Sem.run_pure, Result.andThen_ok, List.map_toArray, List.map_cons, List.map_nil, hs, hx, hr]
  have hdis : ∀ p ∈ Hv', ∀ q ∈ H0, p.1 ≠ q.1 := by
    intro p hp q hq e
    obtain ⟨q1, q2⟩ := hH0 q hq
    have h3 := o3 p hp
    rcases hat with e1 | e1
    · exact q2 (by rw [← e, h3, e1])
    · rw [e1] at h3
      have := has_lt hH ⟨q, q1, rfl⟩
      have h4 := Option.some.inj h3
      omega
  refine ⟨v', w', Hv' ++ H0, hrun, hgrow.tape, hgrow.os, hgrow.output, hgrow.size, fun b hb hnk => hgrow.block b hb (fun e => hnk (hkeyv b e.symm)), fun p hp => ?_, fun b hb => ?_, fun e he => ?_, h v' Hv' o1 hdis⟩
  · rcases List.mem_append.1 hp with hp | hp
    · exact o2 p hp
    · obtain ⟨q1, q2⟩ := hH0 p hp
      rw [hgrow.block p.1 (has_lt hH ⟨p, q1, rfl⟩) q2]
      exact hH p q1
  · obtain ⟨p, hp, rfl⟩ := hb
    rcases List.mem_append.1 hp with hp | hp
    · have h3 := o3 p hp
      rcases hat with e1 | e1
      · exact .inl (hkeyv _ (by rw [← e1]; exact h3.symm))
      · rw [e1] at h3
        have h4 := Option.some.inj h3
        have h5 := lt_of_heap (o2 p hp)
        exact .inr ⟨by omega, h5⟩
    · exact .inl ⟨p, (hH0 p hp).1, rfl⟩
  · rw [events_append_op s x 22 hop hs hx] at he
    rcases hevs e he with ⟨ad, h2, h3⟩ | ⟨mk, rfl, hn⟩
    · rcases h3 with ⟨h3, h4⟩ | h3
      · exact evOkH_cell h2 (by rw [h4]; exact Nat.lt_of_lt_of_le (lt_of_heap hblk) hgrow.size) (.inr (.inl (by rw [h4]; exact ⟨_, hN, rfl⟩)))
      · have hkk := hkeyv _ h3.symm
        exact evOkH_cell h2 (Nat.lt_of_lt_of_le (has_lt hH hkk) hgrow.size) (.inr (.inl hkk))
    · have : mk = .noRoom := by cases mk <;> first | rfl | cases hn
      subst this
      exact evOkH_room


noncomputable def body15 : Code := Try.f15.body.getD .skip
/-- The frame beneath a goroutine's own function. -/
noncomputable def bot : Frame := { (default : Frame) with fn := Try.prog.funcs.size, defers := [], mode := .panicking [goexitEntry] }
def lisD (tb k c : Nat) : Deferred := dcall 15 #[.int .i64 k, .chan (some c), .chan (some tb)]

theorem born15 (tb j c : Nat) (w : World) : stepG Try.prog false (born Try.prog (lisD tb j c)) w =
    .go (G ((baseD 15).at ⟨#[.int .i64 j, .chan (some c), .chan (some tb), undef, undef, undef, undef, undef, undef, undef, undef, undef, undef, undef, undef, undef, undef, undef, undef, undef, undef, undef], []⟩ [.code body15]) [bot]) w #[] := by
  simp [born, lisD, dcall, stepG, unwind, callDeferred, invoke, callFunc, Try.func15, Try.f15, seen, GStep.after, G, Frame.enter, Frame.at, baseD, bot, body15]

theorem quits15 (T : Array Value) : QuitsIn Try.prog 2 (G { (baseD 15).at ⟨T, []⟩ [] with mode := .returning } [bot]) := by
  refine QuitsIn.ctl (g' := G bot []) rfl (fun w => ?_) ?_
  · simp [G, stepG, unwind, doReturn, results, Frame.at, baseD, bot, Try.func15, Try.f15, seen, GStep.after, goexitEntry]
  refine QuitsIn.ctl (g' := { G bot [] with status := .finished }) rfl (fun w => ?_) rfl
  simp [G, stepG, unwind, bot, goexitEntry, Frame.catches]
  rfl

noncomputable def loop15 : Code := match body15 with | .seq _ (.seq (.seq _ (.block _ (.loop c))) _) => c | _ => .skip
noncomputable def last15 : Code := match body15 with | .seq _ (.seq _ r) => r | _ => .skip
noncomputable def ops15 : Array Oper := match loop15 with | .seq (.region _ ops _) _ => ops | _ => #[]
noncomputable def rest15 : Code := match loop15 with | .seq _ r => r | _ => .skip

theorem listed_none {P : Program} {fn : FuncId} (h : (execOp a.eval o).events P w #[] = #[]) : listed P fn a o w = #[] := by unfold listed; rw [h, seen_none]

theorem GH.mono {Stop' : Hp → Goroutine → Prop} (hs : ∀ H g, Stop H g → Stop' H g) : ∀ {n : Nat} {H : Hp} {g : Goroutine}, GH X main Stop n H g → GH X main Stop' n H g := by
  intro n
  induction n with
  | zero => intro H g h; exact hs _ _ h
  | succ n ih =>
    intro H g h
    rcases h with h | ⟨hr, h⟩
    · exact .inl (hs _ _ h)
    · refine .inr ⟨hr, fun w hB hH => ?_⟩
      obtain ⟨g', H', w', es, h1, h2, h3⟩ := h w hB hH
      exact ⟨g', H', w', es, h1, h2, ih h3⟩

/-- A listener at its receive, or behind it. -/
noncomputable def atL (tb k c h : Nat) (T : Fin 15 → Value) (rest : List Nat) : Goroutine :=
  G ((baseD 15).at ⟨#[.int .i64 k, .chan (some c), .chan (some tb), undef, undef, undef, .pointer (some ⟨h, 0, none⟩), T 0, T 1, T 2, .chan (some c), T 3, T 4, T 5, T 6, T 7, T 8, T 9, T 10, T 11, T 12, T 13], []⟩ [.inRegion ops15 rest, .code rest15, .inLoop loop15, .inBlock 0, .code last15]) [bot]

/-- What a listener's own walk takes for granted of the phase. -/
structure LisX (X : Cx) : Prop where
  P : X.P = Try.prog
  hv : ∀ k sl, X.hv k sl = .agg #[.int .i64 k, sl]
  ok : ∀ k sl (H : Hp) (Hv : Hp), OwnV X.B0 sl X.vs.length (X.vs.flatMap fun v => v.cells.toList) Hv → (∀ p ∈ Hv, p ∈ H) → X.ok k sl H
  few : X.vs.length ≤ 999
  recs : ∀ v ∈ X.vs, ∃ cells : Array Value, v = .agg cells ∧ cells.size = 12 ∧ ∀ u ∈ cells.toList, u.oneCell' = true

variable {X : Cx}

theorem hbuild (k : Nat) (w : World) : (Instr.build 48 #[(0, .int .i64 k)]).run Try.prog w = .ok (.agg #[.int .i64 k, .slice none 0 0]) w := run_build w 48 _ _ (by rfl)
theorem hbuildE (k : Nat) (w : World) (es : Array Event) : (Instr.build 48 #[(0, .int .i64 k)]).events Try.prog w es = es := by
  obtain ⟨i48, hi, hz, hs, hb⟩ := info_parts info48
  obtain ⟨i22, hi2, hz2, hs2, hb2⟩ := info_parts info22
  obtain ⟨i3, hi3, hz3, hs3, hb3⟩ := info_parts info3
  simp [Instr.build, Sem.events_bind, zeroValue, typeInfo, hi, hz, run_underlying Try.underlying48, sizeOf, hi2, hi3, hs2, hs3]
  rfl

set_option maxRecDepth 100000 in
theorem lis_start (L : LisX X) (k c : Nat) : ∃ m, GH X false (fun H g => ∃ h T, H = [(h, .cells #[.int .i64 k, .slice none 0 0] 48 (0, 0))] ∧ X.B0 ≤ h ∧ g = atL X.tb k c h T [0, 1]) m [] (born X.P (lisD X.tb k c)) := by
  refine ⟨60, ?_⟩
  rw [L.P]
  refine GH.ctl L.P rfl (fun w => born15 _ _ _ w) ?_
  simp only [body15, Try.f15, Option.getD_some]
  refine GH.ctl L.P rfl (fun w => stepG_seq) ?_
  refine GH.ctl L.P rfl (fun w => stepG_region) ?_
  simp only [List.size_toArray, List.length_cons, List.length_nil, Nat.reduceAdd, Nat.zero_add, List.range, List.range.loop]
  refine GH.val L.P (.int .i64 k) rfl rfl (by decide) (fun w => by go_simp) (fun w => by simp [go_sem]) ?_
  walk_nrm
  refine GH.val L.P (.agg #[.int .i64 k, .slice none 0 0]) rfl rfl (by decide) (fun w => by unfold execOp; walk_nrm; simp only [Sem.run_bind, hbuild, Result.andThen_ok, Sem.run_pure]) (fun w => by unfold execOp; walk_nrm; simp [go_sem, hbuildE]) ?_
  walk_nrm
  obtain ⟨i48, hi, hz, hs48, _⟩ := info_parts info48
  refine GH.alloc L.P rfl rfl (by decide) rfl hi hz (fun h hB hlt => ?_)
  walk_nrm
  refine GH.storeRow L.P [(h, .cells #[.int .i64 k, .slice none 0 0] 48 (0, 0))] rfl rfl (by decide) rfl rfl rfl (List.mem_singleton.2 rfl) (by simp [hi, hs48]) rfl (by simp [Value.oneCell']) (fun p hp => .inl (List.mem_singleton.1 hp)) ?_
  walk_nrm
  refine GH.ctl L.P rfl (fun w => stepG_region_end) ?_
  refine GH.ctl L.P rfl (fun w => stepG_seq) ?_
  refine GH.ctl L.P rfl (fun w => stepG_seq) ?_
  refine GH.ctl L.P rfl (fun w => stepG_region) ?_
  simp only [List.size_toArray, List.length_cons, List.length_nil, Nat.reduceAdd, Nat.zero_add, List.range, List.range.loop]
  refine GH.val L.P (.chan (some c)) rfl rfl (by decide) (fun w => by go_simp) (fun w => by simp [go_sem]) ?_
  walk_nrm
  refine GH.ctl L.P rfl (fun w => stepG_region_end) ?_
  refine GH.ctl L.P rfl (fun w => stepG_block) ?_
  refine GH.ctl L.P rfl (fun w => stepG_loop) ?_
  refine GH.ctl L.P rfl (fun w => stepG_seq) ?_
  refine GH.ctl L.P rfl (fun w => stepG_region) ?_
  simp only [List.size_toArray, List.length_cons, List.length_nil, Nat.reduceAdd, Nat.zero_add, List.range, List.range.loop]
  exact GH.stop ⟨h, fun i => match i with | 1 => .int .i64 k | 2 => .agg #[.int .i64 k, .slice none 0 0] | _ => undef, rfl, hB, rfl⟩

theorem rng27 : ((Array.range (1 * 12)).map (zRec[· % zRec.size]!)) = zRec := by kernel_rfl
theorem built27 {cells : Array Value} (h : cells.size = 12) : Instr.fill (fun i => some (i * 12, 12)) ((Array.range (1 * 12)).map (zRec[· % zRec.size]!)) [(0, .agg cells)] = some cells := by
  obtain ⟨l⟩ := cells
  rw [rng27]
  match l, h with
  | [a, b, c, d, e, f, g, h', i, j, k, l'], _ => simp [Instr.fill, Value.cells, zRec, List.zipIdx_cons]

set_option maxRecDepth 100000 in
/-- A round: one record more. -/
theorem lis_round (L : LisX X) (k c h m : Nat) (v : Value) (xs : List Value) (Hv : Hp) (T : Fin 15 → Value) (cells : Array Value) (hcs : cells.size = 12) (h1 : ∀ u ∈ cells.toList, u.oneCell' = true) (hm : m ≤ 999) (hB : X.B0 ≤ h) (hv : OwnV X.B0 v m xs Hv) (hne : ∀ p ∈ Hv, p.1 ≠ h)
    {Stop : Hp → Goroutine → Prop} (next : ∀ v' Hv' T', OwnV X.B0 v' (m + 1) (xs ++ cells.toList) Hv' → (∀ p ∈ Hv', p.1 ≠ h) → Stop ((h, .cells #[.int .i64 k, v'] 48 (0, 0)) :: Hv') (atL X.tb k c h T' [0, 1])) :
    GH X false Stop 60 ((h, .cells #[.int .i64 k, v] 48 (0, 0)) :: Hv) (atL X.tb k c h (fun i => if i = 3 then .tuple #[.agg cells, .bool true] else T i) [1]) := by
  obtain ⟨i27, hi, hz, hs27, hb27⟩ := info_parts info27
  simp only [atL, ops15, rest15, last15, loop15, body15, Try.f15, Option.getD_some, Fin.isValue, Fin.reduceEq, if_false, if_true]
  refine GH.val L.P (.bool true) rfl rfl (by decide) (fun w => by go_simp) (fun w => by simp [go_sem]) ?_
  walk_nrm
  refine GH.ctl L.P rfl (fun w => stepG_region_end) ?_
  refine GH.ctl L.P rfl (fun w => stepG_seq) ?_
  refine GH.ctl L.P rfl (fun w => stepG_cond (t := true) rfl) ?_
  simp only [if_true]
  refine GH.ctl L.P rfl (fun w => stepG_skip) ?_
  refine GH.ctl L.P rfl (fun w => stepG_block) ?_
  refine GH.ctl L.P rfl (fun w => stepG_seq) ?_
  refine GH.ctl L.P rfl (fun w => stepG_region) ?_
  simp only [List.size_toArray, List.length_cons, List.length_nil, Nat.reduceAdd, Nat.zero_add, List.range, List.range.loop]
  refine GH.val L.P (.agg cells) rfl rfl (by decide) (fun w => by go_simp) (fun w => by simp [go_sem]) ?_
  walk_nrm
  refine GH.alloc L.P rfl rfl (by decide) rfl hi hz (fun N hBN hlt => ?_)
  walk_nrm
  have hNh : N ≠ h := fun e => by have := hlt _ (List.mem_cons_self ..); simp only at this; omega
  refine GH.storeRow L.P ((N, .cells cells 27 (0, 0)) :: (h, .cells #[.int .i64 k, v] 48 (0, 0)) :: Hv) rfl rfl (by decide) rfl rfl rfl (List.mem_cons_self ..) (by simp [hi, hs27, hcs]) (by rw [hcs]; rfl) (by rw [Array.all_eq_true_iff_forall_mem]; exact fun u hu => h1 u (Array.mem_toList_iff.2 hu))
    (fun p hp => by
      rcases List.mem_cons.1 hp with rfl | hp
      · exact .inl rfl
      · exact .inr ⟨List.mem_cons_of_mem _ hp, fun e => by have := hlt p hp; omega⟩) ?_
  walk_nrm
  refine GH.ctl L.P rfl (fun w => stepG_region_end) ?_
  refine GH.ctl L.P rfl (fun w => stepG_region) ?_
  simp only [List.size_toArray, List.length_cons, List.length_nil, Nat.reduceAdd, Nat.zero_add, List.range, List.range.loop]
  refine GH.val L.P (.pointer (some ⟨h, 1, none⟩)) rfl rfl (by decide) (fun w => by go_simp) (fun w => by simp [go_sem]) ?_
  walk_nrm
  have hin : ∀ w, Has ((N, Obj.cells cells 27 (0, 0)) :: (h, .cells #[.int .i64 k, v] 48 (0, 0)) :: Hv) w → w.heap[h]? = some (.cells #[.int .i64 k, v] 48 (0, 0)) ∧ w.heap[N]? = some (.cells cells 27 (0, 0)) := fun w hH => ⟨hH _ (List.mem_cons_of_mem _ (List.mem_cons_self ..)), hH _ (List.mem_cons_self ..)⟩
  refine GH.loadCell L.P v rfl rfl (by decide) rfl rfl Try.underlying22 rfl (fun w _ hH => by simp [World.cell?, (hin w hH).1]) (.inr ⟨_, List.mem_cons_of_mem _ (List.mem_cons_self ..), rfl⟩) ?_
  walk_nrm
  refine GH.loadRow L.P cells.toList rfl rfl (by decide) rfl rfl Try.underlying27 rfl (by simp [hi, hs27, hcs]) (fun w _ hH => ⟨fun j u hj => by simp only [World.cell?, (hin w hH).2, Nat.zero_add]; simpa using hj, lt_of_heap (hin w hH).2⟩) (.inr ⟨_, List.mem_cons_self .., rfl⟩) ?_
  walk_nrm
  refine GH.newBlk L.P (fun N => .slice (some ⟨N, 0, none⟩) 1 1) (.cells cells 27 (0, 0)) rfl rfl (by decide) (fun w => ?_) (fun w => ?_) (fun N2 hBN2 hlt2 => ?_)
  · unfold execOp
    walk_nrm
    simp only [Array.toArray_toList, Sem.run_bind, run_buildSlice w 22 27 1 _ cells i27 (.agg zRec) Try.underlying22 hi hz (by rw [hs27]; decide) (by rw [hs27]; decide) (by rw [hs27]; exact built27 hcs), Result.andThen_ok, Sem.run_pure]
  · unfold execOp
    walk_nrm
    simp [go_sem, hcs]
  walk_nrm
  have hne' : ∀ p ∈ Hv, some p.1 ≠ some h := fun p hp e => hne p hp (Option.some.inj e)
  have hNv : ∀ p ∈ Hv, p.1 < N := fun p hp => hlt p (List.mem_cons_of_mem _ hp)
  refine GH.append L.P (v := v) (m := m) (xs := xs) (Hv := Hv) (H0 := [(h, .cells #[.int .i64 k, v] 48 (0, 0))]) (cells := cells) rfl rfl (by decide) rfl rfl rfl Try.underlying22 hi hz hs27 hb27 rfl hv (fun p hp => List.mem_cons_of_mem _ (List.mem_cons_of_mem _ (List.mem_cons_of_mem _ hp))) (List.mem_cons_self ..) hcs h1 (by omega)
    (fun p hp => by
      rw [List.mem_singleton.1 hp]
      refine ⟨List.mem_cons_of_mem _ (List.mem_cons_of_mem _ (List.mem_cons_self ..)), fun e => ?_⟩
      obtain ⟨ob, hob⟩ := hv.block e.symm
      exact hne _ hob rfl) (fun v' Hv' hv' hdis => ?_)
  walk_nrm
  have hne2 : ∀ p ∈ Hv', p.1 ≠ h := fun p hp => hdis p hp _ (List.mem_singleton.2 rfl)
  refine GH.val L.P (.pointer (some ⟨h, 1, none⟩)) rfl rfl (by decide) (fun w => by go_simp) (fun w => by simp [go_sem]) ?_
  walk_nrm
  obtain ⟨i22, hi2, hz2, hs22, _⟩ := info_parts info22
  have hcell : v'.cells = #[v'] ∧ v'.oneCell' = true := by
    rcases hv'.2 with ⟨rfl, _⟩ | ⟨g, cap, cur, rfl, _⟩ <;> exact ⟨rfl, rfl⟩
  refine GH.storeCell L.P ((h, .cells #[.int .i64 k, v'] 48 (0, 0)) :: Hv') rfl rfl (by decide) rfl rfl rfl (List.mem_append_right _ (List.mem_singleton.2 rfl)) (by simp [hi2, hs22]) hcell.1 (by show 1 < 2; decide) hcell.2
    (fun p hp => by
      rcases List.mem_cons.1 hp with rfl | hp
      · exact .inl rfl
      · exact .inr ⟨List.mem_append_left _ hp, hne2 p hp⟩) ?_
  walk_nrm
  refine GH.ctl L.P rfl (fun w => stepG_region_end) ?_
  refine GH.ctl L.P rfl (fun w => stepG_inBlock) ?_
  refine GH.ctl L.P rfl (fun w => stepG_inLoop) ?_
  refine GH.ctl L.P rfl (fun w => stepG_seq) ?_
  refine GH.ctl L.P rfl (fun w => stepG_region) ?_
  simp only [List.size_toArray, List.length_cons, List.length_nil, Nat.reduceAdd, Nat.zero_add, List.range, List.range.loop]
  exact GH.stop (next v' Hv' (fun i => match i with | 0 => .pointer (some ⟨N, 0, none⟩) | 3 => .tuple #[.agg cells, .bool true] | 4 => .bool true | 5 => .agg cells | 6 => .pointer (some ⟨h, 1, none⟩) | 7 => v | 8 => .agg cells.toList.toArray | 9 => .slice (some ⟨N2, 0, none⟩) 1 1 | 10 => v' | 11 => .pointer (some ⟨h, 1, none⟩) | i => T i) hv' hne2)

set_option maxRecDepth 100000 in
/-- The channel is closed: on to the answer. -/
theorem lis_end (L : LisX X) (k c h : Nat) (v : Value) (Hv : Hp) (T : Fin 15 → Value) (z1 : Value) (hB : X.B0 ≤ h) (hv : OwnV X.B0 v X.vs.length (X.vs.flatMap fun v => v.cells.toList) Hv) (hne : ∀ p ∈ Hv, p.1 ≠ h) :
    GH X false (ATell X k) 40 ((h, .cells #[.int .i64 k, v] 48 (0, 0)) :: Hv) (atL X.tb k c h (fun i => if i = 3 then .tuple #[z1, .bool false] else T i) [1]) := by
  obtain ⟨i48, hi, hz, hs48, hb48⟩ := info_parts info48
  simp only [atL, ops15, rest15, last15, loop15, body15, Try.f15, Option.getD_some, Fin.isValue, Fin.reduceEq, if_false, if_true]
  refine GH.val L.P (.bool false) rfl rfl (by decide) (fun w => by go_simp) (fun w => by simp [go_sem]) ?_
  walk_nrm
  refine GH.ctl L.P rfl (fun w => stepG_region_end) ?_
  refine GH.ctl L.P rfl (fun w => stepG_seq) ?_
  refine GH.ctl L.P rfl (fun w => stepG_cond (t := false) rfl) ?_
  simp only [Bool.false_eq_true, if_false]
  refine GH.ctl L.P rfl (fun w => stepG_exit rfl) ?_
  refine GH.ctl L.P rfl (fun w => stepG_region) ?_
  simp only [List.size_toArray, List.length_cons, List.length_nil, Nat.reduceAdd, Nat.zero_add, List.range, List.range.loop]
  refine GH.val L.P (.chan (some X.tb)) rfl rfl (by decide) (fun w => by go_simp) (fun w => by simp [go_sem]) ?_
  walk_nrm
  have hin : ∀ w, Has ((h, Obj.cells #[.int .i64 k, v] 48 (0, 0)) :: Hv) w → w.heap[h]? = some (.cells #[.int .i64 k, v] 48 (0, 0)) := fun w hH => hH _ (List.mem_cons_self ..)
  refine GH.loadRow L.P [.int .i64 k, v] rfl rfl (by decide) rfl rfl Try.underlying48 rfl (by simp [hi, hs48]) (fun w _ hH => ⟨fun j u hj => by simp only [World.cell?, hin w hH, Nat.zero_add]; simpa using hj, lt_of_heap (hin w hH)⟩) (.inr ⟨_, List.mem_cons_self .., rfl⟩) ?_
  walk_nrm
  refine GH.stop ⟨rfl, v, .tuple #[], L.ok k v _ Hv hv (fun p hp => List.mem_cons_of_mem _ hp), fun w => ?_, 4, ?_⟩
  · rw [L.P, L.hv]
    rw [stepG_comm (cases := #[scase X.tb (.agg #[.int .i64 k, v]) (.tuple #[])]) (blocking := true) (shape := .send) (w' := w) rfl rfl (by decide) (by unfold execOp; walk_nrm; simp [scase])]
    rw [core_G, listed_none (by unfold execOp; walk_nrm; simp)]
  · rw [L.P, core_G, served_G]
    walk_nrm
    refine QuitsIn.ctl rfl (fun w => stepG_region_end) ?_
    refine QuitsIn.ctl rfl (fun w => stepG_end) ?_
    exact quits15 _

set_option maxRecDepth 100000 in
theorem lis_recv (tb k c h : Nat) (T : Fin 15 → Value) (w : World) : stepG Try.prog false (atL tb k c h T [0, 1]) w = .comm (core (atL tb k c h T [0, 1])) #[rcase c (.agg zRec)] true (.recv true) w #[] := by
  obtain ⟨i27, hi, hz, hs27, hb27⟩ := info_parts info27
  simp only [atL, ops15, rest15, last15, loop15, body15, Try.f15, Option.getD_some, Fin.isValue]
  rw [stepG_comm (cases := #[rcase c (.agg zRec)]) (blocking := true) (shape := .recv true) (w' := w) rfl rfl (by decide) (by unfold execOp; walk_nrm; simp [rcase, run_underlying Try.underlying51, zeroValue, typeInfo, hi, hz])]
  rw [core_G, listed_none (by unfold execOp; walk_nrm; simp [run_underlying Try.underlying51])]

theorem lis_served (tb k c h : Nat) (T : Fin 15 → Value) (v : Value) : Conc.served (core (atL tb k c h T [0, 1])) v = atL tb k c h (fun i => if i = 3 then v else T i) [1] := by
  simp only [atL, core_G, served_G]
  simp only [ops15, rest15, last15, loop15, body15, Try.f15, Option.getD_some, Fin.isValue, Fin.reduceEq, if_false, if_true]
  walk_nrm

theorem lis_at (L : LisX X) (k c h : Nat) (hB : X.B0 ≤ h) : ∀ (us done : List Value) (v : Value) (Hv : Hp) (T : Fin 15 → Value), X.vs = done ++ us → OwnV X.B0 v done.length (done.flatMap fun v => v.cells.toList) Hv → (∀ p ∈ Hv, p.1 ≠ h) →
    ARecv X c (LNext X c k us) ((h, .cells #[.int .i64 k, v] 48 (0, 0)) :: Hv) (atL X.tb k c h T [0, 1]) := by
  intro us
  induction us with
  | nil =>
    intro done v Hv T hvs hv hne
    refine ⟨rfl, .agg zRec, fun w => by rw [L.P]; exact lis_recv _ _ _ _ _ w, ?_⟩
    have hd : X.vs = done := by simpa using hvs
    show ∃ m2, GH X false (ATell X k) m2 _ (Conc.served (core (atL X.tb k c h T [0, 1])) (.tuple #[.agg zRec, .bool false]))
    rw [lis_served]
    exact ⟨40, lis_end L k c h v Hv T _ hB (by rw [hd]; exact hv) hne⟩
  | cons u us ih =>
    intro done v Hv T hvs hv hne
    refine ⟨rfl, .agg zRec, fun w => by rw [L.P]; exact lis_recv _ _ _ _ _ w, ?_⟩
    show ListH X c k us _ (Conc.served (core (atL X.tb k c h T [0, 1])) (.tuple #[u, .bool true]))
    rw [lis_served, listH_iff]
    obtain ⟨cells, rfl, hcs, h1⟩ := L.recs u (by rw [hvs]; simp)
    have hlen := congrArg List.length hvs
    simp only [List.length_append, List.length_cons] at hlen
    have hfew := L.few
    refine ⟨60, lis_round L k c h done.length v _ Hv T cells hcs h1 (by omega) hB hv hne fun v' Hv' T' hv' hne' => ?_⟩
    exact ih (done ++ [.agg cells]) v' Hv' T' (by rw [hvs]; simp) (by simpa [Value.cells] using hv') hne'

/-- ████ A listener. ████ -/
theorem lis_all (L : LisX X) (k c : Nat) : ListH X c k X.vs [] (born X.P (lisD X.tb k c)) := by
  obtain ⟨m, hm⟩ := lis_start L k c
  rw [listH_iff]
  refine ⟨m, hm.mono ?_⟩
  rintro H g ⟨h, T, rfl, hB, rfl⟩
  exact lis_at L k c h hB X.vs [] (.slice none 0 0) [] T rfl ⟨rfl, .inl ⟨rfl, rfl, rfl⟩⟩ (fun p hp => by cases hp)
end
end Go.Proofs.Ytofoplpnpfaofaa
