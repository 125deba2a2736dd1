/- What is proved here: what a communication comes to in a machine of many goroutines: one case, or a send beside a receive that cannot proceed. No condition beside the channel's state. -/
import Derived.Test.YtofoplpnpfaofaaTrace
import Derived.Conc.CommBuf
set_option linter.unusedSimpArgs false
set_option linter.unusedVariables false
namespace Go.Proofs.Ytofoplpnpfaofaa
open Go Go.Conc

section
variable {P : Program}

theorem mem_partners {gs : Array Goroutine} {r : Nat} {send : Bool} {h k : Nat} :
    (h, k) ∈ partners gs r send ↔ ∃ g cs sh c, gs[h]? = some g ∧ g.status = .blocked ∧ g.offers = some (cs, sh) ∧ cs[k]? = some c ∧ c.send.isSome = send ∧ c.chan = .chan (some r) := by
  unfold partners
  simp only [List.mem_flatMap, Prod.exists]
  constructor
  · rintro ⟨g, i, hgi, hm⟩
    have hgi' : gs[i]? = some g := by
      have := Array.mem_toList_iff.1 hgi
      rw [Array.mem_zipIdx_iff_getElem?] at this
      simpa using this
    split at hm
    · rename_i cs sh hst hof
      simp only [List.mem_map, List.mem_filter, Prod.exists, Bool.and_eq_true, beq_iff_eq] at hm
      obtain ⟨c, j, ⟨hcj, hs, hc⟩, he⟩ := hm
      cases he
      have hcj' : cs[k]? = some c := by
        have := Array.mem_toList_iff.1 hcj
        rw [Array.mem_zipIdx_iff_getElem?] at this
        simpa using this
      refine ⟨g, cs, sh, c, hgi', hst, hof, hcj', hs, ?_⟩
      split at hc
      · rename_i r' hcr
        rw [hcr]
        have : r' = r := by simpa using hc
        rw [this]
      · cases hc
    · simp at hm
  · rintro ⟨g, cs, sh, c, hgi, hst, hof, hck, hs, hc⟩
    refine ⟨g, h, ?_, ?_⟩
    · rw [Array.mem_toList_iff, Array.mem_zipIdx_iff_getElem?]
      simpa using hgi
    · simp only [hst, hof, List.mem_map, List.mem_filter, Prod.exists, Bool.and_eq_true, beq_iff_eq]
      refine ⟨c, k, ⟨?_, hs, ?_⟩, rfl⟩
      · rw [Array.mem_toList_iff, Array.mem_zipIdx_iff_getElem?]
        simpa using hck
      · simp [hc]

theorem partners_nil {gs : Array Goroutine} {r : Nat} {send : Bool} (h : ∀ i k, (i, k) ∉ partners gs r send) : partners gs r send = [] := by
  cases hp : partners gs r send with
  | nil => rfl
  | cons x l => exact absurd (by rw [hp]; simp) (h x.1 x.2)

theorem at_self (w : World) : w.at w.drawn = w := rfl

/-- A choice among some: one of them. -/
theorem choose_in {α : Type} (ws : List α) (d0 : α) (hne : ws ≠ []) (w : World) :
    ∃ b d, b < ws.length ∧ ws.getD b d0 ∈ ws ∧ (choose (.extern "which waiting goroutine is the partner" ws.length)).run P w = .ok b (w.at d) := by
  have hpos : 0 < ws.length := List.length_pos_iff.2 hne
  have hg : ∀ b, b < ws.length → ws.getD b d0 ∈ ws := by
    intro b hb
    rw [List.getD_eq_getElem?_getD, List.getElem?_eq_getElem hb]
    exact List.getElem_mem hb
  simp only [choose, Sem.run, Question.forced]
  by_cases h1 : ws.length = 1
  · exact ⟨0, w.drawn, hpos, hg 0 hpos, by simp [h1]; rfl⟩
  · refine ⟨(Question.extern "which waiting goroutine is the partner" ws.length).cut (w.tape w.drawn (.extern "which waiting goroutine is the partner" ws.length)), w.drawn + 1, ?_, hg _ ?_, by simp [h1]; rfl⟩
    all_goals
      simp only [Question.cut]
      rw [if_neg (by omega)]
      exact Nat.mod_lt _ hpos

theorem pick_one (k : Nat) (c : CommCase) (ws : List Way) (hne : ws ≠ []) (w : World) :
    ∃ way d, way ∈ ws ∧ (do
      let a ← choose (.select [(k, c, ws)].length)
      let (k, c, ws) := [(k, c, ws)].getD a (0, default, [])
      let b ← choose (.extern "which waiting goroutine is the partner" ws.length)
      pure (k, c, ws.getD b .closed) : Sem (Nat × CommCase × Way)).run P w = .ok (k, c, way) (w.at d) := by
  obtain ⟨b, d, hb, hm, hr⟩ := choose_in (P := P) ws .closed hne w
  refine ⟨ws.getD b .closed, d, hm, ?_⟩
  have e0 : (choose (.select [(k, c, ws)].length)).run P w = .ok 0 w := by simp [choose, Sem.run, Question.forced]
  simp only [Sem.run_bind, e0, Result.andThen_ok, List.getD_cons_zero, hr, Sem.run_pure]

/-- The arrays of cases that occur: one, or a send beside a receive. -/
def OneWay (w : World) (gs : Array Goroutine) (cs : Array CommCase) (c : CommCase) : Prop :=
  cs = #[c] ∨ ∃ b z cap s r tm, cs = #[c, rcase b z] ∧ w.heap[b]? = some (.chan cap #[] false s r tm) ∧ partners gs b true = []

theorem ways_none {w : World} {gs : Array Goroutine} {b : Nat} {z : Value} {cap s r : Nat} {tm : Bool} (hb : w.heap[b]? = some (.chan cap #[] false s r tm)) (hp : partners gs b true = []) : ways w gs (rcase b z) = [] := by
  simp [ways, rcase, hb, hp]

theorem ready_one {w : World} {gs : Array Goroutine} {cs : Array CommCase} {c : CommCase} (h : OneWay w gs cs c) (hne : ways w gs c ≠ []) :
    ((cs.zipIdx.toList.map fun (c, k) => (k, c, ways w gs c)).filter fun (_, _, ws) => !ws.isEmpty) = [(0, c, ways w gs c)] := by
  rcases h with rfl | ⟨b, z, cap, s, r, tm, rfl, hb, hp⟩
  · simp [hne]
  · simp [hne, ways_none hb hp]

theorem ready_none {w : World} {gs : Array Goroutine} {cs : Array CommCase} {c : CommCase} (h : OneWay w gs cs c) (hn : ways w gs c = []) :
    ((cs.zipIdx.toList.map fun (c, k) => (k, c, ways w gs c)).filter fun (_, _, ws) => !ws.isEmpty) = [] := by
  rcases h with rfl | ⟨b, z, cap, s, r, tm, rfl, hb, hp⟩
  · simp [hn]
  · simp [hn, ways_none hb hp]

theorem any_no {w : World} {gs : Array Goroutine} {cs : Array CommCase} {c : CommCase} (h : OneWay w gs cs c) (f : CommCase → Bool) (h1 : f c = false) (h2 : ∀ b z cap s r tm, w.heap[b]? = some (.chan cap #[] false s r tm) → f (rcase b z) = false) : cs.any f = false := by
  rcases h with rfl | ⟨b, z, cap', s', r', tm', rfl, hb, hp⟩
  · simp [h1]
  · simp [h1, h2 b z cap' s' r' tm' hb]

section comm
variable {gs : Array Goroutine} {w : World} {sl : Option (Nat × Nat)} {i : Nat} {g : Goroutine} {cs : Array CommCase} {sh : CommShape} {c cap s r : Nat} {buf : Array Value} {v z : Value} {tm cl : Bool}

abbrev rst (sl : Option (Nat × Nat)) : Rest := { timers := #[], alone := none, slice := sl }

/-- Nobody is there: it waits. -/
theorem comm_waits {k : CommCase} (h : OneWay w gs cs k) (hc : k.chan = .chan (some c)) (hk : w.heap[c]? = some (.chan cap buf cl s r tm)) (hn : ways w gs k = []) :
    communicate P (rst sl) gs i g cs true sh w = (.next (crowd (gs.setIfInBounds i (parked g cs sh)) w sl), #[]) := by
  have hw : waitingAt (rst sl) cs w = some w := by
    unfold waitingAt timerAhead
    rw [any_no h _ (by simp [hc]) (by intro b z _ _ _ _ _; simp [rcase])]
    rfl
  unfold communicate
  dsimp only
  rw [any_no h _ (by simp [hc, hk]) (by intro b z _ _ _ _ hb; simp [rcase, hb]), ready_none h hn]
  simp only [hw, List.isEmpty_nil, if_true, Bool.false_eq_true, if_false]
  rfl

theorem comm_send_partner (h : OneWay w gs cs (scase c v z)) (hk : w.heap[c]? = some (.chan cap buf false s r tm)) (hp : partners gs c false ≠ []) :
    ∃ j jk d, (j, jk) ∈ partners gs c false ∧ communicate P (rst sl) gs i g cs true sh w = (.next (crowd ((finishPartner P gs j jk v).setIfInBounds i (g.finishComm P cs sh 0 undef false)) ((w.at d).setChan c cap buf false (s + 1) (r + 1) tm) sl),
      #[{ g := i, fn := g.frame.fn, pos := g.frame.place, act := .send c s }, { g := j, fn := (gs.getD j default).frame.fn, pos := (gs.getD j default).frame.place, act := .recv c r cap },
        { g := i, fn := g.frame.fn, pos := g.frame.place, act := .sendDone c s }, { g := j, fn := (gs.getD j default).frame.fn, pos := (gs.getD j default).frame.place, act := .recvDone c r }]) := by
  have hways : ways w gs (scase c v z) = (partners gs c false).map fun (h, k) => .partner h k := by
    unfold ways scase
    obtain ⟨x, l, hxl⟩ := List.exists_cons_of_ne_nil hp
    simp only [hk, Bool.false_eq_true, if_false, hxl]
  have hne : ways w gs (scase c v z) ≠ [] := by rw [hways]; simpa using hp
  obtain ⟨way, d, hm, hr⟩ := pick_one (P := P) 0 (scase c v z) (ways w gs (scase c v z)) hne w
  rw [hways] at hm
  obtain ⟨⟨j, jk⟩, hj, rfl⟩ := List.mem_map.1 hm
  refine ⟨j, jk, d, hj, ?_⟩
  unfold communicate
  dsimp only
  rw [any_no h _ (by simp [scase, rcase, hk]) (by intro b z _ _ _ _ hb; simp [rcase, hb]), ready_one h hne]
  simp only [Bool.false_eq_true, if_false, List.isEmpty_cons, hr]
  have hk' : (w.at d).heap[c]? = some (.chan cap buf false s r tm) := hk
  simp only [scase, hk']
  rfl

theorem comm_send_room (h : OneWay w gs cs (scase c v z)) (hk : w.heap[c]? = some (.chan cap buf false s r tm)) (hp : partners gs c false = []) (hroom : buf.size < cap) :
    ∃ d, communicate P (rst sl) gs i g cs true sh w = (.next (crowd (gs.setIfInBounds i (g.finishComm P cs sh 0 undef false)) ((w.at d).setChan c cap (buf.push v) false (s + 1) r tm) sl),
      #[{ g := i, fn := g.frame.fn, pos := g.frame.place, act := .send c s }, { g := i, fn := g.frame.fn, pos := g.frame.place, act := .sendDone c s }]) := by
  have hways : ways w gs (scase c v z) = [.buffer] := by
    unfold ways scase
    simp [hk, hp, hroom]
  have hne : ways w gs (scase c v z) ≠ [] := by rw [hways]; simp
  obtain ⟨way, d, hm, hr⟩ := pick_one (P := P) 0 (scase c v z) (ways w gs (scase c v z)) hne w
  rw [hways] at hm
  simp only [List.mem_singleton] at hm
  subst hm
  refine ⟨d, ?_⟩
  unfold communicate
  dsimp only
  rw [any_no h _ (by simp [scase, rcase, hk]) (by intro b z _ _ _ _ hb; simp [rcase, hb]), ready_one h hne]
  simp only [Bool.false_eq_true, if_false, List.isEmpty_cons, hr]
  have hk' : (w.at d).heap[c]? = some (.chan cap buf false s r tm) := hk
  simp only [scase, hk']
  rfl

theorem comm_recv_partner (hk : w.heap[c]? = some (.chan cap #[] cl s r tm)) (hp : partners gs c true ≠ []) :
    ∃ j jk d, (j, jk) ∈ partners gs c true ∧ communicate P (rst sl) gs i g #[rcase c z] true sh w = (.next (crowd ((finishPartner P gs j jk undef).setIfInBounds i (g.finishComm P #[rcase c z] sh 0 (offeredValue gs j jk) true)) ((w.at d).setChan c cap #[] cl (s + 1) (r + 1) tm) sl),
      #[{ g := j, fn := (gs.getD j default).frame.fn, pos := (gs.getD j default).frame.place, act := .send c s }, { g := i, fn := g.frame.fn, pos := g.frame.place, act := .recv c r cap },
        { g := j, fn := (gs.getD j default).frame.fn, pos := (gs.getD j default).frame.place, act := .sendDone c s }, { g := i, fn := g.frame.fn, pos := g.frame.place, act := .recvDone c r }]) := by
  have h : OneWay w gs #[rcase c z] (rcase c z) := .inl rfl
  have hways : ways w gs (rcase c z) = (partners gs c true).map fun (h, k) => .partner h k := by
    unfold ways rcase
    obtain ⟨x, l, hxl⟩ := List.exists_cons_of_ne_nil hp
    simp only [hk, Array.size_empty, Nat.lt_irrefl, if_false, gt_iff_lt, hxl]
  have hne : ways w gs (rcase c z) ≠ [] := by rw [hways]; simpa using hp
  obtain ⟨way, d, hm, hr⟩ := pick_one (P := P) 0 (rcase c z) (ways w gs (rcase c z)) hne w
  rw [hways] at hm
  obtain ⟨⟨j, jk⟩, hj, rfl⟩ := List.mem_map.1 hm
  refine ⟨j, jk, d, hj, ?_⟩
  unfold communicate
  dsimp only
  rw [any_no h _ (by simp [scase, rcase, hk]) (by intro b z _ _ _ _ hb; simp [rcase, hb]), ready_one h hne]
  simp only [Bool.false_eq_true, if_false, List.isEmpty_cons, hr]
  have hk' : (w.at d).heap[c]? = some (.chan cap #[] cl s r tm) := hk
  simp only [rcase, hk']
  rfl

theorem comm_recv_closed (hk : w.heap[c]? = some (.chan cap #[] true s r tm)) (hp : partners gs c true = []) :
    ∃ d, communicate P (rst sl) gs i g #[rcase c z] true sh w = (.next (crowd (gs.setIfInBounds i (g.finishComm P #[rcase c z] sh 0 z false)) (w.at d) sl),
      #[{ g := i, fn := g.frame.fn, pos := g.frame.place, act := .recvClosed c }]) := by
  have h : OneWay w gs #[rcase c z] (rcase c z) := .inl rfl
  have hways : ways w gs (rcase c z) = [.closed] := by
    unfold ways rcase
    simp [hk, hp]
  have hne : ways w gs (rcase c z) ≠ [] := by rw [hways]; simp
  obtain ⟨way, d, hm, hr⟩ := pick_one (P := P) 0 (rcase c z) (ways w gs (rcase c z)) hne w
  rw [hways] at hm
  simp only [List.mem_singleton] at hm
  subst hm
  refine ⟨d, ?_⟩
  unfold communicate
  dsimp only
  rw [any_no h _ (by simp [scase, rcase, hk]) (by intro b z _ _ _ _ hb; simp [rcase, hb]), ready_one h hne]
  simp only [Bool.false_eq_true, if_false, List.isEmpty_cons, hr]
  simp only [rcase]
  rfl

theorem comm_recv_buf (hk : w.heap[c]? = some (.chan cap buf cl s r tm)) (hb : 0 < buf.size) (hp : partners gs c true = []) :
    ∃ d, communicate P (rst sl) gs i g #[rcase c z] true sh w = (.next (crowd (gs.setIfInBounds i (g.finishComm P #[rcase c z] sh 0 (buf.getD 0 undef) true)) ((w.at d).setChan c cap (buf.extract 1 buf.size) cl s (r + 1) tm) sl),
      #[{ g := i, fn := g.frame.fn, pos := g.frame.place, act := .recv c r cap }, { g := i, fn := g.frame.fn, pos := g.frame.place, act := .recvDone c r }]) := by
  have h : OneWay w gs #[rcase c z] (rcase c z) := .inl rfl
  have hways : ways w gs (rcase c z) = [.buffer] := by
    unfold ways rcase
    simp [hk, hb]
  have hne : ways w gs (rcase c z) ≠ [] := by rw [hways]; simp
  obtain ⟨way, d, hm, hr⟩ := pick_one (P := P) 0 (rcase c z) (ways w gs (rcase c z)) hne w
  rw [hways] at hm
  simp only [List.mem_singleton] at hm
  subst hm
  refine ⟨d, ?_⟩
  unfold communicate
  dsimp only
  rw [any_no h _ (by simp [scase, rcase, hk]) (by intro b z _ _ _ _ hb; simp [rcase, hb]), ready_one h hne]
  simp only [Bool.false_eq_true, if_false, List.isEmpty_cons, hr]
  have hk' : (w.at d).heap[c]? = some (.chan cap buf cl s r tm) := hk
  simp only [rcase, hk', hp]
  rfl

/-- It takes the first of the buffer; one that waited to send fills the room. -/
theorem comm_recv_bufp (hk : w.heap[c]? = some (.chan cap buf cl s r tm)) (hb : 0 < buf.size) (hp : partners gs c true ≠ []) :
    ∃ j jk d, (j, jk) ∈ partners gs c true ∧ communicate P (rst sl) gs i g #[rcase c z] true sh w =
      (.next (crowd ((finishPartner P gs j jk undef).setIfInBounds i (g.finishComm P #[rcase c z] sh 0 (buf.getD 0 undef) true)) ((w.at d).setChan c cap ((buf.extract 1 buf.size).push (offeredValue gs j jk)) cl (s + 1) (r + 1) tm) sl),
      #[{ g := i, fn := g.frame.fn, pos := g.frame.place, act := .recv c r cap }, { g := i, fn := g.frame.fn, pos := g.frame.place, act := .recvDone c r },
        { g := j, fn := (gs.getD j default).frame.fn, pos := (gs.getD j default).frame.place, act := .send c s }, { g := j, fn := (gs.getD j default).frame.fn, pos := (gs.getD j default).frame.place, act := .sendDone c s }]) := by
  have h : OneWay w gs #[rcase c z] (rcase c z) := .inl rfl
  have hways : ways w gs (rcase c z) = [.buffer] := by
    unfold ways rcase
    simp [hk, hb]
  have hne : ways w gs (rcase c z) ≠ [] := by rw [hways]; simp
  obtain ⟨way, d, hm, hr⟩ := pick_one (P := P) 0 (rcase c z) (ways w gs (rcase c z)) hne w
  rw [hways] at hm
  simp only [List.mem_singleton] at hm
  subst hm
  obtain ⟨b, d2, hb2, hm2, hr2⟩ := choose_in (P := P) (partners gs c true) (0, 0) hp (w.at d)
  refine ⟨((partners gs c true).getD b (0, 0)).1, ((partners gs c true).getD b (0, 0)).2, d2, hm2, ?_⟩
  obtain ⟨x, l, hxl⟩ := List.exists_cons_of_ne_nil hp
  unfold communicate
  dsimp only
  rw [any_no h _ (by simp [scase, rcase, hk]) (by intro b z _ _ _ _ hb; simp [rcase, hb]), ready_one h hne]
  simp only [Bool.false_eq_true, if_false, List.isEmpty_cons, hr]
  have hk' : (w.at d).heap[c]? = some (.chan cap buf cl s r tm) := hk
  rw [hxl] at hr2
  simp only [rcase, hk', hxl, hr2]
  rfl
end comm

theorem runT_crowd_comm {gs : Array Goroutine} {w w' : World} {sl : Option (Nat × Nat)} {i : Nat} {g g' : Goroutine} {cs : Array CommCase} {sh : CommShape} {es : Array Event} (hi : gs[i]? = some g) (h : stepG P (i == 0) g w = .comm g' cs true sh w' es) :
    runT P (crowd gs w sl) i = ((communicate P (rst sl) (gs.setIfInBounds i { (default : Goroutine) with status := .finished }) i g' cs true sh w').1,
      MemOp.ofEvents i g.frame.fn g.frame.place es ++ (communicate P (rst sl) (gs.setIfInBounds i { (default : Goroutine) with status := .finished }) i g' cs true sh w').2) := by
  obtain ⟨hlt, rfl⟩ := Array.getElem?_eq_some_iff.1 hi
  have hsw := swapAt_of_lt hlt { (default : Goroutine) with status := .finished }
  have hset : gs.set i { (default : Goroutine) with status := .finished } = gs.setIfInBounds i { (default : Goroutine) with status := .finished } := by simp [Array.setIfInBounds, hlt]
  show runT P { world := w, gs := gs, rest := rst sl } i = _
  unfold runT
  simp only [hsw, h, GStep.es, hset]
end
end Go.Proofs.Ytofoplpnpfaofaa
