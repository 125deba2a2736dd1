/- What is proved here: laws on traces for goroutines of which each touches what it allotted itself, reads what was there before, and hands what it did on by closing a channel or by a send. No condition. -/
import Derived.Test.YtofoplpnpfaofaaBeside
set_option linter.unusedSimpArgs false
set_option linter.unusedVariables false
namespace Go.Proofs.Ytofoplpnpfaofaa
open Go Go.Conc

/-- A touch that goroutine g may make in the phase: it reads what was there (blocks below B0; a channel's record), or it touches what is its own. -/
def okTouch (B0 : Nat) (own : Nat → Nat) (g : Nat) (a : Touch) : Prop :=
  (a.write = false ∧ ((∃ x, a.loc = .cell x ∧ x.block < B0) ∨ ∃ r, a.loc = .obj r)) ∨ (∃ x, a.loc = .cell x ∧ B0 ≤ x.block ∧ own x.block = g)

def inPhase (b0 m g : Nat) : Prop := g = 0 ∨ (b0 ≤ g ∧ g < m)

/-- The trace in the phase that began at place T0, with heap size B0; m goroutines; B the heap's size. -/
structure PT (T0 B0 b0 : Nat) (own : Nat → Nat) (m B : Nat) (t : Trace) : Prop where
  clean : ∀ said, ¬ Race said t
  wordless : Wordless t
  low : ∀ op ∈ t, op.act.low B
  start : T0 ≤ t.size
  old : ∀ g, inPhase b0 m g → ∀ i a, i < T0 → touchAt t i = some a → a.loc.isMemory = true → Knows t g i
  new : ∀ i op a, T0 ≤ i → t[i]? = some op → op.act.touch? = some a → a.loc.isMemory = true → okTouch B0 own op.g a ∧ inPhase b0 m op.g

/-- g knows all that h touched. -/
def KBy (t : Trace) (g h : Nat) : Prop := ∀ i op a, t[i]? = some op → op.g = h → op.act.touch? = some a → a.loc.isMemory = true → Knows t g i

/-- All that h touched lies ahead of the place at which it closed channel c. -/
def ShutBy (t : Trace) (c h : Nat) : Prop := ∃ p, t.act? p = some (.close c) ∧ ∀ i op a, t[i]? = some op → op.g = h → op.act.touch? = some a → a.loc.isMemory = true → Before t i p

section
variable {T0 B0 b0 m B : Nat} {own : Nat → Nat} {t u : Trace}

theorem kby_self (t : Trace) (g : Nat) : KBy t g g := fun i op a hi hg _ _ => by have := knows_own hi; rw [hg] at this; exact this

theorem KBy.app {g h : Nat} (hk : KBy t g h) (hu : ∀ op ∈ u, op.g = h → op.act.touch? = none) : KBy (t ++ u) g h := by
  intro i op a hi hg ha hm
  rcases getElem?_append_cases hi with ⟨_, hi'⟩ | ⟨_, hiu⟩
  · exact (hk i op a hi' hg ha hm).app u
  · rw [hu op hiu hg] at ha; cases ha

theorem ShutBy.app {c h : Nat} (hk : ShutBy t c h) (hu : ∀ op ∈ u, op.g = h → op.act.touch? = none) : ShutBy (t ++ u) c h := by
  obtain ⟨p, hp, hk⟩ := hk
  refine ⟨p, by rw [act?_old (lt_of_act? hp)]; exact hp, fun i op a hi hg ha hm => ?_⟩
  rcases getElem?_append_cases hi with ⟨_, hi'⟩ | ⟨_, hiu⟩
  · exact (hk i op a hi' hg ha hm).app u
  · rw [hu op hiu hg] at ha; cases ha

/-- The phase begins: goroutine 0 knows all. -/
theorem pt_start (b0 : Nat) (own : Nat → Nat) {B0 B : Nat} (h : Past0 B t) (hm : m ≤ b0) : PT t.size B0 b0 own m B t := by
  refine ⟨h.clean, h.wordless, h.low, Nat.le_refl _, fun g hg i a hi ha hm' => ?_, fun i op a hi hop => ?_⟩
  · rcases hg with rfl | ⟨h1, h2⟩
    · exact h.known i a ha hm'
    · omega
  · have := lt_size_of_getElem? hop; omega

theorem PT.own_app {B' : Nat} {own' : Nat → Nat} {g : Nat} (h : PT T0 B0 b0 own m B t) (hB : B ≤ B') (hown : ∀ b, b < B → own' b = own b) (hg : inPhase b0 m g) (hu : ∀ op ∈ u, op.g = g) (hw : Wordless u) (hl : ∀ op ∈ u, op.act.low B')
    (ho : ∀ op ∈ u, ∀ a, op.act.touch? = some a → a.loc.isMemory = true → okTouch B0 own' g a) : PT T0 B0 b0 own' m B' (t ++ u) := by
  have hlow : ∀ (i : Nat) (op : MemOp) (a : Touch) (x : Addr), t[i]? = some op → op.act.touch? = some a → a.loc = .cell x → x.block < B := by
    intro i op a x hi ha hx
    have := h.low op (mem_of_getElem? hi)
    obtain ⟨og, ofn, opos, oact⟩ := op
    cases oact with
    | access e =>
      simp only [MemAct.touch?, Option.some.injEq] at ha
      subst ha
      simp only at hx
      simp only [MemAct.low, hx, Loc.low] at this
      exact this
    | mark mk => cases mk <;> simp [MemAct.touch?] at ha <;> (subst ha; simp only [Loc.cell.injEq] at hx; subst hx; exact this)
    | _ => simp [MemAct.touch?] at ha
  have hnew : ∀ (i : Nat) (op : MemOp) (a : Touch), T0 ≤ i → t[i]? = some op → op.act.touch? = some a → a.loc.isMemory = true → okTouch B0 own' op.g a ∧ inPhase b0 m op.g := by
    intro i op a hi hop ha hm'
    obtain ⟨h1, h2⟩ := h.new i op a hi hop ha hm'
    refine ⟨?_, h2⟩
    rcases h1 with h1 | ⟨x, hx, hx2, hx3⟩
    · exact .inl h1
    · exact .inr ⟨x, hx, hx2, by rw [hown _ (hlow i op a x hop ha hx)]; exact hx3⟩
  refine ⟨fun said => noRace_append (h.clean said) hu fun i a ha op hop b hb hc => ?_, h.wordless.append hw, seen_app (fun op hop => MemAct.low_mono hB (h.low op hop)) hl, by simp; have := h.start; omega, fun g' hg' i a hi ha hm' => ?_, fun i op a hi hop ha hm' => ?_⟩
  · -- no race
    rcases Nat.lt_or_ge i T0 with hlt | hge
    · exact h.old g hg i a hlt ha hc.2.1
    · obtain ⟨x, hx, hxa⟩ := touch_of ha
      have h1 := (hnew i x a hge hx hxa hc.2.1).1
      have hmb : b.loc.isMemory = true := by rw [← hc.1]; exact hc.2.1
      have h2 := ho op hop b hb hmb
      obtain ⟨hloc, _, hwr, _⟩ := hc
      rcases h2 with ⟨hbw, hbl⟩ | ⟨y, hy, hy2, hy3⟩
      · rcases h1 with ⟨haw, _⟩ | ⟨z, hz, hz2, hz3⟩
        · exfalso
          rcases hwr with e | e
          · rw [haw] at e; cases e
          · rw [hbw] at e; cases e
        · exfalso
          rcases hbl with ⟨y, hy, hy2⟩ | ⟨r, hr⟩
          · rw [← hloc, hz] at hy; cases hy; omega
          · rw [← hloc, hz] at hr; cases hr
      · rcases h1 with ⟨haw, hal⟩ | ⟨z, hz, hz2, hz3⟩
        · exfalso
          rcases hal with ⟨z, hz, hz2⟩ | ⟨r, hr⟩
          · rw [hloc, hy] at hz; cases hz; omega
          · rw [hloc, hy] at hr; cases hr
        · rw [hloc, hy] at hz
          cases hz
          have hgx : x.g = g := hz3.symm.trans hy3
          have := knows_own hx
          rw [hgx] at this
          exact this
  · have hlt := Nat.lt_of_lt_of_le hi h.start
    rw [touchAt_old hlt] at ha
    exact (h.old g' hg' i a hi ha hm').app u
  · rcases getElem?_append_cases hop with ⟨_, hop'⟩ | ⟨_, hou⟩
    · exact hnew i op a hi hop' ha hm'
    · have := hu op hou
      rw [this]
      exact ⟨ho op hou a ha hm', hg⟩

/-- Operations that touch nothing, whosever. -/
theorem PT.mute {B' : Nat} (h : PT T0 B0 b0 own m B t) (hB : B ≤ B') (hu : ∀ op ∈ u, op.act.touch? = none) (hw : Wordless u) (hl : ∀ op ∈ u, op.act.low B') : PT T0 B0 b0 own m B' (t ++ u) := by
  refine ⟨fun said => ?_, h.wordless.append hw, seen_app (fun op hop => MemAct.low_mono hB (h.low op hop)) hl, by simp; have := h.start; omega, fun g' hg' i a hi ha hm' => ?_, fun i op a hi hop ha hm' => ?_⟩
  · rintro ⟨i, j, hij, ⟨a, b, ha, hb, hc⟩, n1, n2⟩
    obtain ⟨x, hx, hxa⟩ := touch_of ha
    obtain ⟨y, hy, hyb⟩ := touch_of hb
    rcases getElem?_append_cases hx with ⟨_, hx'⟩ | ⟨_, hxu⟩
    · rcases getElem?_append_cases hy with ⟨_, hy'⟩ | ⟨_, hyu⟩
      · exact h.clean said ⟨i, j, hij, ⟨a, b, by simp [Trace.act?, hx', hxa], by simp [Trace.act?, hy', hyb], hc⟩, fun e => n1 (hb_app u e), fun e => n2 (hb_app u e)⟩
      · rw [hu y hyu] at hyb; cases hyb
    · rw [hu x hxu] at hxa; cases hxa
  · have hlt := Nat.lt_of_lt_of_le hi h.start
    rw [touchAt_old hlt] at ha
    exact (h.old g' hg' i a hi ha hm').app u
  · rcases getElem?_append_cases hop with ⟨_, hop'⟩ | ⟨_, hou⟩
    · exact h.new i op a hi hop' ha hm'
    · rw [hu op hou] at ha; cases ha

/-- A go statement of goroutine 0: the child knows what goroutine 0 knew. -/
theorem PT.spawn {fn fn' : FuncId} {pos pos' : String} (h : PT T0 B0 b0 own m B t) (hm : b0 ≤ m) : PT T0 B0 b0 own (m + 1) B (t ++ #[{ g := 0, fn, pos, act := .go m }, { g := m, fn := fn', pos := pos', act := .start }]) := by
  have h1 := h.mute (B' := B) (u := #[{ g := 0, fn, pos, act := .go m }, { g := m, fn := fn', pos := pos', act := .start }]) (Nat.le_refl _) (by simp [MemAct.touch?]) (by intro op hop k hk; simp at hop; rcases hop with rfl | rfl <;> cases hk) (by simp [MemAct.low])
  refine ⟨h1.clean, h1.wordless, h1.low, h1.start, fun g hg i a hi ha hm' => ?_, fun i op a hi hop ha hm' => ?_⟩
  · by_cases hgm : g = m
    · subst hgm
      have hlt := Nat.lt_of_lt_of_le hi h.start
      have ha' := ha
      rw [touchAt_old hlt] at ha'
      have hk := h.old 0 (.inl rfl) i a hi ha' hm'
      have e0 : (t ++ #[({ g := 0, fn, pos, act := .go g } : MemOp), { g := g, fn := fn', pos := pos', act := .start }])[t.size]? = some { g := 0, fn, pos, act := .go g } := by
        rw [Array.getElem?_append_right (Nat.le_refl _)]; simp
      have e1 : (t ++ #[({ g := 0, fn, pos, act := .go g } : MemOp), { g := g, fn := fn', pos := pos', act := .start }])[t.size + 1]? = some { g := g, fn := fn', pos := pos', act := .start } := by
        rw [Array.getElem?_append_right (by omega)]; simp
      have hb := hk.hb_new (u := #[({ g := 0, fn, pos, act := .go g } : MemOp), { g := g, fn := fn', pos := pos', act := .start }]) (Nat.le_refl _) e0 rfl
      have hn : HappensBefore (t ++ #[({ g := 0, fn, pos, act := .go g } : MemOp), { g := g, fn := fn', pos := pos', act := .start }]) t.size (t.size + 1) :=
        .single (.inr ⟨.spawn (child := g) (by rw [act?_of e0]) (by rw [act?_of e1]) (by simp [Trace.g?, e1]), h1.wordless.heard e0, h1.wordless.heard e1⟩)
      exact ⟨t.size + 1, _, e1, rfl, .inr (hb.trans hn)⟩
    · refine h1.old g ?_ i a hi ha hm'
      rcases hg with rfl | ⟨x, y⟩
      · exact .inl rfl
      · exact .inr ⟨x, by omega⟩
  · obtain ⟨x, y⟩ := h1.new i op a hi hop ha hm'
    exact ⟨x, y.imp id fun ⟨p, q⟩ => ⟨p, by omega⟩⟩

/-- h closes c: at a place behind all that it touched. -/
theorem shutBy_new {c h : Nat} {u : Trace} {j : Nat} {op : MemOp} (hj : (t ++ u)[j]? = some op) (hg : op.g = h) (hact : op.act = .close c) (hlast : ∀ i x a, (t ++ u)[i]? = some x → x.g = h → x.act.touch? = some a → i < j) : ShutBy (t ++ u) c h := by
  refine ⟨j, by rw [act?_of hj, hact], fun i x a hi hx ha _ => .inr (hb_po (hlast i x a hi hx ha) hi hj (hx.trans hg.symm))⟩

/-- Whoever finds c closed knows what its closer touched. -/
theorem ShutBy.recv {c h g : Nat} {fn : FuncId} {pos : String} (hs : ShutBy t c h) (hw : Wordless t) : KBy (t ++ #[{ g, fn, pos, act := .recvClosed c }]) g h := by
  obtain ⟨p, hp, hk⟩ := hs
  have hplt := lt_of_act? hp
  have e1 : (t ++ #[({ g, fn, pos, act := .recvClosed c } : MemOp)])[t.size]? = some { g, fn, pos, act := .recvClosed c } := by
    rw [Array.getElem?_append_right (Nat.le_refl _)]; simp
  have hw' : Wordless (t ++ #[({ g, fn, pos, act := .recvClosed c } : MemOp)]) := hw.append (by intro op hop k hk; simp at hop; subst hop; cases hk)
  obtain ⟨x, hx, hxa⟩ := Option.map_eq_some_iff.1 hp
  have hx' : (t ++ #[({ g, fn, pos, act := .recvClosed c } : MemOp)])[p]? = some x := by rw [getElem?_append_old hplt]; exact hx
  have hn : HappensBefore (t ++ #[({ g, fn, pos, act := .recvClosed c } : MemOp)]) p t.size :=
    .single (.inr ⟨.closed (c := c) (by rw [act?_of hx', hxa]) (by rw [act?_of e1]), hw'.heard hx', hw'.heard e1⟩)
  intro i op a hi hg ha hm
  rcases getElem?_append_cases hi with ⟨_, hi'⟩ | ⟨_, hiu⟩
  · exact ⟨t.size, _, e1, rfl, .inr (((hk i op a hi' hg ha hm).app _).hb hn)⟩
  · simp at hiu; subst hiu; cases ha

/-- h hands on to g by a send and a receive of one number: g knows what h knew. -/
theorem KBy.handed {c k h h' g : Nat} {u : Trace} {i j : Nat} {x y : MemOp} (hk : KBy t h h') (hw : Wordless (t ++ u)) (hi : (t ++ u)[i]? = some x) (hj : (t ++ u)[j]? = some y) (hti : t.size ≤ i) (hx : x.g = h) (hxa : x.act = .send c k) (hy : y.g = g) (hya : y.act = .recvDone c k)
    (hu : ∀ op ∈ u, op.act.touch? = none) : KBy (t ++ u) g h' := by
  have hn : HappensBefore (t ++ u) i j := .single (.inr ⟨.handOver (c := c) (k := k) (by rw [act?_of hi, hxa]) (by rw [act?_of hj, hya]), hw.heard hi, hw.heard hj⟩)
  intro l op a hl hg ha hm
  rcases getElem?_append_cases hl with ⟨_, hl'⟩ | ⟨_, hlu⟩
  · have := (hk l op a hl' hg ha hm).hb_new hti hi hx
    exact ⟨j, y, hj, hy, .inr (this.trans hn)⟩
  · rw [hu op hlu] at ha; cases ha

/-- The phase ends: goroutine 0 knows what everybody touched. -/
theorem PT.past (h : PT T0 B0 b0 own m B t) (hk : ∀ g, b0 ≤ g → g < m → KBy t 0 g) : Past0 B t := by
  refine ⟨h.clean, fun i a ha hm => ?_, h.wordless, h.low⟩
  obtain ⟨x, hx, hxa⟩ := touch_of ha
  rcases Nat.lt_or_ge i T0 with hlt | hge
  · exact h.old 0 (.inl rfl) i a hlt ha hm
  · obtain ⟨_, h2⟩ := h.new i x a hge hx hxa hm
    rcases h2 with h2 | ⟨h2, h3⟩
    · have := knows_own hx; rw [h2] at this; exact this
    · exact hk x.g h2 h3 i x a hx rfl hxa hm
end
end Go.Proofs.Ytofoplpnpfaofaa
