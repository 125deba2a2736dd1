/- What is proved here: nothing yet: the words in which a goroutine's own walk is told between its communications (a listener, a sender, the one that starts them). -/
import Derived.Test.YtofoplpnpfaofaaComm
import Derived.Conc.Own2
set_option linter.unusedSimpArgs false
set_option linter.unusedVariables false
namespace Go.Proofs.Ytofoplpnpfaofaa
open Go Go.Conc

/-- A goroutine's own blocks, and what they hold. -/
abbrev Hp := List (Nat × Obj)
def Has (H : Hp) (w : World) : Prop := ∀ p ∈ H, w.heap[p.1]? = some p.2
def keyOfHp (H : Hp) (b : Nat) : Prop := ∃ p ∈ H, p.1 = b

/-- What stands fast in a phase. -/
structure Cx where
  P : Program
  b0 : Nat
  B0 : Nat
  T0 : Nat
  w0 : World
  sb : Nat
  tb : Nat
  room : Nat
  n : Nat
  vs : List Value
  hv : Nat → Value → Value
  ok : Nat → Value → Hp → Prop
  lisF : Nat → Nat → Deferred
  sndF : Nat → Deferred
  Fin : (Nat → Option Value) → Hp → Goroutine → Prop

/-- The blocks that were there, but for the two channels. -/
structure Bs (X : Cx) (w : World) : Prop where
  size : X.B0 ≤ w.heap.size
  tape : w.tape = X.w0.tape
  os : w.os = X.w0.os
  output : w.output = X.w0.output
  old : ∀ b, b < X.B0 → b ≠ X.sb → b ≠ X.tb → w.heap[b]? = X.w0.heap[b]?

/-- What an own step does. -/
structure Eff (X : Cx) (H H' : Hp) (w w' : World) (es : Array Event) : Prop where
  tape : w'.tape = w.tape
  os : w'.os = w.os
  output : w'.output = w.output
  size : w.heap.size ≤ w'.heap.size
  keep : ∀ b, b < w.heap.size → ¬ keyOfHp H b → w'.heap[b]? = w.heap[b]?
  has : Has H' w'
  keys : ∀ b, keyOfHp H' b → keyOfHp H b ∨ (w.heap.size ≤ b ∧ b < w'.heap.size)
  evs : ∀ e ∈ es, evOk w'.heap.size e ∧ ∀ a, (MemAct.ofEvent e).touch? = some a → (a.write = false ∧ ∃ x, a.loc = .cell x ∧ x.block < X.B0) ∨ ∃ x, a.loc = .cell x ∧ (keyOfHp H x.block ∨ w.heap.size ≤ x.block)

def GH (X : Cx) (main : Bool) (Stop : Hp → Goroutine → Prop) : Nat → Hp → Goroutine → Prop
  | 0, H, g => Stop H g
  | n + 1, H, g => Stop H g ∨ (g.status = .running ∧ ∀ w, Bs X w → Has H w → ∃ g' H' w' es, stepG X.P main g w = .go g' w' es ∧ Eff X H H' w w' es ∧ GH X main Stop n H' g')

def ASel (X : Cx) (c : Nat) (v : Value) (Next : Hp → Goroutine → Prop) (H : Hp) (g : Goroutine) : Prop :=
  g.status = .running ∧ ∃ z1 z2, (∀ w, stepG X.P false g w = .comm (core g) #[scase c v z1, rcase X.sb z2] true .select w #[]) ∧ Next H (Conc.served (core g) (.tuple #[goInt 0, .bool false, z2]))

def AClose (X : Cx) (c : Nat) (H : Hp) (g : Goroutine) : Prop :=
  g.status = .running ∧ mayWake X.P g = true ∧ ∃ g₂ m, (∀ w cap buf s r tm, w.heap[c]? = some (.chan cap buf false s r tm) →
    stepG X.P false g w = .go g₂ (w.setChan c cap buf true s r tm) #[⟨.obj c, false, true⟩, ⟨.obj c, true, true⟩]) ∧ QuitsIn X.P m g₂

def SStop (X : Cx) (c : Nat) (Nx : List Value → Hp → Goroutine → Prop) : List Value → Hp → Goroutine → Prop
  | [] => AClose X c
  | v :: vs => ASel X c v (Nx vs)

def SendsH (X : Cx) (c : Nat) : List Value → Hp → Goroutine → Prop
  | [], H, g => ∃ m, GH X false (AClose X c) m H g
  | v :: vs, H, g => ∃ m, GH X false (ASel X c v (SendsH X c vs)) m H g

def SRun (X : Cx) (c : Nat) : List Value → Nat → Hp → Goroutine → Prop
  | [], m, H, g => GH X false (AClose X c) m H g
  | v :: vs, m, H, g => GH X false (ASel X c v (SendsH X c vs)) m H g

theorem sendsH_iff (X : Cx) (c : Nat) (vs : List Value) (H : Hp) (g : Goroutine) : SendsH X c vs H g ↔ ∃ m, SRun X c vs m H g := by
  cases vs <;> exact Iff.rfl

def ATell (X : Cx) (k : Nat) (H : Hp) (g : Goroutine) : Prop :=
  g.status = .running ∧ ∃ sl z1, X.ok k sl H ∧ (∀ w, stepG X.P false g w = .comm (core g) #[scase X.tb (X.hv k sl) z1] true .send w #[]) ∧ ∃ m, QuitsIn X.P m (Conc.served (core g) undef)

def ARecv (X : Cx) (c : Nat) (Next : Value → Hp → Goroutine → Prop) (H : Hp) (g : Goroutine) : Prop :=
  g.status = .running ∧ ∃ z1, (∀ w, stepG X.P false g w = .comm (core g) #[rcase c z1] true (.recv true) w #[]) ∧ Next z1 H (core g)

def ListH (X : Cx) (c k : Nat) : List Value → Hp → Goroutine → Prop
  | [], H, g => ∃ m, GH X false (ARecv X c fun z1 H g => ∃ m2, GH X false (ATell X k) m2 H (Conc.served g (.tuple #[z1, .bool false]))) m H g
  | v :: vs, H, g => ∃ m, GH X false (ARecv X c fun _ H g => ListH X c k vs H (Conc.served g (.tuple #[v, .bool true]))) m H g

def LNext (X : Cx) (c k : Nat) : List Value → Value → Hp → Goroutine → Prop
  | [], z1, H, g => ∃ m2, GH X false (ATell X k) m2 H (Conc.served g (.tuple #[z1, .bool false]))
  | v :: vs, _, H, g => ListH X c k vs H (Conc.served g (.tuple #[v, .bool true]))

def LRun (X : Cx) (c k : Nat) (vs : List Value) (m : Nat) (H : Hp) (g : Goroutine) : Prop := GH X false (ARecv X c (LNext X c k vs)) m H g

theorem listH_iff (X : Cx) (c k : Nat) (vs : List Value) (H : Hp) (g : Goroutine) : ListH X c k vs H g ↔ ∃ m, LRun X c k vs m H g := by
  cases vs <;> exact Iff.rfl

def AMake (X : Cx) (Next : Nat → Hp → Goroutine → Prop) (H : Hp) (g : Goroutine) : Prop :=
  g.status = .running ∧ ∃ g' : Nat → Goroutine, (∀ w, stepG X.P true g w = .go (g' w.heap.size) (w.alloc (.chan X.room #[] false 0 0 false)) #[]) ∧ ∀ c, X.B0 ≤ c → Next c H (g' c)

def AGo (X : Cx) (d : Deferred) (Next : Hp → Goroutine → Prop) (H : Hp) (g : Goroutine) : Prop :=
  g.status = .running ∧ ∃ g', (∀ w, stepG X.P true g w = .spawn g' (born X.P d) w #[]) ∧ Next H g'

def setF (f : Nat → Option Value) (k : Nat) (v : Value) : Nat → Option Value := fun i => if i = k then some v else f i

def ARecvT (X : Cx) (f : Nat → Option Value) (Next : (Nat → Option Value) → Hp → Goroutine → Prop) (H : Hp) (g : Goroutine) : Prop :=
  g.status = .running ∧ ∃ z1, (∀ w, stepG X.P true g w = .comm (core g) #[rcase X.tb z1] true (.recv false) w #[]) ∧
    ∀ k sl Hl, k < X.n → f k = none → X.ok k sl Hl → Next (setF f k sl) H (Conc.served (core g) (X.hv k sl))

def MRecv (X : Cx) : Nat → (Nat → Option Value) → Hp → Goroutine → Prop
  | 0, f, H, g => ∃ m, GH X true (X.Fin f) m H g
  | rem + 1, f, H, g => ∃ m, GH X true (ARecvT X f (MRecv X rem)) m H g

def MRecvRun (X : Cx) : Nat → (Nat → Option Value) → Nat → Hp → Goroutine → Prop
  | 0, f, m, H, g => GH X true (X.Fin f) m H g
  | rem + 1, f, m, H, g => GH X true (ARecvT X f (MRecv X rem)) m H g

theorem mrecv_iff (X : Cx) (rem : Nat) (f : Nat → Option Value) (H : Hp) (g : Goroutine) : MRecv X rem f H g ↔ ∃ m, MRecvRun X rem f m H g := by
  cases rem <;> exact Iff.rfl

/-- p pairs are there, rem are to come. -/
def MSpawn (X : Cx) : Nat → Nat → Hp → Goroutine → Prop
  | _, 0, H, g => MRecv X X.n (fun _ => none) H g
  | p, rem + 1, H, g => ∃ m, GH X true (AMake X fun c H g => ∃ m, GH X true (AGo X (X.lisF p c) fun H g => ∃ m, GH X true (AGo X (X.sndF c) (MSpawn X (p + 1) rem)) m H g) m H g) m H g

section
variable {X : Cx} {main : Bool} {Stop : Hp → Goroutine → Prop}

theorem GH.running (hs : ∀ H g, Stop H g → g.status = .running) {m : Nat} {H : Hp} {g : Goroutine} (h : GH X main Stop m H g) : g.status = .running := by
  cases m with
  | zero => exact hs _ _ h
  | succ m => rcases h with h | h; exact hs _ _ h; exact h.1

theorem GH.cases {m : Nat} {H : Hp} {g : Goroutine} (h : GH X main Stop m H g) : Stop H g ∨ ∃ m', m = m' + 1 ∧ g.status = .running ∧ ∀ w, Bs X w → Has H w → ∃ g' H' w' es, stepG X.P main g w = .go g' w' es ∧ Eff X H H' w w' es ∧ GH X main Stop m' H' g' := by
  cases m with
  | zero => exact .inl h
  | succ m => exact h.imp id fun h => ⟨m, rfl, h⟩

theorem GH.stop {m : Nat} {H : Hp} {g : Goroutine} (h : Stop H g) : GH X main Stop m H g := by
  cases m with
  | zero => exact h
  | succ m => exact .inl h

theorem GH.step {m : Nat} {H : Hp} {g : Goroutine} (hr : g.status = .running) (h : ∀ w, Bs X w → Has H w → ∃ g' H' w' es, stepG X.P main g w = .go g' w' es ∧ Eff X H H' w w' es ∧ GH X main Stop m H' g') : GH X main Stop (m + 1) H g := .inr ⟨hr, h⟩
end
end Go.Proofs.Ytofoplpnpfaofaa
