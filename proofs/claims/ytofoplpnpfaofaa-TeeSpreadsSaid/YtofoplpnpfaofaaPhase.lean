/- What is proved here: one goroutine that starts n listeners and n senders, each pair over a channel of its own, and takes n answers: on whatever tape it comes to its end, with no data race, every listener having got all in order. Conditions: each goroutine's own walk follows its script. -/
import Derived.Test.YtofoplpnpfaofaaScript
set_option linter.unusedSimpArgs false
set_option linter.unusedVariables false
namespace Go.Proofs.Ytofoplpnpfaofaa
open Go Go.Conc
open Go.ConcN (sumTo upd sumTo_upd upd_ne upd_same)

/-- Where a goroutine stands. -/
inductive GS where
  | quit (q : Nat)
  | unborn
  | sRun (c s m : Nat) (H : Hp)
  | sPark (c s : Nat) (H : Hp)
  | sDone (c q : Nat)
  | lRun (c k r m : Nat) (H : Hp)
  | lPark (c k r : Nat) (H : Hp)
  | lTell (c k m : Nat) (H : Hp)
  | lPTell (c k : Nat) (sl : Value) (H : Hp)
  | lDone (c k : Nat) (sl : Value) (H : Hp) (q : Nat)
  | mSpawn (p m : Nat) (H : Hp)
  | mMade (p c m : Nat) (H : Hp)
  | mGone (p c m : Nat) (H : Hp)
  | mRecv (rem m : Nat) (f : Nat → Option Value) (H : Hp)
  | mPark (rem : Nat) (f : Nat → Option Value) (H : Hp)

def GS.hp : GS → Hp
  | .sRun _ _ _ H | .sPark _ _ H | .lRun _ _ _ _ H | .lPark _ _ _ H | .lTell _ _ _ H | .lPTell _ _ _ H | .lDone _ _ _ H _ | .mSpawn _ _ H | .mMade _ _ _ H | .mGone _ _ _ H | .mRecv _ _ _ H | .mPark _ _ H => H
  | _ => []

def GI (X : Cx) : GS → Goroutine → Prop
  | .quit q, g => QuitsIn X.P q g
  | .unborn, _ => False
  | .sRun c s m H, g => SRun X c (X.vs.drop s) m H g
  | .sPark c s H, g => ∃ g₂ v z1 z2, g = parked g₂ #[scase c v z1, rcase X.sb z2] .select ∧ X.vs[s]? = some v ∧ SendsH X c (X.vs.drop (s + 1)) H (Conc.served g₂ (.tuple #[goInt 0, .bool false, z2]))
  | .sDone _ q, g => QuitsIn X.P q g
  | .lRun c k r m H, g => LRun X c k (X.vs.drop r) m H g
  | .lPark c k r H, g => ∃ g₂ z1, g = parked g₂ #[rcase c z1] (.recv true) ∧ core g₂ = g₂ ∧ (∀ w, stepG X.P false g₂ w = .comm g₂ #[rcase c z1] true (.recv true) w #[]) ∧ LNext X c k (X.vs.drop r) z1 H g₂
  | .lTell _ k m H, g => GH X false (ATell X k) m H g
  | .lPTell _ k sl H, g => ∃ g₂ z1, g = parked g₂ #[scase X.tb (X.hv k sl) z1] .send ∧ X.ok k sl H ∧ ∃ m, QuitsIn X.P m (Conc.served g₂ undef)
  | .lDone _ k sl H q, g => QuitsIn X.P q g ∧ X.ok k sl H
  | .mSpawn p m H, g => p < X.n ∧ GH X true (AMake X fun c H g => ∃ m, GH X true (AGo X (X.lisF p c) fun H g => ∃ m, GH X true (AGo X (X.sndF c) (MSpawn X (p + 1) (X.n - (p + 1)))) m H g) m H g) m H g
  | .mMade p c m H, g => p < X.n ∧ GH X true (AGo X (X.lisF p c) fun H g => ∃ m, GH X true (AGo X (X.sndF c) (MSpawn X (p + 1) (X.n - (p + 1)))) m H g) m H g
  | .mGone p c m H, g => p < X.n ∧ GH X true (AGo X (X.sndF c) (MSpawn X (p + 1) (X.n - (p + 1)))) m H g
  | .mRecv rem m f H, g => MRecvRun X rem f m H g
  | .mPark rem f H, g => ∃ g₂ z1 rem', rem = rem' + 1 ∧ g = parked g₂ #[rcase X.tb z1] (.recv false) ∧ ∀ k sl Hl, k < X.n → f k = none → X.ok k sl Hl → MRecv X rem' (setF f k sl) H (Conc.served g₂ (X.hv k sl))

/-- Communications that are to come. -/
def GS.al (X : Cx) : GS → Nat
  | .sRun _ s _ _ | .sPark _ s _ => X.vs.length - s + 1
  | .lRun _ _ r _ _ | .lPark _ _ r _ => X.vs.length - r + 2
  | .lTell _ _ _ _ | .lPTell _ _ _ _ => 1
  | .mSpawn p _ _ => (X.n - p) * (2 * X.vs.length + 10) + X.n + 1
  | .mMade p _ _ _ => (X.n - (p + 1)) * (2 * X.vs.length + 10) + (2 * X.vs.length + 8) + X.n + 1
  | .mGone p _ _ _ => (X.n - (p + 1)) * (2 * X.vs.length + 10) + (X.vs.length + 4) + X.n + 1
  | .mRecv rem _ _ _ | .mPark rem _ _ => rem + 1
  | _ => 0

/-- Own steps that are to come till then. -/
def GS.be : GS → Nat
  | .quit q | .sDone _ q | .lDone _ _ _ _ q => q
  | .sRun _ _ m _ | .lRun _ _ _ m _ | .lTell _ _ m _ | .mSpawn _ m _ | .mMade _ _ m _ | .mGone _ _ m _ | .mRecv _ m _ _ => m + 1
  | _ => 0

/-- A pair's two ends fit its channel: s sent, r received. -/
structure PairR (X : Cx) (w : World) (c k : Nat) (l sd : GS) where
  s : Nat
  r : Nat
  buf : Array Value
  cl : Bool
  chan : w.heap[c]? = some (.chan X.room buf cl s r false)
  le : r ≤ s ∧ s ≤ X.vs.length
  buff : buf.toList = (X.vs.drop r).take (s - r)
  room : buf.size ≤ X.room
  snd : match sd with
    | .unborn => s = 0 ∧ cl = false
    | .sRun c' s' _ _ => c' = c ∧ s' = s ∧ cl = false
    | .sPark c' s' _ => c' = c ∧ s' = s ∧ cl = false ∧ buf.size = X.room ∧ s < X.vs.length
    | .sDone c' _ => c' = c ∧ s = X.vs.length ∧ cl = true
    | _ => False
  lis : match l with
    | .lRun c' k' r' _ _ => c' = c ∧ k' = k ∧ r' = r
    | .lPark c' k' r' _ => c' = c ∧ k' = k ∧ r' = r ∧ buf = #[] ∧ cl = false ∧ (∀ a b d, sd ≠ .sPark a b d)
    | .lTell c' k' _ _ => c' = c ∧ k' = k ∧ r = X.vs.length ∧ cl = true
    | .lPTell c' k' _ _ => c' = c ∧ k' = k ∧ r = X.vs.length ∧ cl = true
    | .lDone c' k' _ _ _ => c' = c ∧ k' = k ∧ r = X.vs.length ∧ cl = true
    | _ => False

def GS.isL : GS → Bool
  | .lRun .. | .lPark .. | .lTell .. | .lPTell .. | .lDone .. => true
  | _ => false
def GS.isS : GS → Bool
  | .unborn | .sRun .. | .sPark .. | .sDone .. => true
  | _ => false
def GS.shut : GS → Bool
  | .lTell .. | .lPTell .. | .lDone .. => true
  | _ => false

abbrev lisI (X : Cx) (i : Nat) : Nat := X.b0 + 2 * i
abbrev sndI (X : Cx) (i : Nat) : Nat := X.b0 + 2 * i + 1

/-- How many are told. -/
def cntN (f : Nat → Option Value) (n : Nat) : Nat := sumTo n fun k => if (f k).isNone then 1 else 0

/-- Nobody has told yet. -/
def NoD (σ : Nat → GS) : Prop := ∀ x c k sl H q, σ x ≠ .lDone c k sl H q

def MainR (X : Cx) (σ : Nat → GS) (C : Nat → Nat) (sz : Nat) (w : World) : Prop :=
  match σ 0 with
  | .mSpawn p _ _ => sz = X.b0 + 2 * p ∧ NoD σ
  | .mMade p c _ _ => sz = X.b0 + 2 * p ∧ C p = c ∧ w.heap[c]? = some (.chan X.room #[] false 0 0 false) ∧ NoD σ
  | .mGone p c _ _ => sz = X.b0 + 2 * p + 1 ∧ C p = c ∧ NoD σ
  | .mRecv rem _ f _ => sz = X.b0 + 2 * X.n ∧ rem = cntN f X.n ∧ ∀ k, k < X.n → match f k with | none => (∀ c k' sl H q, σ (lisI X k) ≠ .lDone c k' sl H q) | some sl => ∃ c H q, σ (lisI X k) = .lDone c k sl H q
  | .mPark rem f _ => sz = X.b0 + 2 * X.n ∧ rem = cntN f X.n ∧ (∀ k, k < X.n → match f k with | none => (∀ c k' sl H q, σ (lisI X k) ≠ .lDone c k' sl H q) | some sl => ∃ c H q, σ (lisI X k) = .lDone c k sl H q) ∧ ∀ i c k sl H, σ i ≠ .lPTell c k sl H
  | _ => False

/-- Which channels are there. -/
def hasC (X : Cx) (σ : Nat → GS) (sz i : Nat) : Prop := lisI X i < sz ∨ ∃ p c m H, σ 0 = .mMade p c m H ∧ i = p

structure PInv (X : Cx) (σ : Nat → GS) (C : Nat → Nat) (own : Nat → Nat) (j : Nat) (gs : Array Goroutine) (w : World) (t : Trace) : Prop where
  base : Bs X w
  b0 : 0 < X.b0 ∧ X.b0 ≤ gs.size
  loc : ∀ h g, gs[h]? = some g → GI X (σ h) g
  main : MainR X σ C gs.size w
  old : ∀ h, 0 < h → h < X.b0 → ∃ q, σ h = .quit q
  pairs : ∀ i, lisI X i < gs.size → Nonempty (PairR X w (C i) i (σ (lisI X i)) (σ (sndI X i)))
  unb : ∀ h, gs.size ≤ h → σ h = .unborn
  cown : ∀ i, hasC X σ gs.size i → X.B0 ≤ C i ∧ own (C i) = X.b0 + 2 * X.n + 5 ∧ C i < w.heap.size
  cinj : ∀ i i', hasC X σ gs.size i → hasC X σ gs.size i' → C i = C i' → i = i'
  tb : w.heap[X.tb]? = some (.chan 0 #[] false j j false)
  sb : ∃ cap x y tm, w.heap[X.sb]? = some (.chan cap #[] false x y tm)
  tsb : X.tb < X.B0 ∧ X.sb < X.B0 ∧ X.tb ≠ X.sb
  heaps : ∀ h, h < gs.size → ∀ p ∈ (σ h).hp, w.heap[p.1]? = some p.2 ∧ X.B0 ≤ p.1 ∧ own p.1 = h
  pt : PT X.T0 X.B0 X.b0 own gs.size w.heap.size t
  shut : ∀ i, sndI X i < gs.size → (∃ c q, σ (sndI X i) = .sDone c q) → ShutBy t (C i) (sndI X i)
  kl : ∀ i, lisI X i < gs.size → (σ (lisI X i)).shut = true → KBy t (lisI X i) (sndI X i)
  km : ∀ i, lisI X i < gs.size → (∃ c k sl H q, σ (lisI X i) = .lDone c k sl H q) → KBy t 0 (lisI X i) ∧ KBy t 0 (sndI X i)
end Go.Proofs.Ytofoplpnpfaofaa
