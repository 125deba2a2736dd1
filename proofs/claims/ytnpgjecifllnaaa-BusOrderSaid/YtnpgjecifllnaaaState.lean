/- What is proved here: words for the bus's state and how it lies in memory. Conditions: none. -/
import Derived.Test.YtnpgjecifllnaaaAnswers
import Derived.Maps.AppendAt
set_option linter.unusedSimpArgs false
set_option linter.unusedVariables false
namespace Go.Proofs.Ytnpgjecifllnaaa
open Go Go.Conc Go.RowKit

/-- Two lists of one length, alike place by place. -/
def All2 {α β : Type} (R : α → β → Prop) (l : List α) (m : List β) : Prop := l.length = m.length ∧ ∀ (i : Nat) x y, l[i]? = some x → m[i]? = some y → R x y
theorem All2.nil {α β : Type} {R : α → β → Prop} : All2 R [] [] := ⟨rfl, fun i x y h => by simp at h⟩
theorem All2.mono {α β : Type} {R S : α → β → Prop} {l : List α} {m : List β} (h : All2 R l m) (hRS : ∀ x y, R x y → S x y) : All2 S l m := ⟨h.1, fun i x y h1 h2 => hRS _ _ (h.2 i x y h1 h2)⟩
theorem All2.cons {α β : Type} {R : α → β → Prop} {l : List α} {m : List β} {x : α} {y : β} (hr : R x y) (h : All2 R l m) : All2 R (x :: l) (y :: m) := by
  refine ⟨by simp [h.1], fun i a b h1 h2 => ?_⟩
  cases i with
  | zero => simp at h1 h2; subst h1; subst h2; exact hr
  | succ i => exact h.2 i a b (by simpa using h1) (by simpa using h2)
theorem All2.uncons {α β : Type} {R : α → β → Prop} {l : List α} {m : List β} {y : β} (h : All2 R l (y :: m)) : ∃ x l', l = x :: l' ∧ R x y ∧ All2 R l' m := by
  cases l with
  | nil => have := h.1; simp at this
  | cons x l' =>
    refine ⟨x, l', rfl, h.2 0 x y rfl rfl, by have := h.1; simpa using this, fun i a b h1 h2 => h.2 (i + 1) a b (by simpa using h1) (by simpa using h2)⟩
theorem All2.nil_right {α β : Type} {R : α → β → Prop} {l : List α} (h : All2 R l ([] : List β)) : l = [] := List.eq_nil_of_length_eq_zero h.1
theorem All2.uncons_left {α β : Type} {R : α → β → Prop} {x : α} {l : List α} {m : List β} (h : All2 R (x :: l) m) : ∃ y m', m = y :: m' ∧ R x y ∧ All2 R l m' := by
  cases m with
  | nil => have := h.1; simp at this
  | cons y m' => exact ⟨y, m', rfl, h.2 0 x y rfl rfl, by have := h.1; simpa using this, fun i a b h1 h2 => h.2 (i + 1) a b (by simpa using h1) (by simpa using h2)⟩
theorem All2.snoc {α β : Type} {R : α → β → Prop} {l : List α} {m : List β} {x : α} {y : β} (h : All2 R l m) (hr : R x y) : All2 R (l ++ [x]) (m ++ [y]) := by
  refine ⟨by simp [h.1], fun i a b h1 h2 => ?_⟩
  rcases Nat.lt_or_ge i l.length with hi | hi
  · rw [List.getElem?_append_left hi] at h1
    rw [List.getElem?_append_left (by rw [← h.1]; exact hi)] at h2
    exact h.2 i a b h1 h2
  · rw [List.getElem?_append_right hi] at h1
    rw [List.getElem?_append_right (by rw [← h.1]; exact hi), ← h.1] at h2
    have : i - l.length = 0 := by
      have := (List.getElem?_eq_some_iff.1 h1).1
      simp at this
      omega
    rw [this] at h1 h2
    simp at h1 h2
    subst h1; subst h2
    exact hr

/-- Nothing but block B and these is another, and of B but these cells. -/
structure Upto (w w' : World) (B : Nat) (but : Nat → Prop) (cl : Nat → Prop) : Prop where
  old : Old w w' (fun b => b = B ∨ but b)
  cell : ∀ j, ¬ cl j → w'.cell? ⟨B, j, none⟩ = w.cell? ⟨B, j, none⟩
  there : ∀ o n, w.there B o n → w'.there B o n
  tag : ∀ t, Tag w B t → Tag w' B t
theorem Upto.of_old {w w' : World} {B : Nat} {but cl : Nat → Prop} (h : Old w w' but) (hB : B < w.heap.size) (hn : ¬ but B) : Upto w w' B but cl := by
  have hb := h.block B hB hn
  refine ⟨h.weak fun _ _ h => .inr h, fun j _ => h.cell hB hn, fun o n ht j hj => ?_, fun t ⟨c, e⟩ => ⟨c, hb.trans e⟩⟩
  rw [h.cell hB hn, World.frozen?_of_block hb]
  exact ht j hj
theorem Upto.of_upon {w w' : World} {B lo hi : Nat} {but cl : Nat → Prop} (h : Upon w w' B lo hi) (hc : ∀ j, lo ≤ j → j < hi → cl j) : Upto w w' B but cl :=
  ⟨h.old.weak fun _ _ h => .inl h, fun j hj => h.cell j (by
    rcases Nat.lt_or_ge j lo with h1 | h1
    · exact .inl h1
    · rcases Nat.lt_or_ge j hi with h2 | h2
      · exact absurd (hc j h1 h2) hj
      · exact .inr h2), h.there, h.tag⟩
theorem Upto.trans {w w1 w2 : World} {B : Nat} {but cl : Nat → Prop} (h1 : Upto w w1 B but cl) (h2 : Upto w1 w2 B but cl) : Upto w w2 B but cl :=
  ⟨h1.old.trans h2.old, fun j hj => (h2.cell j hj).trans (h1.cell j hj), fun o n h => h2.there o n (h1.there o n h), fun t h => h2.tag t (h1.tag t h)⟩
theorem Upto.weak {w w1 : World} {B : Nat} {but but' cl cl' : Nat → Prop} (h : Upto w w1 B but cl) (hb : ∀ b, b < w.heap.size → but b → but' b) (hc : ∀ j, cl j → cl' j) : Upto w w1 B but' cl' :=
  ⟨h.old.weak fun b hb' h => h.elim .inl fun h => .inr (hb b hb' h), fun j hj => h.cell j fun h => hj (hc j h), h.there, h.tag⟩
theorem Upto.setCell {w w1 : World} {B : Nat} {but cl : Nat → Prop} {o : Nat} (h : Upto w w1 B but cl) (v : Value) (h1 : cl o) : Upto w (w1.setCell ⟨B, o, none⟩ v) B but cl := by
  refine ⟨h.old.setCell v (.inr (.inl rfl)), fun j hj => ?_, fun o' n ht => ?_, fun t ht => tag_setCell (h.tag t ht)⟩
  · rw [World.cell?_setCell_other _ _ _ _ (by intro e; cases e; exact hj h1)]
    exact h.cell j hj
  · exact World.there_setCells (h.there o' n ht) B o [v]
theorem Upto.alloc {w w1 : World} {B : Nat} {but cl : Nat → Prop} (h : Upto w w1 B but cl) (o : Obj) (hB : B < w.heap.size) : Upto w (w1.alloc o) B but cl := by
  have hB1 := Nat.lt_of_lt_of_le hB h.old.size
  have hb : (w1.alloc o).heap[B]? = w1.heap[B]? := al_old hB1
  exact ⟨h.old.alloc o, fun j hj => (World.cell?_of_block hb).trans (h.cell j hj), fun o' n ht j hj => by rw [World.cell?_of_block hb, World.frozen?_of_block hb]; exact h.there o' n ht j hj, fun t ht => by obtain ⟨c, e⟩ := h.tag t ht; exact ⟨c, hb.trans e⟩⟩
theorem Upto.drew {w w1 : World} {B : Nat} {but cl : Nat → Prop} (h : Upto w w1 B but cl) : Upto w w1.drew B but cl := ⟨h.old.drew, h.cell, h.there, h.tag⟩
theorem Upto.ring {w w' : World} {B off hd : Nat} {q : List It} {but cl : Nat → Prop} (h : Upto w w' B but cl) (hr : Ring w B off hd q) (hc : ∀ j, off ≤ j → j < off + 58 → ¬ cl j) : Ring w' B off hd q := by
  have hx : ∀ j, j < 58 → w'.cell? ⟨B, off + j, none⟩ = w.cell? ⟨B, off + j, none⟩ := fun j hj => h.cell _ (hc _ (by omega) (by omega))
  refine ⟨hr.hd4, hr.len, (hx 56 (by omega)).trans hr.head, (hx 57 (by omega)).trans hr.num, fun j x hj i v hi => ?_, h.there _ _ hr.room⟩
  have hi2 := (List.getElem?_eq_some_iff.1 hi).1
  simp only [Array.length_toList, It.size_cells] at hi2
  have h4 : (hd + j) % 4 < 4 := Nat.mod_lt _ (by omega)
  have := hx ((hd + j) % 4 * 14 + i) (by omega)
  rw [← Nat.add_assoc] at this
  exact this.trans (hr.item j x hj i v hi)

/-- The bus's state. -/
structure AskA where
  port : Int
  id : Int
  kind : Int
  addr : Int
  beats : Int
  size : Int
  ds : List Value
  ss : List Value
structure WayA where
  port : Int
  id : Int
  age : Int
  due : Int
  data : List Value
  err : Bool
structure Mst where
  most : Int
  Q : Nat → List (AskA × Int)
  W : List WayA
  L : List AskA

def WtR (w : World) (x : It) (a : AskA × Int) : Prop := x.port = a.1.port ∧ x.id = a.1.id ∧ x.kind = a.1.kind ∧ x.addr = a.1.addr ∧ x.beats = a.1.beats ∧ x.size = a.1.size ∧ x.age = a.2 ∧ RdS w (.slice x.db x.dn x.dc) a.1.ds ∧ RdS w (.slice x.sb x.sn x.sc) a.1.ss
def WyR (w : World) (x : It) (y : WayA) : Prop := x.port = y.port ∧ x.id = y.id ∧ x.age = y.age ∧ x.due = y.due ∧ x.gport = y.port ∧ x.gid = y.id ∧ RdS w (.slice x.gb x.gn x.gc) y.data ∧ x.gerr = y.err
/-- A transaction as it lies in the log. -/
structure Lg where
  port : Int
  id : Int
  kind : Int
  addr : Int
  beats : Int
  db : Option Addr
  dn : Nat
  dc : Nat
  sb : Option Addr
  sn : Nat
  sc : Nat
  size : Int
def Lg.cells (x : Lg) : Array Value := #[.int .i64 x.port, .int .i64 x.id, .int .i64 x.kind, .int .u64 x.addr, .int .i64 x.beats, .slice x.db x.dn x.dc, .slice x.sb x.sn x.sc, .int .i64 x.size]
def cellsL (l : List Lg) : List Value := l.flatMap fun x => x.cells.toList
theorem cellsL_snoc (l : List Lg) (x : Lg) : cellsL (l ++ [x]) = cellsL l ++ x.cells.toList := by simp [cellsL]
def LgR (w : World) (x : Lg) (a : AskA) : Prop := x.port = a.port ∧ x.id = a.id ∧ x.kind = a.kind ∧ x.addr = a.addr ∧ x.beats = a.beats ∧ x.size = a.size ∧ RdS w (.slice x.db x.dn x.dc) a.ds ∧ RdS w (.slice x.sb x.sn x.sc) a.ss

theorem WtR.on {w w1 : World} {x : It} {a : AskA × Int} {p : Nat → Prop} (h : WtR w x a) (ho : Old w w1 p) (hp : ∀ o, Soft w o → ¬ p o) : WtR w1 x a := by
  obtain ⟨h1, h2, h3, h4, h5, h6, h7, h8, h9⟩ := h
  exact ⟨h1, h2, h3, h4, h5, h6, h7, h8.on ho hp, h9.on ho hp⟩
theorem WyR.on {w w1 : World} {x : It} {y : WayA} {p : Nat → Prop} (h : WyR w x y) (ho : Old w w1 p) (hp : ∀ o, Soft w o → ¬ p o) : WyR w1 x y := by
  obtain ⟨h1, h2, h3, h4, h5, h6, h7, h8⟩ := h
  exact ⟨h1, h2, h3, h4, h5, h6, h7.on ho hp, h8⟩
theorem LgR.on {w w1 : World} {x : Lg} {a : AskA} {p : Nat → Prop} (h : LgR w x a) (ho : Old w w1 p) (hp : ∀ o, Soft w o → ¬ p o) : LgR w1 x a := by
  obtain ⟨h1, h2, h3, h4, h5, h6, h7, h8⟩ := h
  exact ⟨h1, h2, h3, h4, h5, h6, h7.on ho hp, h8.on ho hp⟩

/-- What can be of a transaction that waits. -/
def AskA.ok (a : AskA) : Prop := MayP a.port a.id a.kind a.addr a.beats a.ds.length a.ss.length a.size ∧ 0 ≤ a.addr ∧ a.addr < 18446744073709551616 ∧ Ones a.ds ∧ Ones a.ss
structure Mst.ok (M : Mst) (T : Nat) : Prop where
  m0 : 0 ≤ M.most
  m1 : M.most ≤ 1000
  q : ∀ k, k < 3 → ∀ a ∈ M.Q k, a.1.ok ∧ a.1.port = (k : Int) ∧ 0 ≤ a.2 ∧ a.2 ≤ (T : Int)
  w : ∀ y ∈ M.W, (∃ k : Nat, k < 3 ∧ y.port = (k : Int)) ∧ 0 ≤ y.age ∧ y.age ≤ (T : Int) ∧ Ones y.data ∧ y.data.length ≤ 64
  w4 : M.W.length ≤ 4
  l : M.L.length ≤ T
  la : ∀ a ∈ M.L, a.ok

/-- How it lies in memory. -/
structure RepX (w : World) (B : Nat) (sv : Value) (M : Mst) (hd : Nat → Nat) (q : Nat → List It) (bv : Value) (bs : List It) (lv : Value) (ls : List Lg) : Prop where
  bus : Bus w B M.most sv hd q bv bs
  room : w.there B 0 178
  busyo : w.ownsRow (B + 1) 77 14 bv bs.length (cellsI bs)
  logc : w.cell? ⟨B, 177, none⟩ = some lv
  logo : w.ownsRow (B + 1) 35 8 lv ls.length (cellsL ls)
  wt : ∀ k, k < 3 → All2 (WtR w) (q k) (M.Q k)
  wy : All2 (WyR w) bs M.W
  lg : All2 (LgR w) ls M.L
def Rep (w : World) (B : Nat) (sv : Value) (M : Mst) (lv : Value) : Prop := ∃ hd q bv bs ls, RepX w B sv M hd q bv bs lv ls
end Go.Proofs.Ytnpgjecifllnaaa
