/- What is proved here: the bus's rings. Conditions: the block reads as the ring. -/
import Derived.Test.YtnpgjecifllnaaaServe
import Derived.StillTailTactics
import Derived.Deep.MidRow
set_option linter.unusedSimpArgs false
set_option linter.unusedVariables false
namespace Go.Proofs.Ytnpgjecifllnaaa
open Go Go.RowKit

/-- A transaction, how old it is, when it is answered and with what: as it lies in memory. -/
structure It where
  port : Int
  id : Int
  kind : Int
  addr : Int
  beats : Int
  db : Option Addr
  dn : Nat
  dc : Nat
  sb : Option Addr
  sn : Nat
  sc : Nat
  size : Int
  age : Int
  due : Int
  gport : Int
  gid : Int
  gb : Option Addr
  gn : Nat
  gc : Nat
  gerr : Bool
def It.cells (x : It) : Array Value := #[.int .i64 x.port, .int .i64 x.id, .int .i64 x.kind, .int .u64 x.addr, .int .i64 x.beats, .slice x.db x.dn x.dc, .slice x.sb x.sn x.sc, .int .i64 x.size, .int .i64 x.age, .int .i64 x.due, .int .i64 x.gport, .int .i64 x.gid, .slice x.gb x.gn x.gc, .bool x.gerr]
theorem It.size_cells (x : It) : x.cells.size = 14 := rfl
theorem It.one (x : It) : x.cells.all (·.oneCell') = true := by simp [It.cells, Value.oneCell']

theorem info77 : (Try.prog.info? 77).map (fun i => (i.zero, i.size, i.bytes)) = some (some (.agg (It.cells ⟨0, 0, 0, 0, 0, none, 0, 0, none, 0, 0, 0, 0, 0, 0, 0, none, 0, 0, false⟩)), 14, 160) := by kernel_rfl

/-- The ring that lies at off in block B: its head, and what waits in it. -/
structure Ring (w : World) (B off hd : Nat) (q : List It) : Prop where
  hd4 : hd < 4
  len : q.length ≤ 4
  head : w.cell? ⟨B, off + 56, none⟩ = some (.int .i64 ((hd : Nat) : Int))
  num : w.cell? ⟨B, off + 57, none⟩ = some (.int .i64 ((q.length : Nat) : Int))
  item : ∀ j x, q[j]? = some x → w.rangeAt B (off + (hd + j) % 4 * 14) x.cells.toList
  room : w.there B off 58

/-- The block's tag: it is the bus's. -/
def Tag (w : World) (B : Nat) (t : TypeId) : Prop := ∃ c, w.heap[B]? = some (.cells c t (0, 0))
/-- Nothing but block B is another, and of it but the cells from lo to hi. -/
structure Upon (w w' : World) (B lo hi : Nat) : Prop where
  old : Old w w' (fun b => b = B)
  cell : ∀ j, j < lo ∨ hi ≤ j → w'.cell? ⟨B, j, none⟩ = w.cell? ⟨B, j, none⟩
  there : ∀ o n, w.there B o n → w'.there B o n
  tag : ∀ t, Tag w B t → Tag w' B t

theorem Upon.of_old {w w' : World} {B lo hi : Nat} (h : Old w w' No) (hB : B < w.heap.size) : Upon w w' B lo hi := by
  have hb := h.block B hB (fun h => h)
  refine ⟨h.no, fun j _ => h.cell hB (fun h => h), fun o n ht j hj => ?_, fun t ⟨c, e⟩ => ⟨c, hb.trans e⟩⟩
  rw [h.cell hB (fun h => h), World.frozen?_of_block hb]
  exact ht j hj
theorem Upon.trans {w w1 w2 : World} {B lo hi : Nat} (h1 : Upon w w1 B lo hi) (h2 : Upon w1 w2 B lo hi) : Upon w w2 B lo hi :=
  ⟨h1.old.trans h2.old, fun j hj => (h2.cell j hj).trans (h1.cell j hj), fun o n h => h2.there o n (h1.there o n h), fun t h => h2.tag t (h1.tag t h)⟩
theorem tag_setCell {w : World} {B o : Nat} {v : Value} {t : TypeId} (h : Tag w B t) : Tag (w.setCell ⟨B, o, none⟩ v) B t := by
  obtain ⟨c, e⟩ := h
  exact ⟨_, heap_setCell_same w B o c t v e⟩
theorem Upon.setCell {w w1 : World} {B lo hi o : Nat} (h : Upon w w1 B lo hi) (v : Value) (h1 : lo ≤ o) (h2 : o < hi) : Upon w (w1.setCell ⟨B, o, none⟩ v) B lo hi := by
  refine ⟨h.old.setCell v (.inr rfl), fun j hj => ?_, fun o' n ht => ?_, fun t ht => tag_setCell (h.tag t ht)⟩
  · rw [World.cell?_setCell_other _ _ _ _ (by intro e; cases e; omega)]
    exact h.cell j hj
  · exact World.there_setCells (h.there o' n ht) B o [v]
theorem Upon.setCells {w : World} {B lo hi : Nat} : ∀ (vs : List Value) (o : Nat) (w1 : World), Upon w w1 B lo hi → lo ≤ o → o + vs.length ≤ hi → Upon w (w1.setCells B o vs) B lo hi
  | [], _, _, h, _, _ => h
  | v :: vs, o, w1, h, h1, h2 => by
    rw [World.setCells]
    simp only [List.length_cons] at h2
    exact Upon.setCells vs (o + 1) _ (h.setCell v h1 (by omega)) (by omega) (by omega)

end Go.Proofs.Ytnpgjecifllnaaa
