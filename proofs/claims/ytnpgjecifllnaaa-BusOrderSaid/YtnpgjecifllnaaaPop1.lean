/- What is proved here: what is taken from a ring. Conditions: the block reads as the ring; it is none that is empty. -/
import Derived.Test.YtnpgjecifllnaaaFirst
import Derived.Deep.RegionHeld3
import Derived.Deep.Upon
set_option linter.unusedSimpArgs false
set_option linter.unusedVariables false
namespace Go.Proofs.Ytnpgjecifllnaaa
open Go Go.Conc Go.RowKit

def It.none : It := ⟨0, 0, 0, 0, 0, Option.none, 0, 0, Option.none, 0, 0, 0, 0, 0, 0, 0, Option.none, 0, 0, false⟩
theorem hbuild77 {o : Oper} {a : Act} (w : World) (hop : o.op = .build 77 #[]) : (execOp a.eval o).run Try.prog w = .ok (.value (.agg It.none.cells)) w := by
  unfold execOp
  simp only [hop]
  go_simp
  rfl

noncomputable def pop1 : Code := match Try.f46.body with | some (.seq _ (.seq c _)) => c | _ => .skip
set_option maxHeartbeats 4000000 in
set_option maxRecDepth 100000 in
/-- The first statement: it is read. -/
theorem pop1_wp {B off hd : Nat} {x : It} {w : World} {R T : Nat} (hB : B < w.heap.size) (hd4 : hd < 4) (hc1 : w.cell? ⟨B, off + 56, none⟩ = some (.int .i64 ((hd : Nat) : Int))) (hrow : w.rangeAt B (off + hd * 14) x.cells.toList) :
    pop1.wp Try.prog (fun e a' w' => e = .normal ∧ a' = ⟨#[.pointer (some ⟨B, off, none⟩), undef, .pointer (some ⟨R, 0, none⟩), .pointer (some ⟨w.heap.size, 0, none⟩), .pointer (some ⟨B, off, none⟩), .pointer (some ⟨B, off, none⟩), .pointer (some ⟨B, off, none⟩), .pointer (some ⟨B, off + 56, none⟩), .int .i64 ((hd : Nat) : Int), .pointer (some ⟨B, off, none⟩), .pointer (some ⟨B, off, none⟩), .pointer (some ⟨B, off + hd * 14, none⟩), .agg x.cells, undef, undef, undef, undef, undef, undef, undef, undef, undef, undef, undef, undef, undef, undef, undef, undef, undef, undef, undef, undef, undef, undef, undef, undef, undef, undef, undef], []⟩ ∧ w' = (w.alloc (.cells x.cells 77)).drew) ⟨#[.pointer (some ⟨B, off, none⟩), undef, .pointer (some ⟨R, 0, none⟩), undef, undef, undef, undef, undef, undef, undef, undef, undef, undef, undef, undef, undef, undef, undef, undef, undef, undef, undef, undef, undef, undef, undef, undef, undef, undef, undef, undef, undef, undef, undef, undef, undef, undef, undef, undef, undef], []⟩ w := by
  obtain ⟨p, i, kd, ad, bt, db, dn, dc, sb, sn, sc, sz, ag, du, gp, gi, gb, gn, gc, ge⟩ := x
  have hk : ∀ k v, (It.cells ⟨p, i, kd, ad, bt, db, dn, dc, sb, sn, sc, sz, ag, du, gp, gi, gb, gn, gc, ge⟩).toList[k]? = some v → w.cell? ⟨B, off + hd * 14 + k, none⟩ = some v := hrow
  have e0 : w.cell? ⟨B, off + hd * 14, none⟩ = some (.int .i64 p) := hk 0 _ rfl
  have e1 : w.cell? ⟨B, off + hd * 14 + 1, none⟩ = some (.int .i64 i) := hk 1 _ rfl
  have e2 : w.cell? ⟨B, off + hd * 14 + 2, none⟩ = some (.int .i64 kd) := hk 2 _ rfl
  have e3 : w.cell? ⟨B, off + hd * 14 + 3, none⟩ = some (.int .u64 ad) := hk 3 _ rfl
  have e4 : w.cell? ⟨B, off + hd * 14 + 4, none⟩ = some (.int .i64 bt) := hk 4 _ rfl
  have e5 : w.cell? ⟨B, off + hd * 14 + 5, none⟩ = some (.slice db dn dc) := hk 5 _ rfl
  have e6 : w.cell? ⟨B, off + hd * 14 + 6, none⟩ = some (.slice sb sn sc) := hk 6 _ rfl
  have e7 : w.cell? ⟨B, off + hd * 14 + 7, none⟩ = some (.int .i64 sz) := hk 7 _ rfl
  have e8 : w.cell? ⟨B, off + hd * 14 + 8, none⟩ = some (.int .i64 ag) := hk 8 _ rfl
  have e9 : w.cell? ⟨B, off + hd * 14 + 9, none⟩ = some (.int .i64 du) := hk 9 _ rfl
  have e10 : w.cell? ⟨B, off + hd * 14 + 10, none⟩ = some (.int .i64 gp) := hk 10 _ rfl
  have e11 : w.cell? ⟨B, off + hd * 14 + 11, none⟩ = some (.int .i64 gi) := hk 11 _ rfl
  have e12 : w.cell? ⟨B, off + hd * 14 + 12, none⟩ = some (.slice gb gn gc) := hk 12 _ rfl
  have e13 : w.cell? ⟨B, off + hd * 14 + 13, none⟩ = some (.bool ge) := hk 13 _ rfl
  have hi0 : (0 : Int) ≤ (hd : Int) := by omega
  have hi1 : (hd : Int) < 4 := by omega
  clear hk hrow
  simp only [pop1, Try.f46]
  go_region_held3 (fun w' => w'.cell? ⟨B, off + 56, none⟩ = some (.int .i64 ((hd : Nat) : Int)) ∧ w'.cell? ⟨B, off + hd * 14, none⟩ = some (.int .i64 p) ∧ w'.cell? ⟨B, off + hd * 14 + 1, none⟩ = some (.int .i64 i) ∧ w'.cell? ⟨B, off + hd * 14 + 2, none⟩ = some (.int .i64 kd) ∧ w'.cell? ⟨B, off + hd * 14 + 3, none⟩ = some (.int .u64 ad) ∧ w'.cell? ⟨B, off + hd * 14 + 4, none⟩ = some (.int .i64 bt) ∧ w'.cell? ⟨B, off + hd * 14 + 5, none⟩ = some (.slice db dn dc) ∧ w'.cell? ⟨B, off + hd * 14 + 6, none⟩ = some (.slice sb sn sc) ∧ w'.cell? ⟨B, off + hd * 14 + 7, none⟩ = some (.int .i64 sz) ∧ w'.cell? ⟨B, off + hd * 14 + 8, none⟩ = some (.int .i64 ag) ∧ w'.cell? ⟨B, off + hd * 14 + 9, none⟩ = some (.int .i64 du) ∧ w'.cell? ⟨B, off + hd * 14 + 10, none⟩ = some (.int .i64 gp) ∧ w'.cell? ⟨B, off + hd * 14 + 11, none⟩ = some (.int .i64 gi) ∧ w'.cell? ⟨B, off + hd * 14 + 12, none⟩ = some (.slice gb gn gc) ∧ w'.cell? ⟨B, off + hd * 14 + 13, none⟩ = some (.bool ge)) (go_keep) (fail)
  all_goals exact ⟨rfl, rfl, rfl⟩
end Go.Proofs.Ytnpgjecifllnaaa
