/- What is proved here: how long what was taken is under way. Conditions: the item's own block, the input's, the bus's bound. -/
import Derived.Test.YtnpgjecifllnaaaTake6
set_option linter.unusedSimpArgs false
set_option linter.unusedVariables false
namespace Go.Proofs.Ytnpgjecifllnaaa
open Go Go.Conc Go.RowKit


theorem set2 {w : World} {R : Nat} {t : TypeId} {x0 x1 x2 x3 x4 x5 x6 x7 x8 x9 y0 y1 y2 y3 a b : Value} (h : w.heap[R]? = some (.cells #[x0, x1, x2, x3, x4, x5, x6, x7, x8, x9, y0, y1, y2, y3] t (0, 0))) : ((w.setCell ⟨R, 8, none⟩ a).setCell ⟨R, 9, none⟩ b).heap[R]? = some (.cells #[x0, x1, x2, x3, x4, x5, x6, x7, a, b, y0, y1, y2, y3] t (0, 0)) :=
  heap_setCell_same _ R 9 _ t b (heap_setCell_same _ R 8 _ t a h)
def dueF (dl mo : Int) : Int := 1 + min (max dl 0) mo
theorem due_eq {dl mo : Int} (h0 : 0 ≤ mo) (h1 : mo ≤ 1000) : IntKind.i64.wrap (1 + if mo < (if dl < 0 then 0 else dl) then mo else if dl < 0 then 0 else dl) = dueF dl mo := by
  unfold dueF
  rw [IntKind.wrap_i64] <;> (repeat' split) <;> omega
def Post7 (T : Nat) (p i_ kd ad bt sz du gp gi : Int) (db sb gb : Option Addr) (dn dc sn sc gn gc : Nat) (ge : Bool) (w w' : World) : Prop :=
  w'.heap[T]? = some (.cells #[.int .i64 p, .int .i64 i_, .int .i64 kd, .int .u64 ad, .int .i64 bt, .slice db dn dc, .slice sb sn sc, .int .i64 sz, .int .i64 0, .int .i64 du, .int .i64 gp, .int .i64 gi, .slice gb gn gc, .bool ge] 77 (0, 0)) ∧ Old w w' (fun b => b = T)
set_option maxHeartbeats 4000000 in
set_option maxRecDepth 100000 in
theorem take7_wp {B T I : Nat} {p i_ kd ad bt sz ag du gp gi dl mo : Int} {db sb gb : Option Addr} {dn dc sn sc gn gc : Nat} {ge : Bool} {w : World} {u1 u2 u4 u6 u7 u8 u9 u10 u11 u12 u13 u14 u15 u16 u17 u18 u19 u20 u21 u22 u23 u24 u25 u26 u27 u28 u29 u30 u31 u32 u33 u34 u35 u36 u37 u38 u39 u40 u41 u42 u43 u44 u45 u46 u47 u48 u49 u50 u51 u52 u53 u54 u55 u56 u57 u58 u59 u60 u61 u62 u63 u64 u65 u66 u67 u68 u69 u70 u71 u72 u73 u74 u75 u76 u77 u78 u79 u80 : Value}
    (hT : w.heap[T]? = some (.cells #[.int .i64 p, .int .i64 i_, .int .i64 kd, .int .u64 ad, .int .i64 bt, .slice db dn dc, .slice sb sn sc, .int .i64 sz, .int .i64 ag, .int .i64 du, .int .i64 gp, .int .i64 gi, .slice gb gn gc, .bool ge] 77 (0, 0))) (hlB : B < w.heap.size) (hlI : I < w.heap.size) (hTB : B ≠ T) (hTI : I ≠ T) (hi : w.cell? ⟨I, 2, none⟩ = some (.int .i64 dl)) (hm : w.cell? ⟨B, 0, none⟩ = some (.int .i64 mo)) (h0 : 0 ≤ mo) (h1 : mo ≤ 1000) :
    take7.wp Try.prog (Norm fun a' w' => (∃ v60 v61 v62 v63 v64 v65 v66 v67 v68 v69 v70, a' = ⟨#[.pointer (some ⟨B, 0, none⟩), u1, u2, .pointer (some ⟨I, 0, none⟩), u4, .pointer (some ⟨T, 0, none⟩), u6, u7, u8, u9, u10, u11, u12, u13, u14, u15, u16, u17, u18, u19, u20, u21, u22, u23, u24, u25, u26, u27, u28, u29, u30, u31, u32, u33, u34, u35, u36, u37, u38, u39, u40, u41, u42, u43, u44, u45, u46, u47, u48, u49, u50, u51, u52, u53, u54, u55, u56, u57, u58, u59, v60, v61, v62, v63, v64, v65, v66, v67, v68, v69, v70, u71, u72, u73, u74, u75, u76, u77, u78, u79, u80], []⟩) ∧ Post7 T p i_ kd ad bt sz (dueF dl mo) gp gi db sb gb dn dc sn sc gn gc ge w w') ⟨#[.pointer (some ⟨B, 0, none⟩), u1, u2, .pointer (some ⟨I, 0, none⟩), u4, .pointer (some ⟨T, 0, none⟩), u6, u7, u8, u9, u10, u11, u12, u13, u14, u15, u16, u17, u18, u19, u20, u21, u22, u23, u24, u25, u26, u27, u28, u29, u30, u31, u32, u33, u34, u35, u36, u37, u38, u39, u40, u41, u42, u43, u44, u45, u46, u47, u48, u49, u50, u51, u52, u53, u54, u55, u56, u57, u58, u59, u60, u61, u62, u63, u64, u65, u66, u67, u68, u69, u70, u71, u72, u73, u74, u75, u76, u77, u78, u79, u80], []⟩ w := by
  have hT' := Lib.hid hT
  obtain ⟨_, ⟨e8, e9, _⟩, hfz⟩ := blk14 hT
  have z8 := hfz 8
  have z9 := hfz 9
  have hS : Hid (∀ w1 : World, Old w w1 (fun b => b = T) → (w1.cell? ⟨I, 2, none⟩ = some (.int .i64 dl) ∧ w1.cell? ⟨B, 0, none⟩ = some (.int .i64 mo))) := fun w1 ho => ⟨(ho.cell hlI hTI).trans hi, (ho.cell hlB hTB).trans hm⟩
  clear hfz hT
  simp only [take7, Try.f35]
  go_region_held3 (fun w' => w'.cell? ⟨I, 2, none⟩ = some (.int .i64 dl) ∧ w'.cell? ⟨B, 0, none⟩ = some (.int .i64 mo))
    (refine hS.out _ ?_ <;> (repeat' first | exact (Old.refl w _).drew | exact Old.refl _ _ | refine Old.setCell ?_ _ (.inr rfl) | refine Old.drew ?_))
    (fail)
  all_goals rw [due_eq h0 h1]
  all_goals exact ⟨⟨_, _, _, _, _, _, _, _, _, _, _, rfl⟩, set2 hT'.out, (((Old.refl w (fun b => b = T)).setCell _ (.inr rfl)).setCell _ (.inr rfl)).drew⟩

end Go.Proofs.Ytnpgjecifllnaaa
