/- What is proved here: what was served is given to the item. Conditions: the item's own block, and the answer's. -/
import Derived.Test.YtnpgjecifllnaaaTake5
set_option linter.unusedSimpArgs false
set_option linter.unusedVariables false
namespace Go.Proofs.Ytnpgjecifllnaaa
open Go Go.Conc Go.RowKit

noncomputable def take6 : Code := match Try.f35.body with | some (.seq _ (.seq _ (.seq _ (.seq _ (.seq _ (.seq _ (.seq c _))))))) => c | _ => .skip
noncomputable def take7 : Code := match Try.f35.body with | some (.seq _ (.seq _ (.seq _ (.seq _ (.seq _ (.seq _ (.seq _ (.seq c _)))))))) => c | _ => .skip
noncomputable def take8 : Code := match Try.f35.body with | some (.seq _ (.seq _ (.seq _ (.seq _ (.seq _ (.seq _ (.seq _ (.seq _ c)))))))) => c | _ => .skip
theorem fz14 {w : World} {b : Nat} {cs : Array Value} {t : TypeId} (h : w.heap[b]? = some (.cells cs t (0, 0))) : ∀ i, w.frozen? ⟨b, i, none⟩ = false := fun i => by simp [World.frozen?, h]


theorem set4b {w : World} {R : Nat} {t : TypeId} {x0 x1 x2 x3 x4 x5 x6 x7 x8 x9 y0 y1 y2 y3 a b c d : Value} (h : w.heap[R]? = some (.cells #[x0, x1, x2, x3, x4, x5, x6, x7, x8, x9, y0, y1, y2, y3] t (0, 0))) : ((((w.setCell ⟨R, 10, none⟩ a).setCell ⟨R, 11, none⟩ b).setCell ⟨R, 12, none⟩ c).setCell ⟨R, 13, none⟩ d).heap[R]? = some (.cells #[x0, x1, x2, x3, x4, x5, x6, x7, x8, x9, a, b, c, d] t (0, 0)) :=
  heap_setCell_same _ R 13 _ t d (heap_setCell_same _ R 12 _ t c (heap_setCell_same _ R 11 _ t b (heap_setCell_same _ R 10 _ t a h)))
theorem old4b {w w1 : World} {R i j k l : Nat} {a b c d : Value} {p : Nat → Prop} (h : Old w w1 p) (hg : w.heap.size ≤ R ∨ p R) : Old w ((((w1.setCell ⟨R, i, none⟩ a).setCell ⟨R, j, none⟩ b).setCell ⟨R, k, none⟩ c).setCell ⟨R, l, none⟩ d) p := (((h.setCell _ hg).setCell _ hg).setCell _ hg).setCell _ hg
def Post6 (T : Nat) (p i_ kd ad bt sz ag du : Int) (db sb : Option Addr) (dn dc sn sc : Nat) (er : Bool) (dat : List Value) (w w' : World) : Prop :=
  ∃ cb cc, w'.heap[T]? = some (.cells #[.int .i64 p, .int .i64 i_, .int .i64 kd, .int .u64 ad, .int .i64 bt, .slice db dn dc, .slice sb sn sc, .int .i64 sz, .int .i64 ag, .int .i64 du, .int .i64 p, .int .i64 i_, .slice cb dat.length cc, .bool er] 77 (0, 0)) ∧ RdS w' (.slice cb dat.length cc) dat ∧ Old w w' (fun b => b = T)
set_option maxHeartbeats 4000000 in
set_option maxRecDepth 100000 in
theorem take6_wp {B T R : Nat} {p i_ kd ad bt sz ag du gp gi : Int} {db sb gb rb : Option Addr} {dn dc sn sc gn gc rn rc : Nat} {ge er : Bool} {dat : List Value} {x0 x1 : Value} {w : World} {u1 u2 u3 u4 u7 u8 u9 u10 u11 u12 u13 u14 u15 u16 u17 u18 u19 u20 u21 u22 u23 u24 u25 u26 u27 u28 u29 u30 u31 u32 u33 u34 u35 u36 u37 u38 u39 u40 u41 u42 u43 u44 u45 u46 u47 u48 u49 u50 u51 u52 u53 u54 u55 u56 u57 u58 u59 u60 u61 u62 u63 u64 u65 u66 u67 u68 u69 u70 u71 u72 u73 u74 u75 u76 u77 u78 u79 u80 : Value}
    (hT : w.heap[T]? = some (.cells #[.int .i64 p, .int .i64 i_, .int .i64 kd, .int .u64 ad, .int .i64 bt, .slice db dn dc, .slice sb sn sc, .int .i64 sz, .int .i64 ag, .int .i64 du, .int .i64 gp, .int .i64 gi, .slice gb gn gc, .bool ge] 77 (0, 0))) (hR : w.heap[R]? = some (.cells #[x0, x1, .slice rb rn rc, .bool er] 43 (0, 0))) (hd : RdS w (.slice rb rn rc) dat) (h1 : Ones dat) (hb1 : dat.length ≤ 140737488355328) :
    take6.wp Try.prog (Norm fun a' w' => (∃ v47 v48 v49 v50 v51 v52 v53 v54 v55 v56 v57 v58 v59, a' = ⟨#[.pointer (some ⟨B, 0, none⟩), u1, u2, u3, u4, .pointer (some ⟨T, 0, none⟩), .pointer (some ⟨R, 0, none⟩), u7, u8, u9, u10, u11, u12, u13, u14, u15, u16, u17, u18, u19, u20, u21, u22, u23, u24, u25, u26, u27, u28, u29, u30, u31, u32, u33, u34, u35, u36, u37, u38, u39, u40, u41, u42, u43, u44, u45, u46, v47, v48, v49, v50, v51, v52, v53, v54, v55, v56, v57, v58, v59, u60, u61, u62, u63, u64, u65, u66, u67, u68, u69, u70, u71, u72, u73, u74, u75, u76, u77, u78, u79, u80], []⟩) ∧ Post6 T p i_ kd ad bt sz ag du db sb dn dc sn sc er dat w w') ⟨#[.pointer (some ⟨B, 0, none⟩), u1, u2, u3, u4, .pointer (some ⟨T, 0, none⟩), .pointer (some ⟨R, 0, none⟩), u7, u8, u9, u10, u11, u12, u13, u14, u15, u16, u17, u18, u19, u20, u21, u22, u23, u24, u25, u26, u27, u28, u29, u30, u31, u32, u33, u34, u35, u36, u37, u38, u39, u40, u41, u42, u43, u44, u45, u46, u47, u48, u49, u50, u51, u52, u53, u54, u55, u56, u57, u58, u59, u60, u61, u62, u63, u64, u65, u66, u67, u68, u69, u70, u71, u72, u73, u74, u75, u76, u77, u78, u79, u80], []⟩ w := by
  have hcl : Hid (∀ w1, Old w w1 No → Calls Try.prog 43 #[.slice rb rn rc] w1 (RetRd dat w1)) := fun w1 ho => clone8 (hd.1.on ho (fun _ _ _ _ _ _ h => h)) h1 hb1
  have hTR : Hid (R ≠ T) := fun e => by subst e; rw [hT] at hR; cases hR
  have hS : Hid (∀ w1 : World, w1.heap[T]? = w.heap[T]? → w1.heap[R]? = w.heap[R]? → (w1.cell? ⟨T, 0, none⟩ = some (.int .i64 p) ∧ w1.cell? ⟨T, 1, none⟩ = some (.int .i64 i_) ∧ w1.cell? ⟨R, 2, none⟩ = some (.slice rb rn rc) ∧ w1.cell? ⟨R, 3, none⟩ = some (.bool er))) := fun w1 h h2 =>
    ⟨(blk14 (h.trans hT)).1.1, (blk14 (h.trans hT)).1.2.1, (blk4 (h2.trans hR)).1.2.2.1, (blk4 (h2.trans hR)).1.2.2.2⟩
  have hlT := lt_of_heap hT
  have hlR := lt_of_heap hR
  have hT' := Lib.hid hT
  have hR' := Lib.hid hR
  clear hd h1 hb1 hT hR
  simp only [take6, Try.f35]
  go_region_held3 (fun w' => w'.cell? ⟨T, 0, none⟩ = some (.int .i64 p) ∧ w'.cell? ⟨T, 1, none⟩ = some (.int .i64 i_) ∧ w'.cell? ⟨R, 2, none⟩ = some (.slice rb rn rc) ∧ w'.cell? ⟨R, 3, none⟩ = some (.bool er))
    (first | exact hS.out _ rfl rfl | exact hS.out _ hE3.out hF3.out | exact hN.out)
    (first
    | (go_simp; go_at_call 43; refine (hcl.out _ (by exact (Old.refl w No).drew)).mono ?_; rintro e w3 ⟨dv, rfl, hrd, ho3⟩; obtain ⟨⟨cb, cc, rfl, hxd⟩, hyd⟩ := hrd; have hrd' := Lib.hid (show RdS w3 (.slice cb dat.length cc) dat from ⟨⟨cb, cc, rfl, hxd⟩, hyd⟩); clear hxd hyd; have ho3' := Lib.hid ((Old.refl w No).drew.trans ho3); clear ho3; have hE3 := Lib.hid (ho3'.out.block T hlT (fun h => h)); have hF3 := Lib.hid (ho3'.out.block R hlR (fun h => h)); obtain ⟨e0, e1, f2, f3⟩ := hS.out _ hE3.out hF3.out; obtain ⟨_, ⟨_, _, e10, e11, e12, e13⟩, hfz⟩ := blk14 (hE3.out.trans hT'.out); have z10 := hfz 10; have z11 := hfz 11; have z12 := hfz 12; have z13 := hfz 13; clear hfz; have hne : R ≠ T := hTR.out; have hN : Hid (((((w3.setCell ⟨T, 10, none⟩ (.int .i64 p)).setCell ⟨T, 11, none⟩ (.int .i64 i_)).setCell ⟨T, 12, none⟩ (.slice cb dat.length cc)).setCell ⟨T, 13, none⟩ (.bool er)).cell? ⟨T, 0, none⟩ = some (.int .i64 p) ∧ ((((w3.setCell ⟨T, 10, none⟩ (.int .i64 p)).setCell ⟨T, 11, none⟩ (.int .i64 i_)).setCell ⟨T, 12, none⟩ (.slice cb dat.length cc)).setCell ⟨T, 13, none⟩ (.bool er)).cell? ⟨T, 1, none⟩ = some (.int .i64 i_) ∧ ((((w3.setCell ⟨T, 10, none⟩ (.int .i64 p)).setCell ⟨T, 11, none⟩ (.int .i64 i_)).setCell ⟨T, 12, none⟩ (.slice cb dat.length cc)).setCell ⟨T, 13, none⟩ (.bool er)).cell? ⟨R, 2, none⟩ = some (.slice rb rn rc) ∧ ((((w3.setCell ⟨T, 10, none⟩ (.int .i64 p)).setCell ⟨T, 11, none⟩ (.int .i64 i_)).setCell ⟨T, 12, none⟩ (.slice cb dat.length cc)).setCell ⟨T, 13, none⟩ (.bool er)).cell? ⟨R, 3, none⟩ = some (.bool er)) := (by refine ⟨?_, ?_, ?_, ?_⟩ <;> (repeat rw [World.cell?_setCell_other _ _ _ _ (by intro e; cases e <;> omega)]) <;> assumption)))
  all_goals exact ⟨⟨_, _, _, _, _, _, _, _, _, _, _, _, _, rfl⟩, cb, cc, set4b (hE3.out.trans hT'.out), hrd'.out.on (p := fun b => b = T) (old4b (Old.refl _ _) (.inr rfl)) (fun o hs hp => soft_ne (hE3.out.trans hT'.out) (by decide) (by decide) hs hp), old4b ho3'.out.no (.inr rfl)⟩

end Go.Proofs.Ytnpgjecifllnaaa
