/- What is proved here: what was taken is put under way. Conditions: the item's own block; the block reads as the bus. -/
import Derived.Test.YtnpgjecifllnaaaTake6
set_option linter.unusedSimpArgs false
set_option linter.unusedVariables false
namespace Go.Proofs.Ytnpgjecifllnaaa
open Go Go.Conc Go.RowKit


def Post8 (B base ln : Nat) (row xs : List Value) (bv : Value) (w w' : World) : Prop :=
  ∃ bv', w'.cell? ⟨B, 176, none⟩ = some bv' ∧ w'.ownsRow base 77 14 bv' (ln + 1) (xs ++ row) ∧ Upto w w' B (fun b => some b = bv.ownBlock) (fun j => j = 176) ∧ (∀ b, some b = bv'.ownBlock → some b = bv.ownBlock ∨ w.heap.size ≤ b)
set_option maxHeartbeats 4000000 in
set_option maxRecDepth 100000 in
theorem take8_wp {B T base ln lc : Nat} {lb : Option Addr} {xs : List Value} {p i_ kd ad bt sz ag du gp gi : Int} {db sb gb : Option Addr} {dn dc sn sc gn gc : Nat} {ge : Bool} {w : World} {u1 u2 u3 u4 u6 u7 u8 u9 u10 u11 u12 u13 u14 u15 u16 u17 u18 u19 u20 u21 u22 u23 u24 u25 u26 u27 u28 u29 u30 u31 u32 u33 u34 u35 u36 u37 u38 u39 u40 u41 u42 u43 u44 u45 u46 u47 u48 u49 u50 u51 u52 u53 u54 u55 u56 u57 u58 u59 u60 u61 u62 u63 u64 u65 u66 u67 u68 u69 u70 u71 u72 u73 u74 u75 u76 u77 u78 u79 u80 : Value}
    (hB : B < w.heap.size) (htag : Tag w B 84) (hT : w.heap[T]? = some (.cells #[.int .i64 p, .int .i64 i_, .int .i64 kd, .int .u64 ad, .int .i64 bt, .slice db dn dc, .slice sb sn sc, .int .i64 sz, .int .i64 ag, .int .i64 du, .int .i64 gp, .int .i64 gi, .slice gb gn gc, .bool ge] 77 (0, 0))) (hTo : some T ≠ (Value.slice lb ln lc).ownBlock)
    (hlc : w.cell? ⟨B, 176, none⟩ = some (.slice lb ln lc)) (hz : w.frozen? ⟨B, 176, none⟩ = false) (hlo : w.ownsRow base 77 14 (.slice lb ln lc) ln xs) (hln : ln ≤ 1000) (hbase : base ≤ w.heap.size) :
    take8.wp Try.prog (Norm fun a' w' => (∃ v71 v72 v73 v74 v75 v76 v77 v78 v79 v80, a' = ⟨#[.pointer (some ⟨B, 0, none⟩), u1, u2, u3, u4, .pointer (some ⟨T, 0, none⟩), u6, u7, u8, u9, u10, u11, u12, u13, u14, u15, u16, u17, u18, u19, u20, u21, u22, u23, u24, u25, u26, u27, u28, u29, u30, u31, u32, u33, u34, u35, u36, u37, u38, u39, u40, u41, u42, u43, u44, u45, u46, u47, u48, u49, u50, u51, u52, u53, u54, u55, u56, u57, u58, u59, u60, u61, u62, u63, u64, u65, u66, u67, u68, u69, u70, v71, v72, v73, v74, v75, v76, v77, v78, v79, v80], []⟩) ∧ Post8 B base ln [Value.int .i64 p, Value.int .i64 i_, Value.int .i64 kd, Value.int .u64 ad, Value.int .i64 bt, Value.slice db dn dc, Value.slice sb sn sc, Value.int .i64 sz, Value.int .i64 ag, Value.int .i64 du, Value.int .i64 gp, Value.int .i64 gi, Value.slice gb gn gc, Value.bool ge] xs (.slice lb ln lc) w w') ⟨#[.pointer (some ⟨B, 0, none⟩), u1, u2, u3, u4, .pointer (some ⟨T, 0, none⟩), u6, u7, u8, u9, u10, u11, u12, u13, u14, u15, u16, u17, u18, u19, u20, u21, u22, u23, u24, u25, u26, u27, u28, u29, u30, u31, u32, u33, u34, u35, u36, u37, u38, u39, u40, u41, u42, u43, u44, u45, u46, u47, u48, u49, u50, u51, u52, u53, u54, u55, u56, u57, u58, u59, u60, u61, u62, u63, u64, u65, u66, u67, u68, u69, u70, u71, u72, u73, u74, u75, u76, u77, u78, u79, u80], []⟩ w := by
  obtain ⟨i77, hi, hzr, hs77, hb77⟩ := info_parts info77
  obtain ⟨⟨e0, e1, e2, e3, e4, e5, e6, e7⟩, ⟨e8, e9, e10, e11, e12, e13⟩, fT⟩ := blk14 hT
  have hT' := Lib.hid hT
  have htag' := Lib.hid htag
  have hlo' := Lib.hid hlo
  have hTlt := lt_of_heap hT
  have hBo : Hid (some B ≠ (Value.slice lb ln lc).ownBlock) := by obtain ⟨c, t⟩ := htag; exact tag_ne hlo t (by decide)
  clear hT hlo htag fT
  simp only [take8, Try.f35]
  go_region_law (refine step_append_lies _ rfl (.tmp 75) (.tmp 77) 82 rfl base 77 i77 _ 14 160 Try.underlying82 hi hzr hs77 hb77 rfl (by decide) (.slice lb ln lc) ln xs (by simp [Act.eval, Act.put]) (by exact hlo'.out.alloc _) ⟨w.heap.size, 0, none⟩ 1 1 [Value.int .i64 p, Value.int .i64 i_, Value.int .i64 kd, Value.int .u64 ad, Value.int .i64 bt, Value.slice db dn dc, Value.slice sb sn sc, Value.int .i64 sz, Value.int .i64 ag, Value.int .i64 du, Value.int .i64 gp, Value.int .i64 gi, Value.slice gb gn gc, Value.bool ge] (by simp [Act.eval, Act.put]) rfl (World.news_of_block al_new) (ones14 _ _ _ _ _ _ _ _ _ _ _ _ _ _ _ _ _ _ _ _) (by decide) (by unfold maxLen; omega) (by omega) (by simp only [drew_size, al_size]; omega) _ rfl ?_; intro g cap w5 hown5 hgrow hat hg5; have hown5' := Lib.hid hown5; have hgrow' := Lib.hid hgrow; have hat' := Lib.hid hat; have hB5 := Lib.hid ((hgrow.block B (by simp only [drew_size, al_size]; omega) hBo.out).trans (al_old hB)); have c176 := (World.cell?_of_block (a := ⟨B, 176, none⟩) hB5.out).trans hlc; have z176 := (World.frozen?_of_block (a := ⟨B, 176, none⟩) hB5.out).trans hz; clear hown5 hgrow hat)
  all_goals
    have hoA : Old w w5 (fun b => some b = (Value.slice lb ln lc).ownBlock) := (((Old.refl w No).alloc _).drew.no).trans (grown_old hgrow'.out)
    have hBtag : ∃ c, w5.heap[B]? = some (.cells c 84 (0, 0)) := by obtain ⟨c, t⟩ := htag'.out; exact ⟨c, (hoA.block B hB hBo.out).trans t⟩
    obtain ⟨cB, tB⟩ := hBtag
    refine ⟨⟨_, _, _, _, _, _, _, _, _, _, rfl⟩, .slice (some ⟨g, 0, none⟩) (ln + 1) cap, World.cell?_setCell_same _ _ _ c176, own_setCell hown5'.out (tag_ne hown5'.out tB (by decide)), (Upto.of_old hoA hB hBo.out).setCell _ rfl, fun b hb => ?_⟩
    cases hb
    rcases hat'.out with h | h
    · exact .inl h.symm
    · right; simp only [drew_size, al_size] at h; show w.heap.size ≤ g; omega

end Go.Proofs.Ytnpgjecifllnaaa
