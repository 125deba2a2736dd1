/- What is proved here: what is taken goes into the log. Conditions: the block reads as the bus; the item's own block. -/
import Derived.Test.YtnpgjecifllnaaaState
set_option linter.unusedSimpArgs false
set_option linter.unusedVariables false
namespace Go.Proofs.Ytnpgjecifllnaaa
open Go Go.Conc Go.RowKit

theorem info35 : (Try.prog.info? 35).map (fun i => (i.zero, i.size, i.bytes)) = some (some (.agg #[.int .i64 0, .int .i64 0, .int .i64 0, .int .u64 0, .int .i64 0, .slice none 0 0, .slice none 0 0, .int .i64 0]), 8, 96) := by kernel_rfl
theorem ones8 (p i_ kd ad bt : Int) (db : Option Addr) (dn dc : Nat) (sb : Option Addr) (sn sc : Nat) (sz : Int) : ∀ u ∈ [Value.int .i64 p, Value.int .i64 i_, Value.int .i64 kd, Value.int .u64 ad, Value.int .i64 bt, Value.slice db dn dc, Value.slice sb sn sc, Value.int .i64 sz], u.oneCell' = true := by
  intro u hu
  simp at hu
  rcases hu with rfl | rfl | rfl | rfl | rfl | rfl | rfl | rfl <;> rfl
theorem own_kept {w w1 : World} {base e size : Nat} {v : Value} {n : Nat} {xs : List Value} {p : Nat → Prop} (h : w.ownsRow base e size v n xs) (ho : Old w w1 p) (hp : ∀ b, some b = v.ownBlock → ¬ p b := by exact fun _ _ h => h) : w1.ownsRow base e size v n xs := by
  refine ⟨h.1, ?_⟩
  rcases h.2 with h2 | ⟨g, cap, cur, rfl, h3, h4, h5⟩
  · exact .inl h2
  · exact .inr ⟨g, cap, cur, rfl, h3, (ho.block g (lt_of_heap h4) (hp g rfl)).trans h4, h5⟩
theorem grown_old {w w' : World} {row : Option Nat} (h : w.grownBy w' row) : Old w w' (fun b => some b = row) := ⟨h.size, h.os, h.output, fun b hb hn => h.block b hb hn⟩
theorem soft_tag {w : World} {o : Nat} {t : TypeId} (h : Soft w o) (ht : Tag w o t) : t = 5 ∨ t = 4 := by
  obtain ⟨c, t', fr, e, h5⟩ := h
  obtain ⟨c2, e2⟩ := ht
  rw [e] at e2
  cases e2
  exact h5
theorem blk14 {w : World} {b : Nat} {t : TypeId} {a0 a1 a2 a3 a4 a5 a6 a7 a8 a9 a10 a11 a12 a13 : Value} (h : w.heap[b]? = some (.cells #[a0, a1, a2, a3, a4, a5, a6, a7, a8, a9, a10, a11, a12, a13] t (0, 0))) :
    (w.cell? ⟨b, 0, none⟩ = some a0 ∧ w.cell? ⟨b, 1, none⟩ = some a1 ∧ w.cell? ⟨b, 2, none⟩ = some a2 ∧ w.cell? ⟨b, 3, none⟩ = some a3 ∧ w.cell? ⟨b, 4, none⟩ = some a4 ∧ w.cell? ⟨b, 5, none⟩ = some a5 ∧ w.cell? ⟨b, 6, none⟩ = some a6 ∧ w.cell? ⟨b, 7, none⟩ = some a7) ∧ (w.cell? ⟨b, 8, none⟩ = some a8 ∧ w.cell? ⟨b, 9, none⟩ = some a9 ∧ w.cell? ⟨b, 10, none⟩ = some a10 ∧ w.cell? ⟨b, 11, none⟩ = some a11 ∧ w.cell? ⟨b, 12, none⟩ = some a12 ∧ w.cell? ⟨b, 13, none⟩ = some a13) ∧ ∀ i, w.frozen? ⟨b, i, none⟩ = false := by
  refine ⟨⟨?_, ?_, ?_, ?_, ?_, ?_, ?_, ?_⟩, ⟨?_, ?_, ?_, ?_, ?_, ?_⟩, fun i => by simp [World.frozen?, h]⟩ <;> simp [World.cell?, h]
/-- It goes on. -/
def Norm (R : Act → World → Prop) : Exit → Act → World → Prop
  | .normal, a, w => R a w
  | _, _, _ => False
theorem Norm.out {R : Act → World → Prop} {e : Exit} {a : Act} {w : World} (h : Norm R e a w) : e = .normal ∧ R a w := by
  cases e <;> first | exact ⟨rfl, h⟩ | exact (h : False).elim
noncomputable def take4 : Code := match Try.f35.body with | some (.seq _ (.seq _ (.seq _ (.seq _ (.seq c _))))) => c | _ => .skip

/-- Behind it. -/
def Post4 (B : Nat) (p i_ kd ad bt sz : Int) (ds ss : List Value) (lb : Option Addr) (ln lc : Nat) (xs : List Value) (w w' : World) : Prop :=
  ∃ lv' db dc sb sc, w'.cell? ⟨B, 177, none⟩ = some lv' ∧ w'.ownsRow (B + 1) 35 8 lv' (ln + 1) (xs ++ (Lg.cells ⟨p, i_, kd, ad, bt, db, ds.length, dc, sb, ss.length, sc, sz⟩).toList) ∧ RdS w' (.slice db ds.length dc) ds ∧ RdS w' (.slice sb ss.length sc) ss ∧
    Upto w w' B (fun b => some b = (Value.slice lb ln lc).ownBlock) (fun j => j = 177) ∧ (∀ b, some b = lv'.ownBlock → some b = (Value.slice lb ln lc).ownBlock ∨ w.heap.size ≤ b)

set_option maxHeartbeats 4000000 in
set_option maxRecDepth 100000 in
theorem take4_wp {B T : Nat} {p i_ kd ad bt sz ag du gp gi : Int} {db sb gb : Option Addr} {dn dc sn sc gn gc : Nat} {ge : Bool} {ds ss : List Value} {lb : Option Addr} {ln lc : Nat} {xs : List Value} {w : World} {u1 u2 u3 u4 u6 u7 u8 u9 u10 u11 u12 u13 u14 u15 u16 u17 u18 u19 u20 u21 u22 u23 u24 u25 u26 u27 u28 u29 u30 u31 u32 u33 u34 u35 u36 u37 u38 u39 u40 u41 u42 u43 u44 u45 u46 u47 u48 u49 u50 u51 u52 u53 u54 u55 u56 u57 u58 u59 u60 u61 u62 u63 u64 u65 u66 u67 u68 u69 u70 u71 u72 u73 u74 u75 u76 u77 u78 u79 u80 : Value}
    (hB : B < w.heap.size) (htag : Tag w B 84) (hT : w.heap[T]? = some (.cells #[.int .i64 p, .int .i64 i_, .int .i64 kd, .int .u64 ad, .int .i64 bt, .slice db dn dc, .slice sb sn sc, .int .i64 sz, .int .i64 ag, .int .i64 du, .int .i64 gp, .int .i64 gi, .slice gb gn gc, .bool ge] 77 (0, 0))) (hd : RdS w (.slice db dn dc) ds) (hs : RdS w (.slice sb sn sc) ss) (h1 : Ones ds) (h2 : Ones ss) (hb1 : ds.length ≤ 140737488355328) (hb2 : ss.length ≤ 140737488355328)
    (hlc : w.cell? ⟨B, 177, none⟩ = some (.slice lb ln lc)) (hz : w.frozen? ⟨B, 177, none⟩ = false) (hlo : w.ownsRow (B + 1) 35 8 (.slice lb ln lc) ln xs) (hln : ln ≤ 1000000) :
    take4.wp Try.prog (Norm fun a' w' => (∃ v27 v28 v29 v30 v31 v32 v33 v34 v35 v36 v37 v38, a' = ⟨#[.pointer (some ⟨B, 0, none⟩), u1, u2, u3, u4, .pointer (some ⟨T, 0, none⟩), u6, u7, u8, u9, u10, u11, u12, u13, u14, u15, u16, u17, u18, u19, u20, u21, u22, u23, u24, u25, u26, v27, v28, v29, v30, v31, v32, v33, v34, v35, v36, v37, v38, u39, u40, u41, u42, u43, u44, u45, u46, u47, u48, u49, u50, u51, u52, u53, u54, u55, u56, u57, u58, u59, u60, u61, u62, u63, u64, u65, u66, u67, u68, u69, u70, u71, u72, u73, u74, u75, u76, u77, u78, u79, u80], []⟩) ∧ Post4 B p i_ kd ad bt sz ds ss lb ln lc xs w w') ⟨#[.pointer (some ⟨B, 0, none⟩), u1, u2, u3, u4, .pointer (some ⟨T, 0, none⟩), u6, u7, u8, u9, u10, u11, u12, u13, u14, u15, u16, u17, u18, u19, u20, u21, u22, u23, u24, u25, u26, u27, u28, u29, u30, u31, u32, u33, u34, u35, u36, u37, u38, u39, u40, u41, u42, u43, u44, u45, u46, u47, u48, u49, u50, u51, u52, u53, u54, u55, u56, u57, u58, u59, u60, u61, u62, u63, u64, u65, u66, u67, u68, u69, u70, u71, u72, u73, u74, u75, u76, u77, u78, u79, u80], []⟩ w := by
  have hcp : Hid (∀ w1, Old w w1 No → Calls Try.prog 33 #[askV p i_ kd ad bt (.slice db dn dc) (.slice sb sn sc) sz] w1 (RetCopy p i_ kd ad bt sz ds ss w1)) := fun w1 ho =>
    copied_calls (hd.1.on ho (fun _ _ _ _ _ _ h => h)) (hs.1.on ho (fun _ _ _ _ _ _ h => h)) h1 h2 hb1 hb2
  obtain ⟨i35, hi, hzr, hs35, hb35⟩ := info_parts info35
  obtain ⟨⟨e0, e1, e2, e3, e4, e5, e6, e7⟩, _, fT⟩ := blk14 hT
  have hT' := Lib.hid hT
  have htag' := Lib.hid htag
  have hlo' := Lib.hid hlo
  clear hd hs h1 h2 hb1 hb2 hT hlo htag fT
  simp only [take4, Try.f35]
  have hS : Hid (∀ w1 : World, w1.heap[T]? = w.heap[T]? → (w1.cell? ⟨T, 0, none⟩ = some (.int .i64 p) ∧ w1.cell? ⟨T, 1, none⟩ = some (.int .i64 i_) ∧ w1.cell? ⟨T, 2, none⟩ = some (.int .i64 kd) ∧ w1.cell? ⟨T, 3, none⟩ = some (.int .u64 ad) ∧ w1.cell? ⟨T, 4, none⟩ = some (.int .i64 bt) ∧ w1.cell? ⟨T, 5, none⟩ = some (.slice db dn dc) ∧ w1.cell? ⟨T, 6, none⟩ = some (.slice sb sn sc) ∧ w1.cell? ⟨T, 7, none⟩ = some (.int .i64 sz))) := fun w1 h => (blk14 (h.trans hT'.out)).1
  have hTlt := lt_of_heap hT'.out
  have hTB : Hid (T ≠ B) := fun e => by obtain ⟨c, t⟩ := htag'.out; rw [← e, hT'.out] at t; cases t
  have hTo : Hid (some T ≠ (Value.slice lb ln lc).ownBlock) := tag_ne hlo'.out hT'.out (by decide)
  have hBo : Hid (some B ≠ (Value.slice lb ln lc).ownBlock) := by obtain ⟨c, t⟩ := htag'.out; exact tag_ne hlo'.out t (by decide)
  go_region_law (first
    | (refine step_append_lies _ rfl (.tmp 31) (.tmp 35) 22 rfl (B + 1) 35 i35 _ 8 96 Try.underlying22 hi hzr hs35 hb35 rfl (by decide) (.slice lb ln lc) ln xs (by simp [Act.eval, Act.put]) (by exact hlo3.out.alloc _) ⟨w3.heap.size, 0, none⟩ 1 1 [Value.int .i64 p, Value.int .i64 i_, Value.int .i64 kd, Value.int .u64 ad, Value.int .i64 bt, Value.slice bd ds.length cd, Value.slice bs2 ss.length cs2, Value.int .i64 sz] (by simp [Act.eval, Act.put]) rfl (World.news_of_block al_new) (ones8 _ _ _ _ _ _ _ _ _ _ _ _) (by decide) (by unfold maxLen; omega) (by omega) (by simp; omega) _ rfl ?_; intro g cap w5 hown5 hgrow hat hg5; have hown5' := Lib.hid hown5; have hgrow' := Lib.hid hgrow; have hat' := Lib.hid hat; have hB5 := Lib.hid ((hgrow.block B (by rw [al_size]; omega) hBo.out).trans (al_old hlB3)); have c177 := (World.cell?_of_block (a := ⟨B, 177, none⟩) hB5.out).trans c177; have z177 := (World.frozen?_of_block (a := ⟨B, 177, none⟩) hB5.out).trans z177; clear hown5 hgrow hat)
    | (go_simp; go_at_call 33; refine (hcp.out _ (by exact (Old.refl w No).drew)).mono ?_; rintro e w3 ⟨dv, sv2, rfl, hrd, hrs, ho3⟩; obtain ⟨⟨bd, cd, rfl, hxd⟩, hyd⟩ := hrd; obtain ⟨⟨bs2, cs2, rfl, hxs⟩, hys⟩ := hrs; have hrd' := Lib.hid (show RdS w3 (.slice bd ds.length cd) ds from ⟨⟨bd, cd, rfl, hxd⟩, hyd⟩); have hrs' := Lib.hid (show RdS w3 (.slice bs2 ss.length cs2) ss from ⟨⟨bs2, cs2, rfl, hxs⟩, hys⟩); clear hxd hyd hxs hys; have ho3' := Lib.hid ((Old.refl w No).drew.trans ho3); have hlo3 := Lib.hid (own_kept hlo'.out ho3'.out); have hlB3 := Nat.lt_of_lt_of_le hB ho3'.out.size; have c177 := (ho3'.out.cell (o := 177) hB (fun h => h)).trans hlc; have z177 := (World.frozen?_of_block (a := ⟨B, 177, none⟩) (ho3'.out.block B hB (fun h => h))).trans hz; clear ho3))
  all_goals
    have hoA : Old w w5 (fun b => some b = (Value.slice lb ln lc).ownBlock) := ((ho3'.out.alloc _).no).trans (grown_old hgrow'.out)
    have hoB : Old w3 w5 (fun b => some b = (Value.slice lb ln lc).ownBlock) := (((Old.refl w3 No).alloc _).no).trans (grown_old hgrow'.out)
    have hBtag : ∃ c, w5.heap[B]? = some (.cells c 84 (0, 0)) := by obtain ⟨c, t⟩ := htag'.out; exact ⟨c, (hoA.block B hB hBo.out).trans t⟩
    have hsoft : ∀ o, Soft w3 o → ¬ (o = B ∨ some o = (Value.slice lb ln lc).ownBlock) := fun o hso => by
      rintro (rfl | h)
      · obtain ⟨c, t⟩ := htag'.out
        rcases soft_tag hso ⟨c, (ho3'.out.block o hB (fun h => h)).trans t⟩ with h | h <;> cases h
      · rcases soft_tag hso (own_tag hlo3.out h.symm) with h | h <;> cases h
    have hoC : Old w3 (w5.setCell ⟨B, 177, none⟩ (Value.slice (some ⟨g, 0, none⟩) (ln + 1) cap)) (fun b => b = B ∨ some b = (Value.slice lb ln lc).ownBlock) := (hoB.weak fun b _ h => .inr h).setCell _ (.inr (.inl rfl))
    obtain ⟨cB, tB⟩ := hBtag
    refine ⟨⟨_, _, _, _, _, _, _, _, _, _, _, _, rfl⟩, .slice (some ⟨g, 0, none⟩) (ln + 1) cap, bd, cd, bs2, cs2, World.cell?_setCell_same _ _ _ c177, own_setCell hown5'.out (tag_ne hown5'.out tB (by decide)), hrd'.out.on hoC hsoft, hrs'.out.on hoC hsoft, (Upto.of_old hoA hB hBo.out).setCell _ rfl, fun b hb => ?_⟩
    cases hb
    rcases hat'.out with h | h
    · exact .inl h.symm
    · right; have h2 := ho3'.out.size; have h3 : g = w3.heap.size + 1 := h.trans al_size; show w.heap.size ≤ g; omega
end Go.Proofs.Ytnpgjecifllnaaa
