/- What is proved here: what is taken from a ring. Conditions: the block reads as the ring; it is none that is empty. -/
import Derived.Test.YtnpgjecifllnaaaPop1
set_option linter.unusedSimpArgs false
set_option linter.unusedVariables false
namespace Go.Proofs.Ytnpgjecifllnaaa
open Go Go.Conc Go.RowKit

theorem setCells_size (g : Nat) : ∀ (vs : List Value) (o : Nat) (w : World), (w.setCells g o vs).heap.size = w.heap.size
  | [], _, _ => rfl
  | v :: vs, o, w => by rw [World.setCells, setCells_size g vs (o + 1) _, World.size_setCell]
theorem setCells_far {w w1 : World} {B lo hi g o : Nat} (h : Upon w w1 B lo hi) (vs : List Value) (hg : w.heap.size ≤ g) (hB : B < w.heap.size) : Upon w (w1.setCells g o vs) B lo hi := by
  have hne : B ≠ g := by omega
  have hb : (w1.setCells g o vs).heap[B]? = w1.heap[B]? := World.heap_setCells_other _ _ _ _ (Nat.lt_of_lt_of_le hB h.old.size) hne
  refine ⟨⟨?_, ?_, ?_, fun b hb hn => ?_⟩, fun j hj => (World.cell?_of_block hb).trans (h.cell j hj), fun o' n ht j hj => ?_, fun t ht => ?_⟩
  · rw [setCells_size]; exact h.old.size
  · rw [World.os_setCells]; exact h.old.os
  · rw [World.output_setCells]; exact h.old.output
  · rw [World.heap_setCells_other _ _ _ _ (Nat.lt_of_lt_of_le hb h.old.size) (by omega)]
    exact h.old.block b hb hn
  · rw [World.cell?_of_block hb, World.frozen?_of_block hb]
    exact h.there o' n ht j hj
  · obtain ⟨c, e⟩ := h.tag t ht
    exact ⟨c, hb.trans e⟩
theorem there_new {w : World} {c : Array Value} {t : TypeId} {n : Nat} (hn : n ≤ c.size) : (w.alloc (.cells c t (0, 0))).there w.heap.size 0 n := by
  intro j hj
  have h : (w.alloc (.cells c t (0, 0))).heap[w.heap.size]? = some (.cells c t (0, 0)) := al_new
  simp only [World.cell?, World.frozen?, h, Nat.zero_add]
  simp
  omega
theorem there_old {w w1 : World} {g o n : Nat} {p : Nat → Prop} (h : w.there g o n) (ho : Old w w1 p) (hg : g < w.heap.size) (hp : ¬ p g) : w1.there g o n := fun j hj => by
  rw [World.cell?_of_block (ho.block g hg hp), World.frozen?_of_block (ho.block g hg hp)]
  exact h j hj

structure TwoSet (w4 w5 : World) (B o1 o2 : Nat) (a b : Value) : Prop where
  r : ∀ o' cs, w4.rangeAt B o' cs → o' + cs.length ≤ o1 → o' + cs.length ≤ o2 → w5.rangeAt B o' cs
  c1 : w5.cell? ⟨B, o1, Option.none⟩ = some a
  c2 : w5.cell? ⟨B, o2, Option.none⟩ = some b
  u : ∀ w lo hi, Upon w w4 B lo hi → lo ≤ o1 → o1 < hi → lo ≤ o2 → o2 < hi → Upon w w5 B lo hi
  t : ∀ g o n, g ≠ B → w4.there g o n → w5.there g o n
  rg : ∀ g o cs, g ≠ B → w4.rangeAt g o cs → w5.rangeAt g o cs
theorem two_set {w4 : World} {B o1 o2 : Nat} {a b x y : Value} (h1 : w4.cell? ⟨B, o1, Option.none⟩ = some x) (h2 : w4.cell? ⟨B, o2, Option.none⟩ = some y) (hne : o1 ≠ o2) : TwoSet w4 ((w4.setCell ⟨B, o1, Option.none⟩ a).setCell ⟨B, o2, Option.none⟩ b).drew B o1 o2 a b := by
  have hs2 : (w4.setCell ⟨B, o1, Option.none⟩ a).cell? ⟨B, o2, Option.none⟩ = some y := by rw [World.cell?_setCell_other _ _ _ _ (by intro e; cases e; exact hne rfl)]; exact h2
  refine ⟨fun o' cs h l1 l2 => ?_, ?_, ?_, fun w lo hi h a1 a2 a3 a4 => ?_, fun g o n hg h => ?_, fun g o cs hg h => ?_⟩
  · exact World.rangeAt_setCells_apart (World.rangeAt_setCells_apart h B o1 [a] (.inr (.inl l1))) B o2 [b] (.inr (.inl l2))
  · show ((w4.setCell ⟨B, o1, Option.none⟩ a).setCell ⟨B, o2, Option.none⟩ b).cell? _ = _
    rw [World.cell?_setCell_other _ _ _ _ (by intro e; cases e; exact hne rfl)]
    exact World.cell?_setCell_same _ _ _ h1
  · exact World.cell?_setCell_same _ _ _ hs2
  · have h := (h.setCell a a1 a2).setCell b a3 a4
    exact ⟨h.old.drew, h.cell, h.there, h.tag⟩
  · exact World.there_setCells (World.there_setCells h B o1 [a]) B o2 [b]
  · exact World.rangeAt_setCells_apart (World.rangeAt_setCells_apart h B o1 [a] (.inl hg)) B o2 [b] (.inl hg)

theorem run_results46 {tmps : Array Value} {w : World} {g : Nat} {x : It} (h : w.rangeAt g 0 x.cells.toList) (ht : tmps.getD 2 undef = .pointer (some ⟨g, 0, Option.none⟩) := by rfl) : (results Try.f46 tmps).run Try.prog w = .ok (.agg x.cells) w := by
  have hl := run_loadVar_mid w g 0 77 x.cells.toList _ h Try.underlying77 rfl (by rw [size77]; simp [It.size_cells])
  have ht2 : tmps[2]?.getD undef = .pointer (some ⟨g, 0, Option.none⟩) := by simpa using ht
  simp only [Array.toArray_toList] at hl
  unfold results
  rw [Try.results46]
  simp [ht2, asAddr, hl]
theorem wpList_val {P : Program} {ops : Array Oper} {rest : List Oper} {o : Oper} {a : Act} {w w' : World} {Q : Exit → Act → World → Prop} (hgd : o.guard = Option.none) (v : Value) (hr : (execOp a.eval o).run P w = .ok (.value v) w') (h : wpList P ops Q rest (a.put o.dst v) w') : wpList P ops Q (o :: rest) a w :=
  wpList_plain hgd fun _ hK => by
    unfold Oper.wp
    rw [hr]
    exact hK _ _ h

theorem wrapN (n : Nat) (h : n ≤ 100) : IntKind.i64.wrap ((n : Nat) : Int) = ((n : Nat) : Int) := by rw [IntKind.wrap_i64]; omega
theorem remHd (hd k1 : Nat) (hd4 : hd < 4) (hk1 : (hd + 1) % 4 = k1) : (IntKind.i64.wrap (((hd : Nat) : Int) + 1)).tmod 4 = ((k1 : Nat) : Int) := by
  have h : IntKind.i64.wrap (((hd : Nat) : Int) + 1) = ((hd : Nat) : Int) + 1 := by rw [IntKind.wrap_i64]; omega
  rw [h, Int.tmod_eq_emod_of_nonneg (by omega)]
  omega
def RetPop (B off hd : Nat) (x : It) (q : List It) (w : World) (e : Ending) (w' : World) : Prop := e = .returned (.agg x.cells) ∧ Ring w' B off ((hd + 1) % 4) q ∧ Upon w w' B off (off + 58)

set_option maxHeartbeats 1000000 in
set_option maxRecDepth 100000 in
theorem pop_calls {B off hd : Nat} {q : List It} {x : It} {w : World} (hB : B < w.heap.size) (hr : Ring w B off hd (x :: q)) :
    Calls Try.prog 46 #[.pointer (some ⟨B, off, none⟩)] w (RetPop B off hd x q w) := by
  have hd4 := hr.hd4
  have hr' := Lib.hid hr
  have hB' := Lib.hid hB
  have hz : ∀ w1 : World, w1.heap = w.heap → True := fun _ _ => trivial
  clear hr hB hz
  go_enter Try.func46, Try.ntmps46
  go_wp2_with fail
  have hA : Hid (Old w (w.alloc (.cells #[.int .i64 0, .int .i64 0, .int .i64 0, .int .u64 0, .int .i64 0, .slice none 0 0, .slice none 0 0, .int .i64 0, .int .i64 0, .int .i64 0, .int .i64 0, .int .i64 0, .slice none 0 0, .bool false] 77)) No) := (Old.refl w No).alloc _
  have hRn : Hid ((w.alloc (.cells #[.int .i64 0, .int .i64 0, .int .i64 0, .int .u64 0, .int .i64 0, .slice none 0 0, .slice none 0 0, .int .i64 0, .int .i64 0, .int .i64 0, .int .i64 0, .int .i64 0, .slice none 0 0, .bool false] 77)).there w.heap.size 0 14) := there_new (by simp)
  have hsz : Hid ((w.alloc (.cells #[.int .i64 0, .int .i64 0, .int .i64 0, .int .u64 0, .int .i64 0, .slice none 0 0, .slice none 0 0, .int .i64 0, .int .i64 0, .int .i64 0, .int .i64 0, .int .i64 0, .slice none 0 0, .bool false] 77)).heap.size = w.heap.size + 1) := al_size
  generalize w.alloc (.cells #[.int .i64 0, .int .i64 0, .int .i64 0, .int .u64 0, .int .i64 0, .slice none 0 0, .slice none 0 0, .int .i64 0, .int .i64 0, .int .i64 0, .int .i64 0, .int .i64 0, .slice none 0 0, .bool false] 77) = wA at hA hRn hsz ⊢
  have hrA : Hid (Ring wA B off hd (x :: q)) := hr'.out.on hA.out hB'.out (fun h => h)
  have hBA : Hid (B < wA.heap.size) := Nat.lt_of_lt_of_le hB'.out hA.out.size
  refine Code.wp_mono ?_ (pop1_wp (R := w.heap.size) (T := 0) (x := x) hBA.out hd4 hrA.out.head (by have h := hrA.out.item 0 x rfl; rw [Nat.add_zero, Nat.mod_eq_of_lt hd4] at h; exact h))
  rintro e a' w2 ⟨rfl, rfl, hw2⟩
  rw [hsz.out]
  have hU2 : Hid (Upon w w2 B off (off + 58)) := by
    rw [hw2]; exact Upon.of_old (hA.out.trans ((Old.refl wA No).alloc _).drew) hB'.out
  have hr2 : Hid (Ring w2 B off hd (x :: q)) := by rw [hw2]; exact hrA.out.on ((Old.refl wA No).alloc _).drew hBA.out (fun h => h)
  have hT : Hid (w2.rangeAt (w.heap.size + 1) 0 x.cells.toList) := by rw [hw2, ← hsz.out]; exact range_new
  have hR2 : Hid (w2.there w.heap.size 0 14) := by rw [hw2]; exact there_old hRn.out ((Old.refl wA No).alloc _).drew (by rw [hsz.out]; omega) (fun h => h)
  clear hw2 hrA hBA hRn hsz hA
  go_wp2_with fail
  refine wp_region_still_tail 9 (by kernel_rfl) (by kernel_rfl) ?_
  simp only [List.take_succ_cons, List.take_zero, List.drop_succ_cons, List.drop_zero]
  have hc1 := hr2.out.head
  refine still_val (.pointer (some ⟨B, off, none⟩)) rfl (fun w hC => by go_simp) ?_
  walk_nrm
  refine still_val (.pointer (some ⟨B, off, none⟩)) rfl (fun w hC => by go_simp) ?_
  walk_nrm
  refine still_val (.pointer (some ⟨B, off, none⟩)) rfl (fun w hC => by go_simp) ?_
  walk_nrm
  refine still_val (.pointer (some ⟨B, (off + 56), none⟩)) rfl (fun w hC => by go_simp) ?_
  walk_nrm
  refine still_val (.int .i64 ((hd : Nat) : Int)) rfl (fun w hC => run_load_cell (d := .int .i64) rfl rfl Try.underlying3 rfl (hC ▸ hc1)) ?_
  walk_nrm
  refine still_val (.agg It.none.cells) rfl (fun w hC => hbuild77 w rfl) ?_
  walk_nrm
  refine still_val (.pointer (some ⟨B, off, none⟩)) rfl (fun w hC => by go_simp) ?_
  walk_nrm
  refine still_val (.pointer (some ⟨B, off, none⟩)) rfl (fun w hC => by go_simp) ?_
  walk_nrm
  refine still_val (.pointer (some ⟨B, (off + hd * 14), none⟩)) rfl (fun w hC => run_index78 rfl rfl rfl hd4) ?_
  walk_nrm
  refine wpStill_nil ?_
  clear hc1
  have hroom : Hid (∀ j, j < 14 → (w2.cell? ⟨B, off + hd * 14 + j, none⟩).isSome = true ∧ w2.frozen? ⟨B, off + hd * 14 + j, none⟩ = false) := fun j hj => by have h := hr2.out.room (hd * 14 + j) (by omega); rw [← Nat.add_assoc] at h; exact h
  refine wpList_store_mid rfl 77 _ _ rfl B (off + hd * 14) It.none.cells rfl rfl (fun j hj => hroom.out j (by rw [It.size_cells] at hj; exact hj)) (by rw [size77]; rfl) It.none.one ?_
  obtain ⟨w4, hw4⟩ : ∃ w4, w4 = w2.drew.setCells B (off + hd * 14) It.none.cells.toList := ⟨_, rfl⟩
  have hW4 : { w2 with drawn := w2.drawn + 1 }.setCells B (off + hd * 14) It.none.cells.toList = w4 := hw4.symm
  rw [hW4]
  have hlen0 : It.none.cells.toList.length = 14 := by simp [It.size_cells]
  have hU2d : Upon w w2.drew B off (off + 58) := ⟨hU2.out.old.drew, hU2.out.cell, hU2.out.there, hU2.out.tag⟩
  have hU4 : Hid (Upon w w4 B off (off + 58)) := by rw [hw4]; exact Upon.setCells _ _ _ hU2d (by omega) (by rw [hlen0]; omega)
  have hcell4 : Hid (∀ j, off + 56 ≤ j → w4.cell? ⟨B, j, none⟩ = w2.cell? ⟨B, j, none⟩) := fun j hj => by rw [hw4, World.cell?_setCells_out _ _ _ _ _ (fun _ _ => by right; rw [hlen0]; show off + hd * 14 + 14 ≤ j; omega)]; rfl
  have hitem4 : Hid (∀ j y, q[j]? = some y → w4.rangeAt B (off + (hd + (j + 1)) % 4 * 14) y.cells.toList) := by
    intro j y hj
    have h := hr2.out.item (j + 1) y (by simpa using hj)
    have hl := hr2.out.len
    have hjl := (List.getElem?_eq_some_iff.1 hj).1
    simp only [List.length_cons] at hl
    rw [hw4]
    refine World.rangeAt_setCells_apart (w := w2.drew) h B (off + hd * 14) _ (.inr ?_)
    rw [hlen0]
    simp only [Array.length_toList, It.size_cells]
    rcases Nat.lt_or_ge ((hd + (j + 1)) % 4) hd with h | h
    · left; omega
    · right
      have : (hd + (j + 1)) % 4 ≠ hd := by omega
      omega
  have hT4 : Hid (w4.rangeAt (w.heap.size + 1) 0 x.cells.toList) := by rw [hw4]; exact World.rangeAt_setCells_apart (w := w2.drew) hT.out B _ _ (.inl (by have := hB'.out; omega))
  have hR4 : Hid (w4.there w.heap.size 0 14) := by rw [hw4]; exact World.there_setCells (w := w2.drew) hR2.out B _ _
  have hroom4 : Hid (w4.there B off 58) := by rw [hw4]; exact World.there_setCells (w := w2.drew) hr2.out.room B _ _
  obtain ⟨n, hn0⟩ : ∃ n, q.length = n := ⟨_, rfl⟩
  have hn' := Lib.hid hn0
  have c56 : w4.cell? ⟨B, off + 56, none⟩ = some (.int .i64 ((hd : Nat) : Int)) := (hcell4.out _ (by omega)).trans hr2.out.head
  have c57 : w4.cell? ⟨B, off + 57, none⟩ = some (.int .i64 ((n : Int) + 1)) := by
    have h := hr2.out.num
    rw [List.length_cons, hn0] at h
    rw [hcell4.out _ (by omega), h]
    rfl
  have z56 : w4.frozen? ⟨B, off + 56, none⟩ = false := (hroom4.out 56 (by omega)).2
  have z57 : w4.frozen? ⟨B, off + 57, none⟩ = false := (hroom4.out 57 (by omega)).2
  have hn3 : n ≤ 3 := by have := hr2.out.len; rw [List.length_cons, hn0] at this; omega
  clear hW4 hw4 hn0 hU2d hroom hU2 hr2 hT hR2
  obtain ⟨k1, hk1⟩ : ∃ k1, (hd + 1) % 4 = k1 := ⟨_, rfl⟩
  have hk1' := Lib.hid hk1
  clear hk1
  have fin : Hid (∀ w5 : World, (∀ o' cs, w4.rangeAt B o' cs → o' + cs.length ≤ off + 56 → w5.rangeAt B o' cs) → w5.cell? ⟨B, off + 56, none⟩ = some (.int .i64 ((k1 : Nat) : Int)) → w5.cell? ⟨B, off + 57, none⟩ = some (.int .i64 ((n : Nat) : Int)) → Upon w w5 B off (off + 58) → (∀ g o n', g ≠ B → w4.there g o n' → w5.there g o n') → (∀ g o cs, g ≠ B → w4.rangeAt g o cs → w5.rangeAt g o cs) →
      w5.rangeAt (w.heap.size + 1) 0 x.cells.toList ∧ w5.there w.heap.size 0 14 ∧ Ring (w5.setCells w.heap.size 0 x.cells.toList) B off ((hd + 1) % 4) q ∧ Upon w (w5.setCells w.heap.size 0 x.cells.toList) B off (off + 58)) := by
    intro w5 h1 h2 h3 h4 h5 h6
    have hBw := hB'.out
    have hU6 := setCells_far (o := 0) h4 x.cells.toList (Nat.le_refl _) hBw
    have hb : (w5.setCells w.heap.size 0 x.cells.toList).heap[B]? = w5.heap[B]? := World.heap_setCells_other _ _ _ _ (Nat.lt_of_lt_of_le hBw h4.old.size) (by omega)
    generalize w5.setCells w.heap.size 0 x.cells.toList = w6 at hU6 hb ⊢
    refine ⟨h6 _ _ _ (by omega) hT4.out, h5 _ _ _ (by omega) hR4.out, ⟨Nat.mod_lt _ (by omega), by rw [hn'.out]; omega, ?_, ?_, fun j y hj => ?_, hU6.there _ _ hr'.out.room⟩, hU6⟩
    · rw [hk1'.out]; exact (World.cell?_of_block hb).trans h2
    · rw [hn'.out]; exact (World.cell?_of_block hb).trans h3
    · have h := h1 _ _ (hitem4.out j y hj) (by simp only [Array.length_toList, It.size_cells]; omega)
      rw [show ((hd + 1) % 4 + j) % 4 = (hd + (j + 1)) % 4 by omega]
      exact range_at h hb
  clear hitem4 hroom4 hcell4
  have s3 := wrapN n (by omega)
  have s2 := remHd hd k1 hd4 hk1'.out
  go_wp2_with fail
  go_region
  all_goals
    rename_i K hK
    refine hK _ _ ?_
    clear hK
    refine wp_seq ?_
    refine wp_region_list ?_
    simp only [List.toList_toArray]
  · have S := two_set (a := .int .i64 ((k1 : Nat) : Int)) (b := .int .i64 ((n : Nat) : Int)) c56 c57 (by omega)
    generalize hw5 : World.drew _ = w5 at S ⊢
    clear hw5
    obtain ⟨hT5, hR5, hring, hU6⟩ := fin.out w5 (fun o' cs h hle => S.r o' cs h (by omega) (by omega)) S.c1 S.c2 (S.u w off (off + 58) hU4.out (by omega) (by omega) (by omega) (by omega)) S.t S.rg
    refine wpList_val rfl (.agg x.cells) (run_load_row77 rfl rfl hT5) ?_
    refine wpList_store_mid rfl 77 _ _ rfl w.heap.size 0 x.cells rfl rfl (by rw [It.size_cells]; exact hR5) (by rw [size77]; rfl) x.one ?_
    have hres : (w5.setCells w.heap.size 0 x.cells.toList).rangeAt w.heap.size 0 x.cells.toList := World.rangeAt_setCells_same _ _ _ _ (by simpa [It.size_cells] using hR5)
    generalize w5.setCells w.heap.size 0 x.cells.toList = w6 at hring hU6 hres ⊢
    refine wp_ret ?_
    exact bodyPost_ret (v := .agg x.cells) (run_results46 hres) rfl ⟨rfl, hring, hU6⟩
  · have S := two_set (a := .int .i64 ((k1 : Nat) : Int)) (b := .int .i64 ((n : Nat) : Int)) c56 c57 (by omega)
    generalize hw5 : World.drew _ = w5 at S ⊢
    clear hw5
    obtain ⟨hT5, hR5, hring, hU6⟩ := fin.out w5 (fun o' cs h hle => S.r o' cs h (by omega) (by omega)) S.c1 S.c2 (S.u w off (off + 58) hU4.out (by omega) (by omega) (by omega) (by omega)) S.t S.rg
    refine wpList_val rfl (.agg x.cells) (run_load_row77 rfl rfl hT5) ?_
    refine wpList_store_mid rfl 77 _ _ rfl w.heap.size 0 x.cells rfl rfl (by rw [It.size_cells]; exact hR5) (by rw [size77]; rfl) x.one ?_
    have hres : (w5.setCells w.heap.size 0 x.cells.toList).rangeAt w.heap.size 0 x.cells.toList := World.rangeAt_setCells_same _ _ _ _ (by simpa [It.size_cells] using hR5)
    generalize w5.setCells w.heap.size 0 x.cells.toList = w6 at hring hU6 hres ⊢
    refine wp_ret ?_
    exact bodyPost_ret (v := .agg x.cells) (run_results46 hres) rfl ⟨rfl, hring, hU6⟩
end Go.Proofs.Ytnpgjecifllnaaa
