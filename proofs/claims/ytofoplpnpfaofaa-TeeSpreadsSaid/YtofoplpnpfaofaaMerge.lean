/- What is proved here: Merge, alone. Conditions: its lists read as records, their cells of the fields' kinds; few of them. -/
import Derived.Test.YtofoplpnpfaofaaUntil
import Derived.Deep.AppendLies
import Derived.Deep.RegionLaw
import Derived.BigQuiet
set_option linter.unusedSimpArgs false
set_option linter.unusedVariables false
namespace Go.Proofs.Ytofoplpnpfaofaa
open Go Go.Conc Go.RowKit

def cyOf : Value → Int
  | .agg cells => match cells[0]? with
    | some (Value.int _ a) => a
    | _ => 0
  | _ => 0
/-- The records of two lists, by rising cycles. -/
def mrg : List Value → List Value → List Value
  | [], bs => bs
  | a :: us, [] => a :: us
  | a :: us, b :: bs => if cyOf a ≤ cyOf b then a :: mrg us (b :: bs) else b :: mrg (a :: us) bs
termination_by us bs => us.length + bs.length

theorem mrg_nil (us : List Value) : mrg us [] = us := by cases us <;> simp [mrg]
theorem mrg_len (us ts : List Value) : (mrg us ts).length = us.length + ts.length := by
  fun_induction mrg us ts <;> simp_all <;> omega
theorem mrg_mem {us ts : List Value} {v : Value} (h : v ∈ mrg us ts) : v ∈ us ∨ v ∈ ts := by
  fun_induction mrg us ts <;> simp_all <;> grind

/-- A slice that reads as this list. -/
structure SliceOf (w : World) (v : Value) (l : List Value) : Prop where
  is : ∃ base cap, v = .slice base l.length cap ∧ l.length ≤ cap ∧ RowAt w base l ∧ (base = none ∨ ∃ g o, base = some ⟨g, o, none⟩)

def lenV : Value → Nat
  | .slice _ n _ => n
  | _ => 0

structure Mid13 (us ts : List Value) (w : World) (ls1 ls2 ms : List Value) (v5 : Value) (wr : World) : Prop where
  eq : mrg us ts = ms ++ mrg ls1 ls2
  len : us.length + ts.length = ms.length + ls1.length + ls2.length
  ra : ∀ v ∈ ls1, RecT v
  rb : ∀ v ∈ ls2, RecT v
  rm : ∀ v ∈ ms, RecT v
  old : Old w wr (fun _ => False)
  own : wr.ownsRow w.heap.size 27 12 v5 ms.length (cellsOf ms)
def At13 (us ts : List Value) (w : World) (v0 v1 v5 : Value) (wr : World) : Prop := ∃ ls1 ls2 ms, SliceOf w v0 ls1 ∧ SliceOf w v1 ls2 ∧ Mid13 us ts w ls1 ls2 ms v5 wr

theorem RowAt.tail {w : World} {o q : Nat} {x : Value} {l : List Value} (h : RowAt w (some ⟨o, q, none⟩) (x :: l)) : RowAt w (some ⟨o, q + 12, none⟩) l := by
  intro i v hi
  obtain ⟨o', q', e, hb, hr⟩ := h (i + 1) v (by simpa using hi)
  cases e
  exact ⟨o, q + 12, rfl, hb, by rw [show q + 12 + i * 12 = q + (i + 1) * 12 by omega]; exact hr⟩
theorem RowAt.nil {w : World} {b : Option Addr} : RowAt w b [] := fun i v hi => by simp at hi

theorem cellsOf_append (us ts : List Value) : cellsOf (us ++ ts) = cellsOf us ++ cellsOf ts := by simp [cellsOf, List.flatMap_append]

/-- One more is behind the others. -/
theorem mid_step {us ts : List Value} {w : World} {ls1 ls2 ls1' ls2' ms : List Value} {v5 v5' : Value} {wr w2 w1 : World} {x : Value} {o : Obj} {cells : List Value} (h : Mid13 us ts w ls1 ls2 ms v5 wr) (he : mrg ls1 ls2 = x :: mrg ls1' ls2') (hlen : ls1.length + ls2.length = ls1'.length + ls2'.length + 1) (hx : RecT x)
    (ha : ∀ v ∈ ls1', v ∈ ls1) (hb : ∀ v ∈ ls2', v ∈ ls2) (hz2 : w2.heap = wr.heap) (hzo2 : w2.os = wr.os) (hzp2 : w2.output = wr.output) (hg2 : (w2.alloc o).drew.grownBy w1 v5.ownBlock) (hcells : x.cells.toList = cells) (hown : w1.ownsRow w.heap.size 27 12 v5' (ms.length + 1) (cellsOf ms ++ cells)) : Mid13 us ts w ls1' ls2' (ms ++ [x]) v5' w1 := by
  have hz : (w2.alloc o).drew.heap = wr.heap.push o := by show w2.heap.push o = _; rw [hz2]
  have hzo : (w2.alloc o).drew.os = wr.os := hzo2
  have hzp : (w2.alloc o).drew.output = wr.output := hzp2
  generalize (w2.alloc o).drew = wz at hz hzo hzp hg2
  have hg := hg2
  refine ⟨by rw [h.eq, he]; simp, by have := h.len; simp; omega, fun v hv => h.ra v (ha v hv), fun v hv => h.rb v (hb v hv), fun v hv => ?_, ?_, ?_⟩
  · rcases List.mem_append.1 hv with hv | hv
    · exact h.rm v hv
    · rw [List.mem_singleton.1 hv]; exact hx
  · have hs := h.old.size
    have hsz : wz.heap.size = wr.heap.size + 1 := by rw [hz]; simp
    refine ⟨by have := hg.size; omega, (hg.os.trans hzo).trans h.old.os, (hg.output.trans hzp).trans h.old.output, fun b hb _ => ?_⟩
    rw [hg.block b (by omega) ?_, hz, Array.getElem?_push_lt (by omega), ← Array.getElem?_eq_getElem (by omega)]
    · exact h.old.block b hb id
    · rcases h.own.2 with ⟨e, _⟩ | ⟨g, cap, cur, e, hge, _⟩
      · rw [e]; simp [Value.ownBlock]
      · rw [e]; simp [Value.ownBlock]; omega
  · rw [cellsOf_append, List.length_append]
    have : cellsOf [x] = cells := by rw [← hcells]; simp [cellsOf]
    rw [this]
    exact hown

def RetMrg (us ts : List Value) (w : World) (e : Ending) (w' : World) : Prop := ∃ v, e = .returned v ∧ Rows w' v (mrg us ts) ∧ Old w w' (fun _ => False)

set_option maxHeartbeats 1000000 in
set_option maxRecDepth 100000 in
theorem merge_calls {b1 b2 : Option Addr} {n1 n2 c1 c2 : Nat} {us ts : List Value} {w : World} (hl1 : us.length = n1) (hl2 : ts.length = n2) (hc1 : n1 ≤ c1) (hc2 : n2 ≤ c2) (h1 : RowAt w b1 us) (h2 : RowAt w b2 ts) (hb1 : b1 = none ∨ ∃ g o, b1 = some ⟨g, o, none⟩) (hb2 : b2 = none ∨ ∃ g o, b2 = some ⟨g, o, none⟩)
    (hva : ∀ v ∈ us, RecT v) (hvb : ∀ v ∈ ts, RecT v) (hfew : us.length + ts.length ≤ 1000) :
    Calls Try.prog 13 #[.slice b1 n1 c1, .slice b2 n2 c2] w (RetMrg us ts w) := by
  obtain ⟨i27, hi, hz, hs27, hb27⟩ := info_parts info27
  have hstart : At13 us ts w (.slice b1 n1 c1) (.slice b2 n2 c2) (.slice none 0 0) w :=
    ⟨us, ts, [], ⟨b1, c1, by rw [hl1], by omega, h1, hb1⟩, ⟨b2, c2, by rw [hl2], by omega, h2, hb2⟩, ⟨rfl, by simp, hva, hvb, by simp, Old.refl _ _, rfl, .inl ⟨rfl, rfl⟩⟩⟩
  have hst := Lib.hid hstart
  have hfew' := Lib.hid hfew
  clear hstart hl1 hl2 hc1 hc2 h1 h2 hb1 hb2 hva hvb hfew
  go_enter Try.func13, Try.ntmps13
  go_wp2
  go_loopw [0, 1, 5] (fun v0 v1 v5 wr => At13 us ts w v0 v1 v5 wr) (fun v0 v1 _ _ => lenV v0 + lenV v1)
  case atStart => exact hst.out
  case round =>
    obtain ⟨ls1, ls2, ms, ⟨ba, ca, rfl, hca, hra, hba⟩, ⟨bb, cb, rfl, hcb, hrb, hbb⟩, hm⟩ := hrel
    have hm' := Lib.hid hm
    have hra' := Lib.hid hra
    have hrb' := Lib.hid hrb
    have hba' := Lib.hid hba
    have hbb' := Lib.hid hbb
    clear hm hra hrb hba hbb hst
    cases ls1 with
    | nil =>
      cases ls2 with
      | nil =>
        simp only [List.length_nil]
        have hend : RetMrg us ts w (.returned u5) wr := by
          have h := hm'.out
          have he : mrg us ts = ms := by rw [h.eq]; simp [mrg]
          exact ⟨u5, rfl, by rw [he]; exact rows_of (fun v hv => (h.rm v hv).rec) h.own, h.old⟩
        have hend' := Lib.hid hend
        clear hend
        go_wp2
        go_ret
        exact hend'.out
      | cons y ys =>
        obtain ⟨p, r, rfl, hoy, hry⟩ := hrb'.out 0 y rfl
        have hrtb := Lib.hid (RowAt.tail hrb'.out)
        have hyt := hm'.out.rb y (by simp)
        have hy1 := Lib.hid hyt
        have hrv := hm'.out.old.range hoy id hry
        simp only [Nat.zero_mul, Nat.add_zero] at hrv
        simp only [List.length_nil, List.length_cons] at hcb ⊢
        obtain ⟨ny, hny0⟩ : ∃ ny, ys.length = ny := ⟨_, rfl⟩
        rw [hny0] at hcb ⊢
        have hny := Lib.hid hny0
        clear hny0
        have hfewny : ny ≤ 1000 := by
          have h1 := hm'.out.len
          have h2 := hfew'.out
          have h3 := hny.out
          simp only [List.length_cons] at h1
          omega
        obtain ⟨a0, a1, a2, a3, a4, a5, a6, a7, a8, a9, a10, a11, rfl⟩ := hyt
        obtain ⟨e0, e1, e2, e3, e4, e5, e6, e7, e8, e9, e10, e11⟩ := rec_cells hrv
        clear hrv hry
        have hms1 := Lib.hid (show ms.length + 1 ≤ maxLen by have := hm'.out.len; have := hfew'.out; unfold maxLen; omega)
        have hms2 := Lib.hid (show (ms.length + 1) * 88 ≤ 140737488355328 by have := hm'.out.len; have := hfew'.out; omega)
        have hbase := Lib.hid (show w.heap.size ≤ wr.heap.size from hm'.out.old.size)
        have hown := Lib.hid hm'.out.own
        by_cases hc1 : cb = 1
        · subst hc1
          have hx0 : Hid (ys = []) := by
            have h1 := hny.out
            exact List.length_eq_zero_iff.1 (by omega)
          have hn0 : ny = 0 := by have h1 := hny.out; rw [hx0.out] at h1; exact h1.symm
          subst hn0
          go_wp2_with fail
          go_quiet (fail)
          go_wp2_with fail
          have hh2 := Lib.hid (show (wr.drewN nq).heap = wr.heap ∧ (wr.drewN nq).os = wr.os ∧ (wr.drewN nq).output = wr.output from ⟨rfl, rfl, rfl⟩)
          generalize wr.drewN nq = w2 at hh2 ⊢
          have hc2 : ∀ a, w2.cell? a = wr.cell? a := fun a => by unfold World.cell?; rw [hh2.out.1]
          rw [← hc2] at e0 e1 e2 e3 e4 e5 e6 e7 e8 e9 e10 e11
          clear hc2
          have hown2 : Hid (w2.drew.ownsRow w.heap.size 27 12 u5 ms.length (cellsOf ms)) := by unfold World.ownsRow; rw [show w2.drew.heap = wr.heap from hh2.out.1]; exact hown.out
          have hown3 : Hid ((w2.alloc (.cells #[Value.int .u64 a0, Value.int .u64 a1, Value.int .u32 a2, Value.bool a3, Value.int .u64 a4, Value.int .u64 a5, Value.int .i64 a6, Value.int .u64 a7, Value.int .i64 a8, Value.int .u64 a9, Value.int .i64 a10, Value.int .u64 a11] 27 (0, 0))).ownsRow w.heap.size 27 12 u5 ms.length (cellsOf ms)) := World.ownsRow.alloc hown2.out _
          have hbase2 : Hid (w.heap.size ≤ w2.heap.size) := by rw [hh2.out.1]; exact hbase.out
          go_region_law (refine step_append_lies _ rfl (.tmp 41) (.tmp 45) 22 rfl w.heap.size 27 i27 (.agg zRec) 12 88 Try.underlying22 hi hz hs27 hb27 rfl (by decide) u5 ms.length (cellsOf ms) (by simp [Act.eval, Act.put]) (by exact hown3.out) ⟨w2.heap.size, 0, none⟩ 1 1 [Value.int .u64 a0, Value.int .u64 a1, Value.int .u32 a2, Value.bool a3, Value.int .u64 a4, Value.int .u64 a5, Value.int .i64 a6, Value.int .u64 a7, Value.int .i64 a8, Value.int .u64 a9, Value.int .i64 a10, Value.int .u64 a11] (by simp [Act.eval, Act.put]) rfl (World.news_of_block alloc_new) (by simp [Value.oneCell']) (by decide) hms1.out hms2.out (by have := hbase2.out; simp; omega) _ rfl ?_; intro g cap w1 hown1 hgrow hat hlt)
          all_goals walk_nrm
          all_goals go_wp2
          all_goals go_roundw
          case rel => exact ⟨_, _, _, ⟨⟨ba, ca, rfl, by simp, RowAt.nil, hba'.out⟩⟩, ⟨⟨some ⟨p, r, none⟩, 0, by rw [hx0.out]; rfl, by rw [hx0.out]; simp, by rw [hx0.out]; exact RowAt.nil, .inr ⟨_, _, rfl⟩⟩⟩, mid_step hm'.out (by simp [mrg]) (by simp <;> omega) hy1.out (fun v h => h) (fun v h => List.mem_cons_of_mem _ h) hh2.out.1 hh2.out.2.1 hh2.out.2.2 hgrow rfl hown1⟩
          case measure => simp [lenV] <;> omega
        · have hz1 : ((ny : Int) + 1 == 0) = false := by simp; omega
          have hz2 : decide ((ny : Int) + 1 = 0) = false := by simp; omega
          go_wp2_with fail
          go_quiet (fail)
          go_wp2_with fail
          have hh2 := Lib.hid (show (wr.drewN nq).heap = wr.heap ∧ (wr.drewN nq).os = wr.os ∧ (wr.drewN nq).output = wr.output from ⟨rfl, rfl, rfl⟩)
          generalize wr.drewN nq = w2 at hh2 ⊢
          have hc2 : ∀ a, w2.cell? a = wr.cell? a := fun a => by unfold World.cell?; rw [hh2.out.1]
          rw [← hc2] at e0 e1 e2 e3 e4 e5 e6 e7 e8 e9 e10 e11
          clear hc2
          have hown2 : Hid (w2.drew.ownsRow w.heap.size 27 12 u5 ms.length (cellsOf ms)) := by unfold World.ownsRow; rw [show w2.drew.heap = wr.heap from hh2.out.1]; exact hown.out
          have hown3 : Hid ((w2.alloc (.cells #[Value.int .u64 a0, Value.int .u64 a1, Value.int .u32 a2, Value.bool a3, Value.int .u64 a4, Value.int .u64 a5, Value.int .i64 a6, Value.int .u64 a7, Value.int .i64 a8, Value.int .u64 a9, Value.int .i64 a10, Value.int .u64 a11] 27 (0, 0))).ownsRow w.heap.size 27 12 u5 ms.length (cellsOf ms)) := World.ownsRow.alloc hown2.out _
          have hbase2 : Hid (w.heap.size ≤ w2.heap.size) := by rw [hh2.out.1]; exact hbase.out
          have h11 : (1 : Int) ≤ (ny : Int) + 1 := by omega
          go_region_law (refine step_append_lies _ rfl (.tmp 41) (.tmp 45) 22 rfl w.heap.size 27 i27 (.agg zRec) 12 88 Try.underlying22 hi hz hs27 hb27 rfl (by decide) u5 ms.length (cellsOf ms) (by simp [Act.eval, Act.put]) (by exact hown3.out) ⟨w2.heap.size, 0, none⟩ 1 1 [Value.int .u64 a0, Value.int .u64 a1, Value.int .u32 a2, Value.bool a3, Value.int .u64 a4, Value.int .u64 a5, Value.int .i64 a6, Value.int .u64 a7, Value.int .i64 a8, Value.int .u64 a9, Value.int .i64 a10, Value.int .u64 a11] (by simp [Act.eval, Act.put]) rfl (World.news_of_block alloc_new) (by simp [Value.oneCell']) (by decide) hms1.out hms2.out (by have := hbase2.out; simp; omega) _ rfl ?_; intro g cap w1 hown1 hgrow hat hlt)
          all_goals walk_nrm
          all_goals go_wp2
          all_goals go_roundw
          case rel => exact ⟨_, _, _, ⟨⟨ba, ca, rfl, by simp, RowAt.nil, hba'.out⟩⟩, ⟨⟨some ⟨p, r + 12, none⟩, cb - 1, by rw [hny.out], by rw [hny.out]; omega, hrtb.out, .inr ⟨_, _, rfl⟩⟩⟩, mid_step hm'.out (by simp [mrg]) (by simp <;> omega) hy1.out (fun v h => h) (fun v h => List.mem_cons_of_mem _ h) hh2.out.1 hh2.out.2.1 hh2.out.2.2 hgrow rfl hown1⟩
          case measure => simp [lenV] <;> omega
    | cons x xs =>
      obtain ⟨o, q, rfl, hox, hrx⟩ := hra'.out 0 x rfl
      have hrta := Lib.hid (RowAt.tail hra'.out)
      have hxt := hm'.out.ra x (by simp)
      have hx1 := Lib.hid hxt
      have hrw := hm'.out.old.range hox id hrx
      simp only [Nat.zero_mul, Nat.add_zero] at hrw
      cases ls2 with
      | nil =>
        simp only [List.length_nil, List.length_cons] at hca ⊢
        obtain ⟨nx, hnx0⟩ : ∃ nx, xs.length = nx := ⟨_, rfl⟩
        rw [hnx0] at hca ⊢
        have hnx := Lib.hid hnx0
        clear hnx0
        have hfewnx : nx ≤ 1000 := by
          have h1 := hm'.out.len
          have h2 := hfew'.out
          have h3 := hnx.out
          simp only [List.length_cons] at h1
          omega
        obtain ⟨a0, a1, a2, a3, a4, a5, a6, a7, a8, a9, a10, a11, rfl⟩ := hxt
        obtain ⟨e0, e1, e2, e3, e4, e5, e6, e7, e8, e9, e10, e11⟩ := rec_cells hrw
        clear hrw hrx
        have hms1 := Lib.hid (show ms.length + 1 ≤ maxLen by have := hm'.out.len; have := hfew'.out; unfold maxLen; omega)
        have hms2 := Lib.hid (show (ms.length + 1) * 88 ≤ 140737488355328 by have := hm'.out.len; have := hfew'.out; omega)
        have hbase := Lib.hid (show w.heap.size ≤ wr.heap.size from hm'.out.old.size)
        have hown := Lib.hid hm'.out.own
        by_cases hc1 : ca = 1
        · subst hc1
          have hx0 : Hid (xs = []) := by
            have h1 := hnx.out
            exact List.length_eq_zero_iff.1 (by omega)
          have hn0 : nx = 0 := by have h1 := hnx.out; rw [hx0.out] at h1; exact h1.symm
          subst hn0
          go_wp2_with fail
          go_quiet (fail)
          go_wp2_with fail
          have hh2 := Lib.hid (show (wr.drewN nq).heap = wr.heap ∧ (wr.drewN nq).os = wr.os ∧ (wr.drewN nq).output = wr.output from ⟨rfl, rfl, rfl⟩)
          generalize wr.drewN nq = w2 at hh2 ⊢
          have hc2 : ∀ a, w2.cell? a = wr.cell? a := fun a => by unfold World.cell?; rw [hh2.out.1]
          rw [← hc2] at e0 e1 e2 e3 e4 e5 e6 e7 e8 e9 e10 e11
          clear hc2
          have hown2 : Hid (w2.drew.ownsRow w.heap.size 27 12 u5 ms.length (cellsOf ms)) := by unfold World.ownsRow; rw [show w2.drew.heap = wr.heap from hh2.out.1]; exact hown.out
          have hown3 : Hid ((w2.alloc (.cells #[Value.int .u64 a0, Value.int .u64 a1, Value.int .u32 a2, Value.bool a3, Value.int .u64 a4, Value.int .u64 a5, Value.int .i64 a6, Value.int .u64 a7, Value.int .i64 a8, Value.int .u64 a9, Value.int .i64 a10, Value.int .u64 a11] 27 (0, 0))).ownsRow w.heap.size 27 12 u5 ms.length (cellsOf ms)) := World.ownsRow.alloc hown2.out _
          have hbase2 : Hid (w.heap.size ≤ w2.heap.size) := by rw [hh2.out.1]; exact hbase.out
          go_region_law (refine step_append_lies _ rfl (.tmp 33) (.tmp 37) 22 rfl w.heap.size 27 i27 (.agg zRec) 12 88 Try.underlying22 hi hz hs27 hb27 rfl (by decide) u5 ms.length (cellsOf ms) (by simp [Act.eval, Act.put]) (by exact hown3.out) ⟨w2.heap.size, 0, none⟩ 1 1 [Value.int .u64 a0, Value.int .u64 a1, Value.int .u32 a2, Value.bool a3, Value.int .u64 a4, Value.int .u64 a5, Value.int .i64 a6, Value.int .u64 a7, Value.int .i64 a8, Value.int .u64 a9, Value.int .i64 a10, Value.int .u64 a11] (by simp [Act.eval, Act.put]) rfl (World.news_of_block alloc_new) (by simp [Value.oneCell']) (by decide) hms1.out hms2.out (by have := hbase2.out; simp; omega) _ rfl ?_; intro g cap w1 hown1 hgrow hat hlt)
          all_goals walk_nrm
          all_goals go_wp2
          all_goals go_roundw
          case rel => exact ⟨_, _, _, ⟨⟨some ⟨o, q, none⟩, 0, by rw [hx0.out]; rfl, by rw [hx0.out]; simp, by rw [hx0.out]; exact RowAt.nil, .inr ⟨_, _, rfl⟩⟩⟩, ⟨⟨bb, cb, rfl, by simp, RowAt.nil, hbb'.out⟩⟩, mid_step hm'.out (by rw [mrg_nil, mrg_nil]) (by simp <;> omega) hx1.out (fun v h => List.mem_cons_of_mem _ h) (fun v h => h) hh2.out.1 hh2.out.2.1 hh2.out.2.2 hgrow rfl hown1⟩
          case measure => simp [lenV] <;> omega
        · go_wp2_with fail
          go_quiet (fail)
          go_wp2_with fail
          have hh2 := Lib.hid (show (wr.drewN nq).heap = wr.heap ∧ (wr.drewN nq).os = wr.os ∧ (wr.drewN nq).output = wr.output from ⟨rfl, rfl, rfl⟩)
          generalize wr.drewN nq = w2 at hh2 ⊢
          have hc2 : ∀ a, w2.cell? a = wr.cell? a := fun a => by unfold World.cell?; rw [hh2.out.1]
          rw [← hc2] at e0 e1 e2 e3 e4 e5 e6 e7 e8 e9 e10 e11
          clear hc2
          have hown2 : Hid (w2.drew.ownsRow w.heap.size 27 12 u5 ms.length (cellsOf ms)) := by unfold World.ownsRow; rw [show w2.drew.heap = wr.heap from hh2.out.1]; exact hown.out
          have hown3 : Hid ((w2.alloc (.cells #[Value.int .u64 a0, Value.int .u64 a1, Value.int .u32 a2, Value.bool a3, Value.int .u64 a4, Value.int .u64 a5, Value.int .i64 a6, Value.int .u64 a7, Value.int .i64 a8, Value.int .u64 a9, Value.int .i64 a10, Value.int .u64 a11] 27 (0, 0))).ownsRow w.heap.size 27 12 u5 ms.length (cellsOf ms)) := World.ownsRow.alloc hown2.out _
          have hbase2 : Hid (w.heap.size ≤ w2.heap.size) := by rw [hh2.out.1]; exact hbase.out
          have h11 : (1 : Int) ≤ (nx : Int) + 1 := by omega
          go_region_law (refine step_append_lies _ rfl (.tmp 33) (.tmp 37) 22 rfl w.heap.size 27 i27 (.agg zRec) 12 88 Try.underlying22 hi hz hs27 hb27 rfl (by decide) u5 ms.length (cellsOf ms) (by simp [Act.eval, Act.put]) (by exact hown3.out) ⟨w2.heap.size, 0, none⟩ 1 1 [Value.int .u64 a0, Value.int .u64 a1, Value.int .u32 a2, Value.bool a3, Value.int .u64 a4, Value.int .u64 a5, Value.int .i64 a6, Value.int .u64 a7, Value.int .i64 a8, Value.int .u64 a9, Value.int .i64 a10, Value.int .u64 a11] (by simp [Act.eval, Act.put]) rfl (World.news_of_block alloc_new) (by simp [Value.oneCell']) (by decide) hms1.out hms2.out (by have := hbase2.out; simp; omega) _ rfl ?_; intro g cap w1 hown1 hgrow hat hlt)
          all_goals walk_nrm
          all_goals go_wp2
          all_goals go_roundw
          case rel => exact ⟨_, _, _, ⟨⟨some ⟨o, q + 12, none⟩, ca - 1, by rw [hnx.out], by rw [hnx.out]; omega, hrta.out, .inr ⟨_, _, rfl⟩⟩⟩, ⟨⟨bb, cb, rfl, by simp, RowAt.nil, hbb'.out⟩⟩, mid_step hm'.out (by rw [mrg_nil, mrg_nil]) (by simp <;> omega) hx1.out (fun v h => List.mem_cons_of_mem _ h) (fun v h => h) hh2.out.1 hh2.out.2.1 hh2.out.2.2 hgrow rfl hown1⟩
          case measure => simp [lenV] <;> omega
      | cons y ys =>
        obtain ⟨p, r, rfl, hoy, hry⟩ := hrb'.out 0 y rfl
        have hrtb := Lib.hid (RowAt.tail hrb'.out)
        have hyt := hm'.out.rb y (by simp)
        have hy1 := Lib.hid hyt
        have hrv := hm'.out.old.range hoy id hry
        simp only [Nat.zero_mul, Nat.add_zero] at hrv
        simp only [List.length_cons] at hca hcb ⊢
        obtain ⟨nx, hnx0⟩ : ∃ nx, xs.length = nx := ⟨_, rfl⟩
        rw [hnx0] at hca ⊢
        have hnx := Lib.hid hnx0
        clear hnx0
        have hfewnx : nx ≤ 1000 := by
          have h1 := hm'.out.len
          have h2 := hfew'.out
          have h3 := hnx.out
          simp only [List.length_cons] at h1
          omega
        obtain ⟨ny, hny0⟩ : ∃ ny, ys.length = ny := ⟨_, rfl⟩
        rw [hny0] at hcb ⊢
        have hny := Lib.hid hny0
        clear hny0
        have hfewny : ny ≤ 1000 := by
          have h1 := hm'.out.len
          have h2 := hfew'.out
          have h3 := hny.out
          simp only [List.length_cons] at h1
          omega
        by_cases hcy : cyOf x ≤ cyOf y
        · have hcy' := Lib.hid hcy
          obtain ⟨a0, a1, a2, a3, a4, a5, a6, a7, a8, a9, a10, a11, rfl⟩ := hxt
          obtain ⟨e0, e1, e2, e3, e4, e5, e6, e7, e8, e9, e10, e11⟩ := rec_cells hrw
          obtain ⟨b0, b1, b2, b3, b4, b5, b6, b7, b8, b9, b10, b11, rfl⟩ := hyt
          have f0 := hrv 0 _ rfl
          have hd : decide (a0 ≤ b0) = true := by simpa [cyOf] using hcy
          simp only [Nat.add_zero] at f0
          clear hrw hrx hrv hry hcy
          have hms1 := Lib.hid (show ms.length + 1 ≤ maxLen by have := hm'.out.len; have := hfew'.out; unfold maxLen; omega)
          have hms2 := Lib.hid (show (ms.length + 1) * 88 ≤ 140737488355328 by have := hm'.out.len; have := hfew'.out; omega)
          have hbase := Lib.hid (show w.heap.size ≤ wr.heap.size from hm'.out.old.size)
          have hown := Lib.hid hm'.out.own
          by_cases hc1 : ca = 1
          · subst hc1
            have hx0 : Hid (xs = []) := by
              have h1 := hnx.out
              exact List.length_eq_zero_iff.1 (by omega)
            have hn0 : nx = 0 := by have h1 := hnx.out; rw [hx0.out] at h1; exact h1.symm
            subst hn0
            go_wp2_with fail
            go_quiet (fail)
            go_wp2_with fail
            have hh2 := Lib.hid (show (wr.drewN nq).heap = wr.heap ∧ (wr.drewN nq).os = wr.os ∧ (wr.drewN nq).output = wr.output from ⟨rfl, rfl, rfl⟩)
            generalize wr.drewN nq = w2 at hh2 ⊢
            have hc2 : ∀ a, w2.cell? a = wr.cell? a := fun a => by unfold World.cell?; rw [hh2.out.1]
            rw [← hc2] at e0 e1 e2 e3 e4 e5 e6 e7 e8 e9 e10 e11
            clear hc2
            have hown2 : Hid (w2.drew.ownsRow w.heap.size 27 12 u5 ms.length (cellsOf ms)) := by unfold World.ownsRow; rw [show w2.drew.heap = wr.heap from hh2.out.1]; exact hown.out
            have hown3 : Hid ((w2.alloc (.cells #[Value.int .u64 a0, Value.int .u64 a1, Value.int .u32 a2, Value.bool a3, Value.int .u64 a4, Value.int .u64 a5, Value.int .i64 a6, Value.int .u64 a7, Value.int .i64 a8, Value.int .u64 a9, Value.int .i64 a10, Value.int .u64 a11] 27 (0, 0))).ownsRow w.heap.size 27 12 u5 ms.length (cellsOf ms)) := World.ownsRow.alloc hown2.out _
            have hbase2 : Hid (w.heap.size ≤ w2.heap.size) := by rw [hh2.out.1]; exact hbase.out
            go_region_law (refine step_append_lies _ rfl (.tmp 33) (.tmp 37) 22 rfl w.heap.size 27 i27 (.agg zRec) 12 88 Try.underlying22 hi hz hs27 hb27 rfl (by decide) u5 ms.length (cellsOf ms) (by simp [Act.eval, Act.put]) (by exact hown3.out) ⟨w2.heap.size, 0, none⟩ 1 1 [Value.int .u64 a0, Value.int .u64 a1, Value.int .u32 a2, Value.bool a3, Value.int .u64 a4, Value.int .u64 a5, Value.int .i64 a6, Value.int .u64 a7, Value.int .i64 a8, Value.int .u64 a9, Value.int .i64 a10, Value.int .u64 a11] (by simp [Act.eval, Act.put]) rfl (World.news_of_block alloc_new) (by simp [Value.oneCell']) (by decide) hms1.out hms2.out (by have := hbase2.out; simp; omega) _ rfl ?_; intro g cap w1 hown1 hgrow hat hlt)
            all_goals walk_nrm
            all_goals go_wp2
            all_goals go_roundw
            case rel => exact ⟨_, _, _, ⟨⟨some ⟨o, q, none⟩, 0, by rw [hx0.out]; rfl, by rw [hx0.out]; simp, by rw [hx0.out]; exact RowAt.nil, .inr ⟨_, _, rfl⟩⟩⟩, ⟨⟨_, cb, by rw [List.length_cons, hny.out], by rw [List.length_cons, hny.out]; exact hcb, hrb'.out, .inr ⟨_, _, rfl⟩⟩⟩, mid_step hm'.out (by rw [mrg, if_pos hcy'.out]) (by simp <;> omega) hx1.out (fun v h => List.mem_cons_of_mem _ h) (fun v h => h) hh2.out.1 hh2.out.2.1 hh2.out.2.2 hgrow rfl hown1⟩
            case measure => simp [lenV] <;> omega
          · have hz1 : ((ny : Int) + 1 == 0) = false := by simp; omega
            have hz2 : decide ((ny : Int) + 1 = 0) = false := by simp; omega
            go_wp2_with fail
            go_quiet (fail)
            go_wp2_with fail
            have hh2 := Lib.hid (show (wr.drewN nq).heap = wr.heap ∧ (wr.drewN nq).os = wr.os ∧ (wr.drewN nq).output = wr.output from ⟨rfl, rfl, rfl⟩)
            generalize wr.drewN nq = w2 at hh2 ⊢
            have hc2 : ∀ a, w2.cell? a = wr.cell? a := fun a => by unfold World.cell?; rw [hh2.out.1]
            rw [← hc2] at e0 e1 e2 e3 e4 e5 e6 e7 e8 e9 e10 e11
            clear hc2
            have hown2 : Hid (w2.drew.ownsRow w.heap.size 27 12 u5 ms.length (cellsOf ms)) := by unfold World.ownsRow; rw [show w2.drew.heap = wr.heap from hh2.out.1]; exact hown.out
            have hown3 : Hid ((w2.alloc (.cells #[Value.int .u64 a0, Value.int .u64 a1, Value.int .u32 a2, Value.bool a3, Value.int .u64 a4, Value.int .u64 a5, Value.int .i64 a6, Value.int .u64 a7, Value.int .i64 a8, Value.int .u64 a9, Value.int .i64 a10, Value.int .u64 a11] 27 (0, 0))).ownsRow w.heap.size 27 12 u5 ms.length (cellsOf ms)) := World.ownsRow.alloc hown2.out _
            have hbase2 : Hid (w.heap.size ≤ w2.heap.size) := by rw [hh2.out.1]; exact hbase.out
            have h11 : (1 : Int) ≤ (nx : Int) + 1 := by omega
            go_region_law (refine step_append_lies _ rfl (.tmp 33) (.tmp 37) 22 rfl w.heap.size 27 i27 (.agg zRec) 12 88 Try.underlying22 hi hz hs27 hb27 rfl (by decide) u5 ms.length (cellsOf ms) (by simp [Act.eval, Act.put]) (by exact hown3.out) ⟨w2.heap.size, 0, none⟩ 1 1 [Value.int .u64 a0, Value.int .u64 a1, Value.int .u32 a2, Value.bool a3, Value.int .u64 a4, Value.int .u64 a5, Value.int .i64 a6, Value.int .u64 a7, Value.int .i64 a8, Value.int .u64 a9, Value.int .i64 a10, Value.int .u64 a11] (by simp [Act.eval, Act.put]) rfl (World.news_of_block alloc_new) (by simp [Value.oneCell']) (by decide) hms1.out hms2.out (by have := hbase2.out; simp; omega) _ rfl ?_; intro g cap w1 hown1 hgrow hat hlt)
            all_goals walk_nrm
            all_goals go_wp2
            all_goals go_roundw
            case rel => exact ⟨_, _, _, ⟨⟨some ⟨o, q + 12, none⟩, ca - 1, by rw [hnx.out], by rw [hnx.out]; omega, hrta.out, .inr ⟨_, _, rfl⟩⟩⟩, ⟨⟨_, cb, by rw [List.length_cons, hny.out], by rw [List.length_cons, hny.out]; exact hcb, hrb'.out, .inr ⟨_, _, rfl⟩⟩⟩, mid_step hm'.out (by rw [mrg, if_pos hcy'.out]) (by simp <;> omega) hx1.out (fun v h => List.mem_cons_of_mem _ h) (fun v h => h) hh2.out.1 hh2.out.2.1 hh2.out.2.2 hgrow rfl hown1⟩
            case measure => simp [lenV] <;> omega
        · have hcy' := Lib.hid hcy
          obtain ⟨a0, a1, a2, a3, a4, a5, a6, a7, a8, a9, a10, a11, rfl⟩ := hyt
          obtain ⟨e0, e1, e2, e3, e4, e5, e6, e7, e8, e9, e10, e11⟩ := rec_cells hrv
          obtain ⟨b0, b1, b2, b3, b4, b5, b6, b7, b8, b9, b10, b11, rfl⟩ := hxt
          have f0 := hrw 0 _ rfl
          have hd : decide (b0 ≤ a0) = false := by simpa [cyOf] using hcy
          simp only [Nat.add_zero] at f0
          clear hrw hrx hrv hry hcy
          have hms1 := Lib.hid (show ms.length + 1 ≤ maxLen by have := hm'.out.len; have := hfew'.out; unfold maxLen; omega)
          have hms2 := Lib.hid (show (ms.length + 1) * 88 ≤ 140737488355328 by have := hm'.out.len; have := hfew'.out; omega)
          have hbase := Lib.hid (show w.heap.size ≤ wr.heap.size from hm'.out.old.size)
          have hown := Lib.hid hm'.out.own
          by_cases hc1 : cb = 1
          · subst hc1
            have hx0 : Hid (ys = []) := by
              have h1 := hny.out
              exact List.length_eq_zero_iff.1 (by omega)
            have hn0 : ny = 0 := by have h1 := hny.out; rw [hx0.out] at h1; exact h1.symm
            subst hn0
            go_wp2_with fail
            go_quiet (fail)
            go_wp2_with fail
            have hh2 := Lib.hid (show (wr.drewN nq).heap = wr.heap ∧ (wr.drewN nq).os = wr.os ∧ (wr.drewN nq).output = wr.output from ⟨rfl, rfl, rfl⟩)
            generalize wr.drewN nq = w2 at hh2 ⊢
            have hc2 : ∀ a, w2.cell? a = wr.cell? a := fun a => by unfold World.cell?; rw [hh2.out.1]
            rw [← hc2] at e0 e1 e2 e3 e4 e5 e6 e7 e8 e9 e10 e11
            clear hc2
            have hown2 : Hid (w2.drew.ownsRow w.heap.size 27 12 u5 ms.length (cellsOf ms)) := by unfold World.ownsRow; rw [show w2.drew.heap = wr.heap from hh2.out.1]; exact hown.out
            have hown3 : Hid ((w2.alloc (.cells #[Value.int .u64 a0, Value.int .u64 a1, Value.int .u32 a2, Value.bool a3, Value.int .u64 a4, Value.int .u64 a5, Value.int .i64 a6, Value.int .u64 a7, Value.int .i64 a8, Value.int .u64 a9, Value.int .i64 a10, Value.int .u64 a11] 27 (0, 0))).ownsRow w.heap.size 27 12 u5 ms.length (cellsOf ms)) := World.ownsRow.alloc hown2.out _
            have hbase2 : Hid (w.heap.size ≤ w2.heap.size) := by rw [hh2.out.1]; exact hbase.out
            go_region_law (refine step_append_lies _ rfl (.tmp 41) (.tmp 45) 22 rfl w.heap.size 27 i27 (.agg zRec) 12 88 Try.underlying22 hi hz hs27 hb27 rfl (by decide) u5 ms.length (cellsOf ms) (by simp [Act.eval, Act.put]) (by exact hown3.out) ⟨w2.heap.size, 0, none⟩ 1 1 [Value.int .u64 a0, Value.int .u64 a1, Value.int .u32 a2, Value.bool a3, Value.int .u64 a4, Value.int .u64 a5, Value.int .i64 a6, Value.int .u64 a7, Value.int .i64 a8, Value.int .u64 a9, Value.int .i64 a10, Value.int .u64 a11] (by simp [Act.eval, Act.put]) rfl (World.news_of_block alloc_new) (by simp [Value.oneCell']) (by decide) hms1.out hms2.out (by have := hbase2.out; simp; omega) _ rfl ?_; intro g cap w1 hown1 hgrow hat hlt)
            all_goals walk_nrm
            all_goals go_wp2
            all_goals go_roundw
            case rel => exact ⟨_, _, _, ⟨⟨_, ca, by rw [List.length_cons, hnx.out], by rw [List.length_cons, hnx.out]; exact hca, hra'.out, .inr ⟨_, _, rfl⟩⟩⟩, ⟨⟨some ⟨p, r, none⟩, 0, by rw [hx0.out]; rfl, by rw [hx0.out]; simp, by rw [hx0.out]; exact RowAt.nil, .inr ⟨_, _, rfl⟩⟩⟩, mid_step hm'.out (by rw [mrg, if_neg (Int.not_le.2 hcy'.out)]) (by simp <;> omega) hy1.out (fun v h => h) (fun v h => List.mem_cons_of_mem _ h) hh2.out.1 hh2.out.2.1 hh2.out.2.2 hgrow rfl hown1⟩
            case measure => simp [lenV] <;> omega
          · have hz1 : ((ny : Int) + 1 == 0) = false := by simp; omega
            have hz2 : decide ((ny : Int) + 1 = 0) = false := by simp; omega
            go_wp2_with fail
            go_quiet (fail)
            go_wp2_with fail
            have hh2 := Lib.hid (show (wr.drewN nq).heap = wr.heap ∧ (wr.drewN nq).os = wr.os ∧ (wr.drewN nq).output = wr.output from ⟨rfl, rfl, rfl⟩)
            generalize wr.drewN nq = w2 at hh2 ⊢
            have hc2 : ∀ a, w2.cell? a = wr.cell? a := fun a => by unfold World.cell?; rw [hh2.out.1]
            rw [← hc2] at e0 e1 e2 e3 e4 e5 e6 e7 e8 e9 e10 e11
            clear hc2
            have hown2 : Hid (w2.drew.ownsRow w.heap.size 27 12 u5 ms.length (cellsOf ms)) := by unfold World.ownsRow; rw [show w2.drew.heap = wr.heap from hh2.out.1]; exact hown.out
            have hown3 : Hid ((w2.alloc (.cells #[Value.int .u64 a0, Value.int .u64 a1, Value.int .u32 a2, Value.bool a3, Value.int .u64 a4, Value.int .u64 a5, Value.int .i64 a6, Value.int .u64 a7, Value.int .i64 a8, Value.int .u64 a9, Value.int .i64 a10, Value.int .u64 a11] 27 (0, 0))).ownsRow w.heap.size 27 12 u5 ms.length (cellsOf ms)) := World.ownsRow.alloc hown2.out _
            have hbase2 : Hid (w.heap.size ≤ w2.heap.size) := by rw [hh2.out.1]; exact hbase.out
            have h11 : (1 : Int) ≤ (ny : Int) + 1 := by omega
            go_region_law (refine step_append_lies _ rfl (.tmp 41) (.tmp 45) 22 rfl w.heap.size 27 i27 (.agg zRec) 12 88 Try.underlying22 hi hz hs27 hb27 rfl (by decide) u5 ms.length (cellsOf ms) (by simp [Act.eval, Act.put]) (by exact hown3.out) ⟨w2.heap.size, 0, none⟩ 1 1 [Value.int .u64 a0, Value.int .u64 a1, Value.int .u32 a2, Value.bool a3, Value.int .u64 a4, Value.int .u64 a5, Value.int .i64 a6, Value.int .u64 a7, Value.int .i64 a8, Value.int .u64 a9, Value.int .i64 a10, Value.int .u64 a11] (by simp [Act.eval, Act.put]) rfl (World.news_of_block alloc_new) (by simp [Value.oneCell']) (by decide) hms1.out hms2.out (by have := hbase2.out; simp; omega) _ rfl ?_; intro g cap w1 hown1 hgrow hat hlt)
            all_goals walk_nrm
            all_goals go_wp2
            all_goals go_roundw
            case rel => exact ⟨_, _, _, ⟨⟨_, ca, by rw [List.length_cons, hnx.out], by rw [List.length_cons, hnx.out]; exact hca, hra'.out, .inr ⟨_, _, rfl⟩⟩⟩, ⟨⟨some ⟨p, r + 12, none⟩, cb - 1, by rw [hny.out], by rw [hny.out]; omega, hrtb.out, .inr ⟨_, _, rfl⟩⟩⟩, mid_step hm'.out (by rw [mrg, if_neg (Int.not_le.2 hcy'.out)]) (by simp <;> omega) hy1.out (fun v h => h) (fun v h => List.mem_cons_of_mem _ h) hh2.out.1 hh2.out.2.1 hh2.out.2.2 hgrow rfl hown1⟩
            case measure => simp [lenV] <;> omega
end Go.Proofs.Ytofoplpnpfaofaa
