/- What is proved here: what the law's own memory answers. Conditions: one beat, or eight; the address is none below 0. -/
import Derived.Test.YtnpgjecifllnaaaCopied
import Derived.WalkSmall
set_option linter.unusedSimpArgs false
set_option linter.unusedVariables false
namespace Go.Proofs.Ytnpgjecifllnaaa
open Go Go.RowKit

abbrev replyV (port id : Int) (dv : Value) (err : Bool) : Value := .agg #[.int .i64 port, .int .i64 id, dv, .bool err]
def oddP (addr : Int) : Bool := addr / 4096 % 2 == 1
def bytesAt (addr : Int) (n : Nat) : List Value := (List.range n).map fun (i : Nat) => Value.int .u8 ((addr + (i : Int)) % 256)
def servedD (addr kind : Int) (n : Nat) : List Value := if oddP addr then [] else if kind = 2 then [] else bytesAt addr n
def RetServe (addr kind : Int) (n : Nat) (w : World) (e : Ending) (w' : World) : Prop := ∃ dv, e = .returned (replyV 0 0 dv (oddP addr)) ∧ RdS w' dv (servedD addr kind n) ∧ Old w w' No

/-- The cells of a block of four. -/
theorem blk4 {w : World} {b : Nat} {t : TypeId} {a0 a1 a2 a3 : Value} (h : w.heap[b]? = some (.cells #[a0, a1, a2, a3] t (0, 0))) :
    (w.cell? ⟨b, 0, none⟩ = some a0 ∧ w.cell? ⟨b, 1, none⟩ = some a1 ∧ w.cell? ⟨b, 2, none⟩ = some a2 ∧ w.cell? ⟨b, 3, none⟩ = some a3) ∧ ∀ i, w.frozen? ⟨b, i, none⟩ = false := by
  refine ⟨⟨?_, ?_, ?_, ?_⟩, fun i => by simp [World.frozen?, h]⟩ <;> simp [World.cell?, h]

theorem owns_ge {w : World} {base e size : Nat} {v : Value} {n : Nat} {xs : List Value} (h : w.ownsRow base e size v n xs) {b : Nat} (hb : b < base) : some b ≠ v.ownBlock := by
  rcases h.2 with ⟨rfl, _⟩ | ⟨g, cap, cur, rfl, hge, _⟩
  · simp [Value.ownBlock]
  · simp [Value.ownBlock]; omega
theorem Old.grown {W wr w1 : World} {p : Nat → Prop} {o : Obj} {base e size : Nat} {v : Value} {n : Nat} {xs : List Value} (h : Old W wr p) (hown : wr.ownsRow base e size v n xs) (hbase : W.heap.size ≤ base) (hg : (wr.alloc o).grownBy w1 v.ownBlock) : Old W w1 p := by
  have h1 := hg.size
  rw [al_size] at h1
  have h2 := h.size
  refine ⟨by omega, hg.os.trans h.os, hg.output.trans h.output, fun b hb hn => ?_⟩
  rw [hg.block b (by rw [al_size]; omega) (owns_ge hown (by omega)), al_old (by omega)]
  exact h.block b hb hn

def At7 (addr : Int) (n : Nat) (w : World) (v3 v4 : Value) (wr : World) : Prop := ∃ i : Nat, i ≤ n ∧ v4 = .int .i64 ((i : Nat) : Int) ∧ Old w wr No ∧ wr.ownsRow w.heap.size 5 1 v3 i (bytesAt addr i)

set_option maxHeartbeats 1000000 in
set_option maxRecDepth 100000 in
theorem serve_calls {port id kind addr beats size : Int} {db sb : Option Addr} {nd dc ns sc : Nat} {n : Nat} {w : World} (ha : 0 ≤ addr) (ha2 : addr < 18446744073709551616) (hb : beats = 1 ∨ beats = 8) (hn : (n : Int) = 8 * beats) :
    Calls Try.prog 7 #[askV port id kind addr beats (.slice db nd dc) (.slice sb ns sc) size] w (RetServe addr kind n w) := by
  have hn' := Lib.hid hn
  have hb' := Lib.hid hb
  have hn64 : n ≤ 64 := by rcases hb with rfl | rfl <;> omega
  have hbb : 8 * beats = (n : Int) := hn.symm
  have hbl : 0 ≤ beats := by rcases hb with rfl | rfl <;> omega
  have hbu : beats ≤ 8 := by rcases hb with rfl | rfl <;> omega
  obtain ⟨i5, hi, hz, hs5, hb5⟩ := info_parts info5
  have hodd : (bits BinOp.and IntKind.u64 (addr / 4096) 1 == 1) = oddP addr := by rw [and_one_u64 _ (by omega) (by omega)]; rfl
  clear hn hb hbb
  cases ho : oddP addr with
  | true =>
    rw [ho] at hodd
    have ho' := Lib.hid ho
    clear ho
    go_enter Try.func7, Try.ntmps7
    go_wp2
    exact bodyPost_ret (v := replyV 0 0 (.slice none 0 0) true) (by simp [results, Try.results7, go_sem]) rfl ⟨_, by rw [ho'.out], by unfold servedD; rw [if_pos ho'.out]; exact ⟨⟨none, 0, rfl, Nat.le_refl _, .inl rfl, fun i u hi => by simp at hi⟩, fun o q n c e => by cases e⟩, ((Old.refl _ _).alloc _).alloc _⟩
  | false =>
    rw [ho] at hodd
    have ho' := Lib.hid ho
    clear ho
    by_cases hk : kind = 2
    · subst hk
      go_enter Try.func7, Try.ntmps7
      go_wp2
      exact bodyPost_ret (v := replyV 0 0 (.slice none 0 0) false) (by simp [results, Try.results7, go_sem]) rfl ⟨_, by rw [ho'.out], by unfold servedD; rw [if_neg (by rw [ho'.out]; decide), if_pos rfl]; exact ⟨⟨none, 0, rfl, Nat.le_refl _, .inl rfl, fun i u hi => by simp at hi⟩, fun o q n c e => by cases e⟩, ((Old.refl _ _).alloc _).alloc _⟩
    · have hk1 : (kind == 2) = false := by simpa using hk
      have hk' := Lib.hid hk
      clear hk
      go_enter Try.func7, Try.ntmps7
      go_wp2
      have hW := Lib.hid (((Old.refl w No).alloc (.cells #[.int .i64 port, .int .i64 id, .int .i64 kind, .int .u64 addr, .int .i64 beats, .slice db nd dc, .slice sb ns sc, .int .i64 size] 35)).alloc (.cells #[.int .i64 0, .int .i64 0, .slice none 0 0, .bool false] 43))
      have hA : Hid (((w.alloc (.cells #[.int .i64 port, .int .i64 id, .int .i64 kind, .int .u64 addr, .int .i64 beats, .slice db nd dc, .slice sb ns sc, .int .i64 size] 35)).alloc (.cells #[.int .i64 0, .int .i64 0, .slice none 0 0, .bool false] 43)).heap[w.heap.size]? = some (.cells #[.int .i64 port, .int .i64 id, .int .i64 kind, .int .u64 addr, .int .i64 beats, .slice db nd dc, .slice sb ns sc, .int .i64 size] 35 (0, 0))) := (al_old (by rw [al_size]; omega)).trans al_new
      have hR : Hid (((w.alloc (.cells #[.int .i64 port, .int .i64 id, .int .i64 kind, .int .u64 addr, .int .i64 beats, .slice db nd dc, .slice sb ns sc, .int .i64 size] 35)).alloc (.cells #[.int .i64 0, .int .i64 0, .slice none 0 0, .bool false] 43)).heap[w.heap.size + 1]? = some (.cells #[.int .i64 0, .int .i64 0, .slice none 0 0, .bool false] 43 (0, 0))) := by
        have h := al_new (w := w.alloc (.cells #[.int .i64 port, .int .i64 id, .int .i64 kind, .int .u64 addr, .int .i64 beats, .slice db nd dc, .slice sb ns sc, .int .i64 size] 35)) (o := .cells #[.int .i64 0, .int .i64 0, .slice none 0 0, .bool false] 43 (0, 0))
        rw [al_size] at h
        exact h
      generalize hWe : ((w.alloc (.cells #[.int .i64 port, .int .i64 id, .int .i64 kind, .int .u64 addr, .int .i64 beats, .slice db nd dc, .slice sb ns sc, .int .i64 size] 35)).alloc (.cells #[.int .i64 0, .int .i64 0, .slice none 0 0, .bool false] 43)) = W at hW hA hR ⊢
      have hWs : W.heap.size = w.heap.size + 2 := by rw [← hWe, al_size, al_size]
      have hWs' := Lib.hid hWs
      clear hWe hWs
      go_loopw [3, 4] (fun v3 v4 wr => At7 addr n W v3 v4 wr) (fun _ v4 _ => n - (intOf v4).toNat)
      case atStart => exact ⟨0, Nat.zero_le _, rfl, Old.refl _ _, rfl, .inl ⟨rfl, rfl⟩⟩
      case round =>
        obtain ⟨i, hi2, rfl, hold, hown⟩ := hrel
        have hold' := Lib.hid hold
        have hown' := Lib.hid hown
        obtain ⟨⟨c0, c1, c2, c3, c4, c5, c6, c7⟩, cf⟩ := blk8 ((hold'.out.block _ (by rw [hWs'.out]; omega) (fun h => h)).trans hA.out)
        clear hold hown c0 c1 c2 c5 c6 c7 cf
        have hlt8 : 8 * beats = (n : Int) := by have := hn'.out; omega
        by_cases hlt : i < n
        · go_wp2_with (at_builtin; refine wpList_append_own _ rfl _ _ 32 rfl W.heap.size 5 i5 (.int .u8 0) 1 1 Try.underlying32 hi hz hs5 hb5 rfl (by decide) _ _ _ rfl (hown'.out.alloc _) ⟨wr.heap.size, 0, none⟩ 1 1 [.int .u8 ((addr + (i : Int)) % 256)] rfl rfl (cell_one_new _ _ _) (fun x hx => by simp at hx; subst hx; rfl) (by unfold maxLen; omega) (by omega) (by have := hold'.out.size; simp; omega) ?_; intro v' w1 hown1 hgrow _)
          have hown2 : w1.ownsRow W.heap.size 5 1 v' (i + 1) (bytesAt addr (i + 1)) := by
            have e : bytesAt addr (i + 1) = bytesAt addr i ++ [.int .u8 ((addr + (i : Int)) % 256)] := by unfold bytesAt; rw [List.range_succ]; simp
            rw [e]
            exact hown1
          have hold2 : Old W w1 No := hold'.out.grown hown'.out (Nat.le_refl _) hgrow
          clear hown1 hgrow
          have hown2' := Lib.hid hown2
          have hold2' := Lib.hid hold2
          clear hown2 hold2
          go_wp2
          go_roundw
          case rel => exact ⟨i + 1, by omega, by go_num, hold2'.out, hown2'.out⟩
          case measure => simp [intOf]; omega
        · obtain rfl : i = n := by omega
          have hrd := rdS_of (by simp [bytesAt]) (.inl rfl) hown'.out
          obtain ⟨⟨bd, cd, rfl, hxd⟩, hyd⟩ := hrd
          have hrd' := Lib.hid (show RdS wr (.slice bd (bytesAt addr i).length cd) (bytesAt addr i) from ⟨⟨bd, cd, rfl, hxd⟩, hyd⟩)
          clear hxd hyd
          have hRR := Lib.hid ((hold'.out.block _ (by rw [hWs'.out]; omega) (fun h => h)).trans hR.out)
          obtain ⟨⟨r0, r1, r2, r3⟩, rf⟩ := blk4 hRR.out
          have g0 := rf 0
          have g1 := rf 1
          have g2 := rf 2
          have g3 := rf 3
          clear rf
          go_wp2
          refine bodyPost_ret (v := replyV 0 0 (.slice bd (bytesAt addr i).length cd) false) (by simp [results, Try.results7, go_sem, r0, r1, r2, r3]) rfl ⟨_, by rw [ho'.out], ?_, ?_⟩
          · unfold servedD
            rw [if_neg (by rw [ho'.out]; decide), if_neg hk'.out]
            refine hrd'.out.on (p := fun b => b = w.heap.size + 1) ?_ (fun o hs hp => soft_ne hRR.out (by decide) (by decide) hs hp)
            repeat' refine Old.setCell ?_ _ (.inr (by simp))
            exact Old.refl _ _
          · repeat' refine Old.setCell ?_ _ (.inl (by omega))
            exact hW.out.trans hold'.out
end Go.Proofs.Ytnpgjecifllnaaa
