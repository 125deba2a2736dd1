/- What is proved here: Ask. Conditions: the block reads as the bus; the transaction's slices as lists. -/
import Derived.Test.YtnpgjecifllnaaaHas2
set_option linter.unusedSimpArgs false
set_option linter.unusedVariables false
namespace Go.Proofs.Ytnpgjecifllnaaa
open Go Go.Conc Go.RowKit

/-- What a block reads as: the bus. -/
structure Bus (w : World) (B : Nat) (m : Int) (sv : Value) (hd : Nat → Nat) (q : Nat → List It) (bv : Value) (bs : List It) : Prop where
  lt : B < w.heap.size
  tag : Tag w B 84
  most : w.cell? ⟨B, 0, none⟩ = some (.int .i64 m)
  serve : w.cell? ⟨B, 1, none⟩ = some sv
  ring : ∀ k, k < 3 → Ring w B (2 + k * 58) (hd k) (q k)
  busyc : w.cell? ⟨B, 176, none⟩ = some bv
  busy : Items w bv bs
  few : bs.length ≤ 4

theorem len_of {w : World} {b : Option Addr} {n c : Nat} {l : List Value} (h : Rd w (.slice b n c) l) : l.length = n := by
  obtain ⟨_, _, e, _⟩ := h
  cases e
  rfl

/-- A transaction that waits: none has answered it. -/
def It.asked (port id kind addr beats : Int) (db : Option Addr) (nd dc : Nat) (sb : Option Addr) (ns sc : Nat) (size : Int) : It := ⟨port, id, kind, addr, beats, db, nd, dc, sb, ns, sc, size, 0, 0, 0, 0, Option.none, 0, 0, false⟩

/-- What Ask answers. -/
def askE (port id kind addr beats : Int) (nd ns : Nat) (size : Int) (q : List It) (bs : List It) : Int :=
  if ¬ MayP port id kind addr beats nd ns size then 7 else if q.length = 4 then 3 else if hasB q bs port id = true then 8 else 0
def RetAsk (B : Nat) (hd : Nat → Nat) (q : Nat → List It) (bs : List It) (port id kind addr beats size : Int) (nd ns : Nat) (ds ss : List Value) (w : World) (e : Ending) (w' : World) : Prop :=
  e = .returned (.int .i64 (askE port id kind addr beats nd ns size (q port.toNat) bs)) ∧
  ((askE port id kind addr beats nd ns size (q port.toNat) bs ≠ 0 ∧ Old w w' No) ∨
   (askE port id kind addr beats nd ns size (q port.toNat) bs = 0 ∧ ∃ db dc sb sc, RdS w' (.slice db ds.length dc) ds ∧ RdS w' (.slice sb ss.length sc) ss ∧
      Ring w' B (2 + port.toNat * 58) (hd port.toNat) (q port.toNat ++ [It.asked port id kind addr beats db ds.length dc sb ss.length sc size]) ∧ Upon w w' B (2 + port.toNat * 58) (2 + port.toNat * 58 + 58)))

set_option maxHeartbeats 1000000 in
set_option maxRecDepth 100000 in
theorem ask_calls {B : Nat} {m : Int} {sv bv : Value} {hd : Nat → Nat} {q : Nat → List It} {bs : List It} {port id kind addr beats size : Int} {db sb : Option Addr} {nd dc ns sc : Nat} {ds ss : List Value} {w : World} (hbus : Bus w B m sv hd q bv bs) (ha : 0 ≤ addr) (hdr : Rd w (.slice db nd dc) ds) (hsr : Rd w (.slice sb ns sc) ss) (h1 : Ones ds) (h2 : Ones ss) :
    Calls Try.prog 10 #[.pointer (some ⟨B, 0, none⟩), askV port id kind addr beats (.slice db nd dc) (.slice sb ns sc) size] w (RetAsk B hd q bs port id kind addr beats size nd ns ds ss w) := by
  have hlt := hbus.lt
  have hbus' := Lib.hid hbus
  have hd' := Lib.hid hdr
  have hs' := Lib.hid hsr
  have h1' := Lib.hid h1
  have h2' := Lib.hid h2
  have hnil : ∀ w, (Go.binOp .eql 25 (.pointer (some ⟨B, 0, none⟩)) (.pointer none)).run Try.prog w = .ok (.bool false) w := fun w => rfl
  have hW : Hid (Old w (w.alloc (.cells #[.int .i64 port, .int .i64 id, .int .i64 kind, .int .u64 addr, .int .i64 beats, .slice db nd dc, .slice sb ns sc, .int .i64 size] 35)) No) := (Old.refl w No).alloc _
  have hmay := Lib.hid (fun w1 => may_calls (port := port) (id := id) (kind := kind) (addr := addr) (beats := beats) (size := size) (db := db) (sb := sb) (nd := nd) (dc := dc) (ns := ns) (sc := sc) (w := w1) ha)
  clear hbus hdr hsr h1 h2
  by_cases hM : MayP port id kind addr beats nd ns size
  · have hM' := Lib.hid hM
    have hmay2 : Hid (∀ w1, Calls Try.prog 30 #[askV port id kind addr beats (.slice db nd dc) (.slice sb ns sc) size] w1 (RetBool true w1)) := fun w1 => (hmay.out w1).mono fun e w' ⟨h3, h4⟩ => ⟨by rw [h3]; simp [hM'.out], h4⟩
    obtain ⟨k, rfl⟩ : ∃ k : Nat, port = (k : Int) := ⟨port.toNat, by have := hM.1; omega⟩
    have hk3 : k < 3 := by have := hM.2.1; omega
    have hk0 : (0 : Int) ≤ (k : Int) := by omega
    have hk1 : (k : Int) < 3 := by omega
    clear hM hmay
    have hring := hbus'.out.ring k hk3
    obtain ⟨n, hn0⟩ : ∃ n, (q k).length = n := ⟨_, rfl⟩
    have c57 : w.cell? ⟨B, 2 + k * 58 + 57, none⟩ = some (.int .i64 ((n : Nat) : Int)) := by have h := hring.num; rw [hn0] at h; exact h
    have hn4 : n ≤ 4 := by rw [← hn0]; exact hring.len
    have hn := Lib.hid hn0
    have hring' := Lib.hid hring
    clear hring hn0
    by_cases h4 : n = 4
    · subst h4
      have hA : Hid (askE k id kind addr beats nd ns size (q k) bs = 3) := by
        show askE k id kind addr beats nd ns size (q k) bs = 3
        unfold askE
        rw [if_neg (fun h => h hM'.out), if_pos hn.out]
      go_enter Try.func10, Try.ntmps10
      go_wp2_with (go_at_call 30; refine (hmay2.out _).mono ?_; rintro e w1 ⟨rfl, ho1⟩; have ho1' := Lib.hid (hW.out.trans ho1); have hb1 := Lib.hid ((ho1.block w.heap.size (by rw [al_size]; omega) (fun h => h)).trans al_new); have b0 := (blk8 hb1.out).1.1; have c57 := (ho1'.out.cell hlt (fun h => h)).trans c57; clear ho1)
      go_quiet (fail)
      go_wp2_with fail
      go_ret
      exact ⟨by show _ = Ending.returned (.int .i64 (askE k id kind addr beats nd ns size (q k) bs)); rw [hA.out]; rfl, .inl ⟨by show askE k id kind addr beats nd ns size (q k) bs ≠ 0; rw [hA.out]; decide, ho1'.out.drewN _⟩⟩
    · have hn3 : n < 4 := by omega
      have hne : ((n : Int) == 4) = false := by simp; omega
      have hhas : Hid (∀ w1, Old w w1 No → Calls Try.prog 31 #[.pointer (some ⟨B, 0, none⟩), .int .i64 ((k : Nat) : Int), .int .i64 id] w1 (RetBool (hasB (q k) bs k id) w1)) := fun w1 ho =>
        has_calls (Nat.lt_of_lt_of_le hlt ho.size) hk3 (hring'.out.on ho hlt (fun h => h)) ((ho.cell hlt (fun h => h)).trans hbus'.out.busyc) (hbus'.out.busy.on ho) (by have := hbus'.out.few; omega)
      have hn4' := Lib.hid h4
      clear h4
      cases hH : hasB (q k) bs k id with
      | true =>
        rw [hH] at hhas
        have hA : Hid (askE k id kind addr beats nd ns size (q k) bs = 8) := by
          show askE k id kind addr beats nd ns size (q k) bs = 8
          unfold askE
          rw [if_neg (fun h => h hM'.out), if_neg (by rw [hn.out]; exact hn4'.out), if_pos hH]
        clear hH
        go_enter Try.func10, Try.ntmps10
        go_wp2_with (go_at_call 30; refine (hmay2.out _).mono ?_; rintro e w1 ⟨rfl, ho1⟩; have ho1' := Lib.hid (hW.out.trans ho1); have hb1 := Lib.hid ((ho1.block w.heap.size (by rw [al_size]; omega) (fun h => h)).trans al_new); have b0 := (blk8 hb1.out).1.1; have b1 := (blk8 hb1.out).1.2.1; have c57 := (ho1'.out.cell hlt (fun h => h)).trans c57; clear ho1)
        go_quiet (fail)
        go_wp2_with (go_at_call 31; refine (hhas.out _ (ho1'.out.drewN _)).mono ?_; rintro e w2 ⟨rfl, ho2⟩; have ho2' := Lib.hid ((ho1'.out.drewN _).trans ho2); clear ho2)
        go_ret
        exact ⟨by show _ = Ending.returned (.int .i64 (askE k id kind addr beats nd ns size (q k) bs)); rw [hA.out]; rfl, .inl ⟨by show askE k id kind addr beats nd ns size (q k) bs ≠ 0; rw [hA.out]; decide, ho2'.out⟩⟩
      | false =>
        rw [hH] at hhas
        have hA : Hid (askE k id kind addr beats nd ns size (q k) bs = 0) := by
          show askE k id kind addr beats nd ns size (q k) bs = 0
          unfold askE
          rw [if_neg (fun h => h hM'.out), if_neg (by rw [hn.out]; exact hn4'.out), if_neg (by rw [hH]; decide)]
        clear hH
        have hcp : Hid (∀ w1, Old w w1 No → Calls Try.prog 33 #[askV k id kind addr beats (.slice db nd dc) (.slice sb ns sc) size] w1 (RetCopy k id kind addr beats size ds ss w1)) := fun w1 ho =>
          copied_calls (hd'.out.on ho (fun _ _ _ _ _ _ h => h)) (hs'.out.on ho (fun _ _ _ _ _ _ h => h)) h1'.out h2'.out (by have h := len_of hd'.out; have h3 := hM'.out; unfold MayP at h3; omega) (by have h := len_of hs'.out; have h3 := hM'.out; unfold MayP at h3; omega)
        have hps : Hid (∀ w1 x, Old w w1 No → Calls Try.prog 32 #[.pointer (some ⟨B, 2 + k * 58, none⟩), .agg (It.cells x)] w1 (RetPush B (2 + k * 58) (hd k) (q k ++ [x]) w1)) := fun w1 x ho =>
          push_calls (Nat.lt_of_lt_of_le hlt ho.size) (hring'.out.on ho hlt (fun h => h)) (by rw [hn.out]; exact hn3)
        go_enter Try.func10, Try.ntmps10
        go_wp2_with (go_at_call 30; refine (hmay2.out _).mono ?_; rintro e w1 ⟨rfl, ho1⟩; have ho1' := Lib.hid (hW.out.trans ho1); have hb1 := Lib.hid ((ho1.block w.heap.size (by rw [al_size]; omega) (fun h => h)).trans al_new); have b0 := (blk8 hb1.out).1.1; have b1 := (blk8 hb1.out).1.2.1; have c57 := (ho1'.out.cell hlt (fun h => h)).trans c57; clear ho1)
        go_quiet (fail)
        go_wp2_with (go_at_call 31; refine (hhas.out _ (ho1'.out.drewN _)).mono ?_; rintro e w2 ⟨rfl, ho2⟩; have hb2 := Lib.hid ((ho2.block w.heap.size (by have := lt_of_heap hb1.out; exact this) (fun h => h)).trans hb1.out); obtain ⟨⟨e0, e1, e2, e3, e4, e5, e6, e7⟩, _⟩ := blk8 hb2.out; have ho2' := Lib.hid ((ho1'.out.drewN _).trans ho2); clear ho2)
        go_region_with (first | (go_at_call 33; refine (hcp.out _ (by exact ho2'.out.drew)).mono ?_; rintro e w3 ⟨dv, sv2, rfl, hrd, hrs, ho3⟩; obtain ⟨⟨bd, cd, rfl, hxd⟩, hyd⟩ := hrd; obtain ⟨⟨bs2, cs2, rfl, hxs⟩, hys⟩ := hrs; have hrd' := Lib.hid (show RdS w3 (.slice bd ds.length cd) ds from ⟨⟨bd, cd, rfl, hxd⟩, hyd⟩); have hrs' := Lib.hid (show RdS w3 (.slice bs2 ss.length cs2) ss from ⟨⟨bs2, cs2, rfl, hxs⟩, hys⟩); clear hxd hyd hxs hys; have hb3 := Lib.hid ((ho3.block w.heap.size (lt_of_heap hb2.out) (fun h => h)).trans hb2.out); have g0 := (blk8 hb3.out).1.1; have ho3' := Lib.hid (ho2'.out.drew.trans ho3); clear ho3) | (go_at_call 32; refine (hps.out _ (It.asked k id kind addr beats bd ds.length cd bs2 ss.length cs2 size) (by exact ho3'.out)).mono ?_; rintro e w4 ⟨rfl, hr4, hU4⟩; have hr4' := Lib.hid hr4; have hU4' := Lib.hid hU4; clear hr4 hU4))
        all_goals go_wp2_with fail
        all_goals go_ret
        all_goals
          have hU := Upon.of_old (lo := 2 + k * 58) (hi := 2 + k * 58 + 58) ho3'.out hlt
          have hsoft : ∀ o, Soft w3 o → ¬ (o = B) := fun o hso => by
            obtain ⟨c, e⟩ := hU.tag 84 hbus'.out.tag
            exact soft_ne e (by decide) (by decide) hso
          refine ⟨by show _ = Ending.returned (.int .i64 (askE k id kind addr beats nd ns size (q k) bs)); rw [hA.out]; rfl, .inr ⟨hA.out, bd, cd, bs2, cs2, hrd'.out.on hU4'.out.old hsoft, hrs'.out.on hU4'.out.old hsoft, hr4'.out, hU.trans hU4'.out⟩⟩
  · have hA : Hid (askE port id kind addr beats nd ns size (q port.toNat) bs = 7) := by
      show askE port id kind addr beats nd ns size (q port.toNat) bs = 7
      unfold askE
      rw [if_pos hM]
    have hmay2 : Hid (∀ w1, Calls Try.prog 30 #[askV port id kind addr beats (.slice db nd dc) (.slice sb ns sc) size] w1 (RetBool false w1)) := fun w1 => (hmay.out w1).mono fun e w' ⟨h3, h4⟩ => ⟨by rw [h3]; simp [hM], h4⟩
    clear hmay hM
    go_enter Try.func10, Try.ntmps10
    go_wp2_with (go_at_call 30; refine (hmay2.out _).mono ?_; rintro e w1 ⟨rfl, ho1⟩; have ho1' := Lib.hid (hW.out.trans ho1); clear ho1)
    go_ret
    exact ⟨by rw [hA.out]; rfl, .inl ⟨by rw [hA.out]; decide, ho1'.out⟩⟩
end Go.Proofs.Ytnpgjecifllnaaa
