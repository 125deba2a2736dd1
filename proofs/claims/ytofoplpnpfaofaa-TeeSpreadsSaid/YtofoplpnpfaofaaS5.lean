/- What is proved here: TeeSpreadsSaid: whatever the input, the law answers true, and what came in reads as it did. No condition. -/
import Derived.Test.YtofoplpnpfaofaaS3
import Derived.Test.YtofoplpnpfaofaaS4
set_option linter.unusedSimpArgs false
set_option linter.unusedVariables false
namespace Go.Proofs.Ytofoplpnpfaofaa
open Go Go.Conc Go.RowKit Go.ChangeShapes Go.WideShapes Go.ChangeAt Go.Deep

theorem enter3 (args : Array Value) : Frame.enter Try.prog 3 args .normal = (base 3).at ⟨args ++ Array.replicate (77 - args.size) undef, []⟩ [.code body3] := by
  simp [Frame.enter, Frame.at, Try.func3, base, Try.f3, body3]

set_option maxRecDepth 100000 in
theorem p3d {W w : World} {a : Act} (hs : a.tmps.size = 77) (hl : SlotsL [] a.tmps) (hd : a.defers = []) (hold : Old W w (fun _ => False)) :
    GoesI Try.prog (fun g' w' => AtDone Try.prog (.bool true) g' ∧ Old W w' (fun _ => False)) (G ((base 3).at a [.code s38]) []) w := by
  obtain ⟨tm, df⟩ := a
  obtain rfl : df = [] := hd
  have hs0 : tm.size = 77 := hs
  have ht := arr_full hs0
  simp only [List.range, List.range.loop, List.map] at ht
  rw [ht]
  clear ht hs hs0
  generalize tm.getD 0 undef = x0
  generalize tm.getD 1 undef = x1
  generalize tm.getD 2 undef = x2
  generalize tm.getD 3 undef = x3
  generalize tm.getD 4 undef = x4
  generalize tm.getD 5 undef = x5
  generalize tm.getD 6 undef = x6
  generalize tm.getD 7 undef = x7
  generalize tm.getD 8 undef = x8
  generalize tm.getD 9 undef = x9
  generalize tm.getD 10 undef = x10
  generalize tm.getD 11 undef = x11
  generalize tm.getD 12 undef = x12
  generalize tm.getD 13 undef = x13
  generalize tm.getD 14 undef = x14
  generalize tm.getD 15 undef = x15
  generalize tm.getD 16 undef = x16
  generalize tm.getD 17 undef = x17
  generalize tm.getD 18 undef = x18
  generalize tm.getD 19 undef = x19
  generalize tm.getD 20 undef = x20
  generalize tm.getD 21 undef = x21
  generalize tm.getD 22 undef = x22
  generalize tm.getD 23 undef = x23
  generalize tm.getD 24 undef = x24
  generalize tm.getD 25 undef = x25
  generalize tm.getD 26 undef = x26
  generalize tm.getD 27 undef = x27
  generalize tm.getD 28 undef = x28
  generalize tm.getD 29 undef = x29
  generalize tm.getD 30 undef = x30
  generalize tm.getD 31 undef = x31
  generalize tm.getD 32 undef = x32
  generalize tm.getD 33 undef = x33
  generalize tm.getD 34 undef = x34
  generalize tm.getD 35 undef = x35
  generalize tm.getD 36 undef = x36
  generalize tm.getD 37 undef = x37
  generalize tm.getD 38 undef = x38
  generalize tm.getD 39 undef = x39
  generalize tm.getD 40 undef = x40
  generalize tm.getD 41 undef = x41
  generalize tm.getD 42 undef = x42
  generalize tm.getD 43 undef = x43
  generalize tm.getD 44 undef = x44
  generalize tm.getD 45 undef = x45
  generalize tm.getD 46 undef = x46
  generalize tm.getD 47 undef = x47
  generalize tm.getD 48 undef = x48
  generalize tm.getD 49 undef = x49
  generalize tm.getD 50 undef = x50
  generalize tm.getD 51 undef = x51
  generalize tm.getD 52 undef = x52
  generalize tm.getD 53 undef = x53
  generalize tm.getD 54 undef = x54
  generalize tm.getD 55 undef = x55
  generalize tm.getD 56 undef = x56
  generalize tm.getD 57 undef = x57
  generalize tm.getD 58 undef = x58
  generalize tm.getD 59 undef = x59
  generalize tm.getD 60 undef = x60
  generalize tm.getD 61 undef = x61
  generalize tm.getD 62 undef = x62
  generalize tm.getD 63 undef = x63
  generalize tm.getD 64 undef = x64
  generalize tm.getD 65 undef = x65
  generalize tm.getD 66 undef = x66
  generalize tm.getD 67 undef = x67
  generalize tm.getD 68 undef = x68
  generalize tm.getD 69 undef = x69
  generalize tm.getD 70 undef = x70
  generalize tm.getD 71 undef = x71
  generalize tm.getD 72 undef = x72
  generalize tm.getD 73 undef = x73
  generalize tm.getD 74 undef = x74
  generalize tm.getD 75 undef = x75
  generalize tm.getD 76 undef = x76

  simp only [s38, s37, s36, s35, s34, s33, s32, s31, body3, Try.f3, Option.getD_some]
  refine GoesI.ctl rfl (fun w => stepG_seq) ?_
  refine GoesI.ctl rfl (fun w => stepG_region) ?_
  simp only [List.size_toArray, List.length_cons, List.length_nil, Nat.reduceAdd, Nat.zero_add, List.range, List.range.loop]
  refine GoesI.val (.bool true) rfl rfl (by decide) (fun w => by go_simp) (fun w => by simp [go_sem]) ?_
  walk_nrm
  refine GoesI.ctl rfl (fun w => stepG_region_end) ?_
  refine GoesI.ctl rfl (fun w => stepG_ret') ?_
  exact .stop fun d => ⟨atDone (by kernel_rfl) Try.func3 rfl rfl, hold.at_ d⟩

theorem law3_rest {W w : World} {b1 : Option Addr} {m c1 : Nat} {ln rm : Int} {vs : List Value} {a : Act} (h1 : In4 W b1 m c1 vs) (hm : m ≤ 100) (hd : a.defers = []) (k : K33 W b1 m c1 ln rm vs a w) :
    Reach Try.prog (G ((base 3).at a [.code s33]) []) w fun g' w' => AtDone Try.prog (.bool true) g' ∧ Old W w' (fun _ => False) := by
  obtain ⟨hsz, hold, N1, hrow, hrows, hsl⟩ := k
  by_cases hb1 : ln < 1
  · exact p3e1 hsz hsl hd h1 hm hb1 hold hrow
  by_cases hb2 : 16 < ln
  · exact p3e2 hsz hsl hd h1 hm (by omega) hb2 hold hrow
  by_cases hb3 : rm < 0
  · exact p3e3 hsz hsl hd h1 hm (by omega) (by omega) hb3 hold hrow
  by_cases hb4 : 64 < rm
  · exact p3e4 hsz hsl hd h1 hm (by omega) (by omega) (by omega) hb4 hold hrow
  obtain ⟨ln', rfl⟩ : ∃ n : Nat, ln = (n : Int) := ⟨ln.toNat, by omega⟩
  obtain ⟨rm', rfl⟩ : ∃ n : Nat, rm = (n : Int) := ⟨rm.toNat, by omega⟩
  refine (p3b hsz hsl hd h1 hm (by omega) (by omega) hold hrow hrows).trans ?_
  rintro g w ⟨a, rfl, hd, hsz, hold, ob, hh, hsl⟩
  refine Reach.of_goes ?_
  refine GoesI.ctl rfl (fun w => stepG_seq) ?_
  refine GoesI.pc safeQ (S := []) (R := fun a w => K38 W a w) (fun a w τ d h => ⟨h.size, h.old.sw τ d⟩) rfl hd (by simp) ok37 (fun τ d => p3c hsz hsl hd h1 (by omega) (hold.sw τ d) hh) (fun a1 w1 k1 hd1 hf1 => ?_)
  exact p3d k1.size trivial hd1 k1.old

theorem law3_reach {W : World} {b1 : Option Addr} {n c1 : Nat} {ln rm : Int} {vs : List Value} (h1 : In4 W b1 n c1 vs) :
    Reach Try.prog (G (Frame.enter Try.prog 3 #[.slice b1 n c1, .int .i64 ln, .int .i64 rm] .normal) []) W fun g' w' => AtDone Try.prog (.bool true) g' ∧ Old W w' (fun _ => False) := by
  rw [enter3]
  by_cases hn : n ≤ 100
  · refine (Reach.of_goes (p3a (ln := ln) (rm := rm) (by simp) ⟨by simp, by simp, by simp, trivial⟩ rfl h1 hn)).trans ?_
    rintro g w ⟨a, rfl, hd, k⟩
    exact law3_rest h1 hn hd k
  · refine (Reach.of_goes (p3al (ln := ln) (rm := rm) (by simp) ⟨by simp, by simp, by simp, trivial⟩ rfl h1 (by omega))).trans ?_
    rintro g w ⟨a, rfl, hd, k⟩
    exact law3_rest (h1.cut (by omega)) (Nat.le_refl _) hd k

theorem readable3 : ∀ t ∈ Try.f3.params.toList, Try.prog.readableRec t = true ∧ t < Try.prog.types.size := by
  intro t ht
  have h : t = 22 ∨ t = 3 := by simpa [Try.f3] using ht
  rcases h with rfl | rfl <;> exact ⟨by kernel_rfl, of_decide_eq_true (by kernel_rfl)⟩

set_option maxRecDepth 100000 in
theorem spreads_lifted (os : Os) (started : os.Started) (H : Type) (enc : TypeId × Value → H) :
    ReturnsInLeavingWide {} Try.checked os 3 .any (Rows.teeSpreadsSpec.pre6 enc Try.prog Try.f3 Rows.teeSpreadsRow.domain false) (Rows.teeSpreadsSpec.post enc Try.prog Try.f3 false true false false) := by
  refine returnsInLeavingWide_of_change_sized (C := Try.checked) own started Try.func3
    (ChangeSpec.witness6 (enc := enc) (C := Try.checked) false ⟨#[], #[.slice none 0 0, .int .i64 0, .int .i64 0], []⟩ 8 (by kernel_rfl) (by kernel_rfl) (by kernel_rfl) (by kernel_rfl)) ?_
  intro W base args ds gs before hval hW _ hsz _
  have hW' := hW
  obtain ⟨p, q, hA0, hV, rfl, _, _⟩ := hW
  obtain ⟨v0, v1, v2, d0, d1, d2, p0, p1, p2, rfl, rfl, hp, h0, h1, h2⟩ := trodAll_three (t := 22) (t' := 3) (t'' := 3) hA0
  obtain ⟨rfl, rfl⟩ := trodVars_none hV
  obtain ⟨b1, n, c1, vs, rfl, hin⟩ := open_arg (hval 0 22 v0 rfl rfl) h0 hsz (j := 0) rfl rfl
  obtain ⟨ln, rfl⟩ := okWide_int Try.underlying3 (hval 1 3 v1 rfl rfl)
  obtain ⟨rm, rfl⟩ := okWide_int Try.underlying3 (hval 2 3 v2 rfl rfl)
  refine good_of_reach (v := .bool true) ((law3_reach hin).trans ?_)
  rintro g w ⟨h1, h2⟩
  exact Reach.here ⟨h1, fun d => post_true hW' rfl rfl rfl rfl rfl readable3 (h2.at_ d)⟩

theorem spreads_holds : Rows.TeeSpreadsSaid :=
  OpenClaim.holds_of_wide_leaving 3 Try.f3 rfl rfl rfl rfl rfl rfl rfl ⟨rfl, rfl, rfl, rfl, rfl⟩ rfl rfl rfl rfl rfl (by kernel_rfl) Try.func3 (by kernel_rfl)
    (of_decide_eq_true (by kernel_rfl)) (by unfold Func.isWrapper; first | (rw [if_pos (by decide +kernel)]; kernel_rfl) | (rw [if_neg (by decide +kernel)]; exact ⟨rfl, rfl⟩))
    (fun os started H enc _ => spreads_lifted os started H enc)
#print axioms spreads_holds
end Go.Proofs.Ytofoplpnpfaofaa
