/- What is proved here: TeeMergesSaid: whatever the input, the law answers true, and what came in reads as it did. No condition. -/
import Derived.Test.YtofoplpnpfaofaaM3
set_option linter.unusedSimpArgs false
set_option linter.unusedVariables false
namespace Go.Proofs.Ytofoplpnpfaofaa
open Go Go.Conc Go.RowKit Go.ChangeShapes Go.WideShapes Go.ChangeAt Go.Deep

theorem enter5 (args : Array Value) : Frame.enter Try.prog 5 args .normal = (base 5).at ⟨args ++ Array.replicate (106 - args.size) undef, []⟩ [.code body5] := by
  simp [Frame.enter, Frame.at, Try.func5, base, Try.f5, body5]

set_option maxRecDepth 100000 in
theorem p5d {W w : World} {a : Act} (hs : a.tmps.size = 106) (hl : SlotsL [] a.tmps) (hd : a.defers = []) (hold : Old W w (fun _ => False)) :
    GoesI Try.prog (fun g' w' => AtDone Try.prog (.bool true) g' ∧ Old W w' (fun _ => False)) (G ((base 5).at a [.code s57]) []) w := by
  obtain ⟨tm, df⟩ := a
  obtain rfl : df = [] := hd
  have hs0 : tm.size = 106 := hs
  have ht := arr_full hs0
  simp only [List.range, List.range.loop, List.map] at ht
  rw [ht]
  clear ht hs hs0
  generalize tm.getD 0 undef = x0
  generalize tm.getD 1 undef = x1
  generalize tm.getD 2 undef = x2
  generalize tm.getD 3 undef = x3
  generalize tm.getD 4 undef = x4
  generalize tm.getD 5 undef = x5
  generalize tm.getD 6 undef = x6
  generalize tm.getD 7 undef = x7
  generalize tm.getD 8 undef = x8
  generalize tm.getD 9 undef = x9
  generalize tm.getD 10 undef = x10
  generalize tm.getD 11 undef = x11
  generalize tm.getD 12 undef = x12
  generalize tm.getD 13 undef = x13
  generalize tm.getD 14 undef = x14
  generalize tm.getD 15 undef = x15
  generalize tm.getD 16 undef = x16
  generalize tm.getD 17 undef = x17
  generalize tm.getD 18 undef = x18
  generalize tm.getD 19 undef = x19
  generalize tm.getD 20 undef = x20
  generalize tm.getD 21 undef = x21
  generalize tm.getD 22 undef = x22
  generalize tm.getD 23 undef = x23
  generalize tm.getD 24 undef = x24
  generalize tm.getD 25 undef = x25
  generalize tm.getD 26 undef = x26
  generalize tm.getD 27 undef = x27
  generalize tm.getD 28 undef = x28
  generalize tm.getD 29 undef = x29
  generalize tm.getD 30 undef = x30
  generalize tm.getD 31 undef = x31
  generalize tm.getD 32 undef = x32
  generalize tm.getD 33 undef = x33
  generalize tm.getD 34 undef = x34
  generalize tm.getD 35 undef = x35
  generalize tm.getD 36 undef = x36
  generalize tm.getD 37 undef = x37
  generalize tm.getD 38 undef = x38
  generalize tm.getD 39 undef = x39
  generalize tm.getD 40 undef = x40
  generalize tm.getD 41 undef = x41
  generalize tm.getD 42 undef = x42
  generalize tm.getD 43 undef = x43
  generalize tm.getD 44 undef = x44
  generalize tm.getD 45 undef = x45
  generalize tm.getD 46 undef = x46
  generalize tm.getD 47 undef = x47
  generalize tm.getD 48 undef = x48
  generalize tm.getD 49 undef = x49
  generalize tm.getD 50 undef = x50
  generalize tm.getD 51 undef = x51
  generalize tm.getD 52 undef = x52
  generalize tm.getD 53 undef = x53
  generalize tm.getD 54 undef = x54
  generalize tm.getD 55 undef = x55
  generalize tm.getD 56 undef = x56
  generalize tm.getD 57 undef = x57
  generalize tm.getD 58 undef = x58
  generalize tm.getD 59 undef = x59
  generalize tm.getD 60 undef = x60
  generalize tm.getD 61 undef = x61
  generalize tm.getD 62 undef = x62
  generalize tm.getD 63 undef = x63
  generalize tm.getD 64 undef = x64
  generalize tm.getD 65 undef = x65
  generalize tm.getD 66 undef = x66
  generalize tm.getD 67 undef = x67
  generalize tm.getD 68 undef = x68
  generalize tm.getD 69 undef = x69
  generalize tm.getD 70 undef = x70
  generalize tm.getD 71 undef = x71
  generalize tm.getD 72 undef = x72
  generalize tm.getD 73 undef = x73
  generalize tm.getD 74 undef = x74
  generalize tm.getD 75 undef = x75
  generalize tm.getD 76 undef = x76
  generalize tm.getD 77 undef = x77
  generalize tm.getD 78 undef = x78
  generalize tm.getD 79 undef = x79
  generalize tm.getD 80 undef = x80
  generalize tm.getD 81 undef = x81
  generalize tm.getD 82 undef = x82
  generalize tm.getD 83 undef = x83
  generalize tm.getD 84 undef = x84
  generalize tm.getD 85 undef = x85
  generalize tm.getD 86 undef = x86
  generalize tm.getD 87 undef = x87
  generalize tm.getD 88 undef = x88
  generalize tm.getD 89 undef = x89
  generalize tm.getD 90 undef = x90
  generalize tm.getD 91 undef = x91
  generalize tm.getD 92 undef = x92
  generalize tm.getD 93 undef = x93
  generalize tm.getD 94 undef = x94
  generalize tm.getD 95 undef = x95
  generalize tm.getD 96 undef = x96
  generalize tm.getD 97 undef = x97
  generalize tm.getD 98 undef = x98
  generalize tm.getD 99 undef = x99
  generalize tm.getD 100 undef = x100
  generalize tm.getD 101 undef = x101
  generalize tm.getD 102 undef = x102
  generalize tm.getD 103 undef = x103
  generalize tm.getD 104 undef = x104
  generalize tm.getD 105 undef = x105

  simp only [s57, s56, s55, s54, s53, s52, s51, body5, Try.f5, Option.getD_some]
  refine GoesI.ctl rfl (fun w => stepG_seq) ?_
  refine GoesI.ctl rfl (fun w => stepG_region) ?_
  simp only [List.size_toArray, List.length_cons, List.length_nil, Nat.reduceAdd, Nat.zero_add, List.range, List.range.loop]
  refine GoesI.val (.bool true) rfl rfl (by decide) (fun w => by go_simp) (fun w => by simp [go_sem]) ?_
  walk_nrm
  refine GoesI.ctl rfl (fun w => stepG_region_end) ?_
  refine GoesI.ctl rfl (fun w => stepG_ret') ?_
  exact .stop fun d => ⟨atDone (by kernel_rfl) Try.func5 rfl rfl, hold.at_ d⟩

theorem law5_reach {W : World} {b1 b2 : Option Addr} {n1 n2 c1 c2 : Nat} {us ts : List Value} (h1 : In4 W b1 n1 c1 us) (h2 : In4 W b2 n2 c2 ts) :
    Reach Try.prog (G (Frame.enter Try.prog 5 #[.slice b1 n1 c1, .slice b2 n2 c2] .normal) []) W fun g' w' => AtDone Try.prog (.bool true) g' ∧ Old W w' (fun _ => False) := by
  rw [enter5]
  by_cases hn1 : n1 ≤ 100
  · by_cases hn2 : n2 ≤ 100
    · refine (Reach.of_goes (p5a (by simp) ⟨by simp, by simp, trivial⟩ rfl h1 h2 hn1 hn2)).trans ?_
      rintro g w ⟨a, rfl, hd, hsz, hold, N1, N2, bm, cm, hrow1, hrow2, hrowm, hsl⟩
      refine (p5b hsz hsl hd h1 h2 hn1 hn2 hold hrow1 hrow2 hrowm).trans ?_
      rintro g w ⟨a, rfl, hd, hsz, hold, bm, cm, hrowm, hsl⟩
      refine Reach.of_goes ?_
      refine GoesI.ctl rfl (fun w => stepG_seq) ?_
      refine GoesI.pc safeQ (S := []) (R := fun a w => K57 W a w) (fun a w τ d h => ⟨h.size, h.old.sw τ d⟩) rfl hd (by simp) ok56 (fun τ d => p5c hsz hsl hd h1 h2 hn1 hn2 (hold.sw τ d) (hrowm.sw τ d)) (fun a1 w1 k1 hd1 hf1 => ?_)
      exact p5d k1.size trivial hd1 k1.old
    · exact p5long2 (b1 := b1) (b2 := b2) (n1 := n1) (n2 := n2) (c1 := c1) (c2 := c2) (by simp) ⟨by simp, by simp, trivial⟩ rfl hn1 (by omega)
  · exact p5long1 (b1 := b1) (b2 := b2) (n1 := n1) (n2 := n2) (c1 := c1) (c2 := c2) (by simp) ⟨by simp, by simp, trivial⟩ rfl (by omega)

theorem readable5 : ∀ t ∈ Try.f5.params.toList, Try.prog.readableRec t = true ∧ t < Try.prog.types.size := by
  intro t ht
  have h : t = 22 := by simpa [Try.f5] using ht
  rcases h with rfl
  exact ⟨by kernel_rfl, of_decide_eq_true (by kernel_rfl)⟩

set_option maxRecDepth 100000 in
theorem merges_lifted (os : Os) (started : os.Started) (H : Type) (enc : TypeId × Value → H) :
    ReturnsInLeavingWide {} Try.checked os 5 .any (Rows.teeMergesSpec.pre6 enc Try.prog Try.f5 Rows.teeMergesRow.domain false) (Rows.teeMergesSpec.post enc Try.prog Try.f5 false true false false) := by
  refine returnsInLeavingWide_of_change_sized (C := Try.checked) own started Try.func5
    (ChangeSpec.witness6 (enc := enc) (C := Try.checked) false ⟨#[], #[.slice none 0 0, .slice none 0 0], []⟩ 8 (by kernel_rfl) (by kernel_rfl) (by kernel_rfl) (by kernel_rfl)) ?_
  intro W base args ds gs before hval hW _ hsz _
  have hW' := hW
  obtain ⟨p, q, hA0, hV, rfl, _, _⟩ := hW
  obtain ⟨v0, v1, d0, d1, p0, p1, rfl, rfl, hp, h0, h1⟩ := trodAll_two (t := 22) (t' := 22) hA0
  obtain ⟨rfl, rfl⟩ := trodVars_none hV
  obtain ⟨b1, n1, c1, us, rfl, hin1⟩ := open_arg (hval 0 22 v0 rfl rfl) h0 hsz (j := 0) rfl rfl
  obtain ⟨b2, n2, c2, ts, rfl, hin2⟩ := open_arg (hval 1 22 v1 rfl rfl) h1 hsz (j := 1) rfl rfl
  refine good_of_reach (v := .bool true) ((law5_reach hin1 hin2).trans ?_)
  rintro g w ⟨h1, h2⟩
  exact Reach.here ⟨h1, fun d => post_true hW' rfl rfl rfl rfl rfl readable5 (h2.at_ d)⟩

theorem merges_holds : Rows.TeeMergesSaid :=
  OpenClaim.holds_of_wide_leaving 5 Try.f5 rfl rfl rfl rfl rfl rfl rfl ⟨rfl, rfl, rfl, rfl, rfl⟩ rfl rfl rfl rfl rfl (by kernel_rfl) Try.func5 (by kernel_rfl)
    (of_decide_eq_true (by kernel_rfl)) (by unfold Func.isWrapper; first | (rw [if_pos (by decide +kernel)]; kernel_rfl) | (rw [if_neg (by decide +kernel)]; exact ⟨rfl, rfl⟩))
    (fun os started H enc _ => merges_lifted os started H enc)
#print axioms merges_holds
end Go.Proofs.Ytofoplpnpfaofaa
