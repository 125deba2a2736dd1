/- What is proved here: TeeMerges' law's own loop. Conditions: its lists read as records. -/
import Derived.Test.YtofoplpnpfaofaaM2
set_option linter.unusedSimpArgs false
set_option linter.unusedVariables false
namespace Go.Proofs.Ytofoplpnpfaofaa
open Go Go.Conc Go.RowKit

theorem ok56 : codeOk Qp [] c56 = true := by kernel_rfl
structure Mid5 (us ts : List Value) (i k j : Nat) (dn : List Value) : Prop where
  iu : i ≤ us.length
  kt : k ≤ ts.length
  sum : j = i + k
  len : dn.length = j
  eq : mrg us ts = dn ++ mrg (us.drop i) (ts.drop k)
def At5c (us ts : List Value) (w : World) (v8 v9 v10 : Value) (wr : World) : Prop :=
  SameW w wr ∧ ∃ i k j dn, v8 = .int .i64 ((i : Nat) : Int) ∧ v9 = .int .i64 ((k : Nat) : Int) ∧ v10 = .int .i64 ((j : Nat) : Int) ∧ Mid5 us ts i k j dn
/-- At the law's end. -/
structure K57 (W : World) (a : Act) (w : World) : Prop where
  size : a.tmps.size = 106
  old : Old W w (fun _ => False)

theorem drop_one {l : List Value} {i : Nat} {x : Value} (h : l[i]? = some x) : l.drop i = x :: l.drop (i + 1) := by
  obtain ⟨hlt, rfl⟩ := List.getElem?_eq_some_iff.1 h
  exact List.drop_eq_getElem_cons hlt

theorem Mid5.left {us ts : List Value} {i k j : Nat} {dn : List Value} {x : Value} (h : Mid5 us ts i k j dn) (hx : us[i]? = some x) (he : mrg (us.drop i) (ts.drop k) = x :: mrg (us.drop (i + 1)) (ts.drop k)) : Mid5 us ts (i + 1) k (j + 1) (dn ++ [x]) ∧ (mrg us ts)[j]? = some x := by
  have hlt := (List.getElem?_eq_some_iff.1 hx).1
  have heq : mrg us ts = dn ++ x :: mrg (us.drop (i + 1)) (ts.drop k) := by rw [h.eq, he]
  refine ⟨⟨by omega, h.kt, by have := h.sum; omega, by simp [h.len], by rw [heq]; simp⟩, ?_⟩
  rw [heq, List.getElem?_append_right (by rw [h.len]; exact Nat.le_refl _), h.len]
  simp
theorem Mid5.right {us ts : List Value} {i k j : Nat} {dn : List Value} {y : Value} (h : Mid5 us ts i k j dn) (hy : ts[k]? = some y) (he : mrg (us.drop i) (ts.drop k) = y :: mrg (us.drop i) (ts.drop (k + 1))) : Mid5 us ts i (k + 1) (j + 1) (dn ++ [y]) ∧ (mrg us ts)[j]? = some y := by
  have hlt := (List.getElem?_eq_some_iff.1 hy).1
  have heq : mrg us ts = dn ++ y :: mrg (us.drop i) (ts.drop (k + 1)) := by rw [h.eq, he]
  refine ⟨⟨h.iu, by omega, by have := h.sum; omega, by simp [h.len], by rw [heq]; simp⟩, ?_⟩
  rw [heq, List.getElem?_append_right (by rw [h.len]; exact Nat.le_refl _), h.len]
  simp

theorem SameW.range {w w1 : World} (h : SameW w w1) {g o : Nat} {l : List Value} (hr : w.rangeAt g o l) : w1.rangeAt g o l := fun j v hj => by
  have := hr j v hj
  unfold World.cell? at this ⊢
  rw [h.1]
  exact this

set_option maxHeartbeats 2000000 in
set_option maxRecDepth 100000 in
theorem p5c {W w : World} {b1 b2 bm : Option Addr} {n1 n2 c1 c2 cm : Nat} {us ts : List Value} {a : Act} (hs : a.tmps.size = 106) (hl : SlotsL [(0, .slice b1 n1 c1), (1, .slice b2 n2 c2), (7, .slice bm (n1 + n2) cm), (8, .int .i64 0), (9, .int .i64 0)] a.tmps) (hd : a.defers = []) (h1 : In4 W b1 n1 c1 us) (h2 : In4 W b2 n2 c2 ts) (hn1 : n1 ≤ 100) (hn2 : n2 ≤ 100) (hold : Old W w (fun _ => False)) (hrowm : RowAt w bm (mrg us ts)) :
    c56.wp Try.prog (fun e a' w' => e = .normal ∧ K57 W a' w') a w := by
  have hrowa := Lib.hid (h1.row.mono hold)
  have hrowb := Lib.hid (h2.row.mono hold)
  have hrowm := Lib.hid hrowm
  have hra := Lib.hid h1.recs
  have hrb := Lib.hid h2.recs
  have hla := Lib.hid h1.len
  have hlb := Lib.hid h2.len
  have hold' := Lib.hid hold
  clear h1 h2 hold
  obtain ⟨tm, df⟩ := a
  obtain rfl : df = [] := hd
  have hs0 : tm.size = 106 := hs
  have ht := arr_full hs0
  obtain ⟨e0, e1, e7, e8, e9, _⟩ := hl
  simp only [List.range, List.range.loop, List.map] at ht
  rw [ht]
  rw [show tm.getD 0 undef = .slice b1 n1 c1 from e0]
  rw [show tm.getD 1 undef = .slice b2 n2 c2 from e1]
  rw [show tm.getD 7 undef = .slice bm (n1 + n2) cm from e7]
  rw [show tm.getD 8 undef = .int .i64 0 from e8]
  rw [show tm.getD 9 undef = .int .i64 0 from e9]
  clear ht hs hs0 e0 e1 e7 e8 e9
  generalize tm.getD 2 undef = x2
  generalize tm.getD 3 undef = x3
  generalize tm.getD 4 undef = x4
  generalize tm.getD 5 undef = x5
  generalize tm.getD 6 undef = x6
  generalize tm.getD 10 undef = x10
  generalize tm.getD 11 undef = x11
  generalize tm.getD 12 undef = x12
  generalize tm.getD 13 undef = x13
  generalize tm.getD 14 undef = x14
  generalize tm.getD 15 undef = x15
  generalize tm.getD 16 undef = x16
  generalize tm.getD 17 undef = x17
  generalize tm.getD 18 undef = x18
  generalize tm.getD 19 undef = x19
  generalize tm.getD 20 undef = x20
  generalize tm.getD 21 undef = x21
  generalize tm.getD 22 undef = x22
  generalize tm.getD 23 undef = x23
  generalize tm.getD 24 undef = x24
  generalize tm.getD 25 undef = x25
  generalize tm.getD 26 undef = x26
  generalize tm.getD 27 undef = x27
  generalize tm.getD 28 undef = x28
  generalize tm.getD 29 undef = x29
  generalize tm.getD 30 undef = x30
  generalize tm.getD 31 undef = x31
  generalize tm.getD 32 undef = x32
  generalize tm.getD 33 undef = x33
  generalize tm.getD 34 undef = x34
  generalize tm.getD 35 undef = x35
  generalize tm.getD 36 undef = x36
  generalize tm.getD 37 undef = x37
  generalize tm.getD 38 undef = x38
  generalize tm.getD 39 undef = x39
  generalize tm.getD 40 undef = x40
  generalize tm.getD 41 undef = x41
  generalize tm.getD 42 undef = x42
  generalize tm.getD 43 undef = x43
  generalize tm.getD 44 undef = x44
  generalize tm.getD 45 undef = x45
  generalize tm.getD 46 undef = x46
  generalize tm.getD 47 undef = x47
  generalize tm.getD 48 undef = x48
  generalize tm.getD 49 undef = x49
  generalize tm.getD 50 undef = x50
  generalize tm.getD 51 undef = x51
  generalize tm.getD 52 undef = x52
  generalize tm.getD 53 undef = x53
  generalize tm.getD 54 undef = x54
  generalize tm.getD 55 undef = x55
  generalize tm.getD 56 undef = x56
  generalize tm.getD 57 undef = x57
  generalize tm.getD 58 undef = x58
  generalize tm.getD 59 undef = x59
  generalize tm.getD 60 undef = x60
  generalize tm.getD 61 undef = x61
  generalize tm.getD 62 undef = x62
  generalize tm.getD 63 undef = x63
  generalize tm.getD 64 undef = x64
  generalize tm.getD 65 undef = x65
  generalize tm.getD 66 undef = x66
  generalize tm.getD 67 undef = x67
  generalize tm.getD 68 undef = x68
  generalize tm.getD 69 undef = x69
  generalize tm.getD 70 undef = x70
  generalize tm.getD 71 undef = x71
  generalize tm.getD 72 undef = x72
  generalize tm.getD 73 undef = x73
  generalize tm.getD 74 undef = x74
  generalize tm.getD 75 undef = x75
  generalize tm.getD 76 undef = x76
  generalize tm.getD 77 undef = x77
  generalize tm.getD 78 undef = x78
  generalize tm.getD 79 undef = x79
  generalize tm.getD 80 undef = x80
  generalize tm.getD 81 undef = x81
  generalize tm.getD 82 undef = x82
  generalize tm.getD 83 undef = x83
  generalize tm.getD 84 undef = x84
  generalize tm.getD 85 undef = x85
  generalize tm.getD 86 undef = x86
  generalize tm.getD 87 undef = x87
  generalize tm.getD 88 undef = x88
  generalize tm.getD 89 undef = x89
  generalize tm.getD 90 undef = x90
  generalize tm.getD 91 undef = x91
  generalize tm.getD 92 undef = x92
  generalize tm.getD 93 undef = x93
  generalize tm.getD 94 undef = x94
  generalize tm.getD 95 undef = x95
  generalize tm.getD 96 undef = x96
  generalize tm.getD 97 undef = x97
  generalize tm.getD 98 undef = x98
  generalize tm.getD 99 undef = x99
  generalize tm.getD 100 undef = x100
  generalize tm.getD 101 undef = x101
  generalize tm.getD 102 undef = x102
  generalize tm.getD 103 undef = x103
  generalize tm.getD 104 undef = x104
  generalize tm.getD 105 undef = x105

  have hend : ∀ (wr : World) (fr : Array Value), SameW w wr → fr.size = 106 → K57 W ⟨fr, []⟩ wr := fun wr fr hsame hsize => ⟨hsize, hold'.out.trans ⟨by rw [hsame.1]; exact Nat.le_refl _, hsame.2.1, hsame.2.2, fun b _ _ => by rw [hsame.1]⟩⟩
  have hend' := Lib.hid hend
  clear hend
  simp only [c56, s56, s55, s54, s53, s52, s51, body5, Try.f5, Option.getD_some]
  go_wp2
  go_loopw [8, 9, 10] (fun v8 v9 v10 wr => At5c us ts w v8 v9 v10 wr) (fun _ _ v10 _ => n1 + n2 - (intOf v10).toNat)
  case atStart => exact ⟨⟨rfl, rfl, rfl⟩, 0, 0, 0, [], rfl, rfl, rfl, ⟨Nat.zero_le _, Nat.zero_le _, rfl, rfl, by simp⟩⟩
  case round =>
    obtain ⟨hsame, i, k, j, dn, rfl, rfl, rfl, hm⟩ := hrel
    have hsm := Lib.hid hsame
    have hm' := Lib.hid hm
    have hjk : j = i + k := hm.sum
    have hi : i ≤ n1 := by rw [← hla.out]; exact hm.iu
    have hk : k ≤ n2 := by rw [← hlb.out]; exact hm.kt
    have hj2 : j ≤ n1 + n2 := by omega
    clear hsame hm
    by_cases hjn : j < n1 + n2
    · by_cases hin : i < n1
      · obtain ⟨x, hx⟩ : ∃ x, us[i]? = some x := ⟨us[i]'(by have := hla.out; omega), List.getElem?_eq_getElem _⟩
        have hux := Lib.hid hx
        have hxt := Lib.hid (hra.out x (List.mem_of_getElem? hx))
        have hdx := drop_one hx
        by_cases hkn : k < n2
        · obtain ⟨y, hy⟩ : ∃ y, ts[k]? = some y := ⟨ts[k]'(by have := hlb.out; omega), List.getElem?_eq_getElem _⟩
          have hty := Lib.hid hy
          have hyt := Lib.hid (hrb.out y (List.mem_of_getElem? hy))
          have hdy := drop_one hy
          have hz1 : ((k : Int) == (n2 : Int)) = false := by simp; omega
          have hz2 : decide ((k : Int) = (n2 : Int)) = false := by simp; omega
          have hz3 : decide (k = n2) = false := by simp; omega
          have hz4 : (k == n2) = false := by simp; omega
          by_cases hc : cyOf x ≤ cyOf y
          · have hm2 := hm'.out.left hx (by rw [hdx, hdy, mrg, if_pos hc])
            have hcy := Lib.hid hc
            have hjk' := Lib.hid hjk
            clear hx hy hdx hdy hc hjk
            have hcm := hrowm.out j x hm2.2
            obtain ⟨om, qm, rfl, hbm, hrm⟩ := hcm
            obtain ⟨ot, qt, rfl, hbt, hrt⟩ := hrowa.out i x hux.out
            have hm2' := Lib.hid hm2.1
            clear hm2
            obtain ⟨oo, qo, rfl, hbo, hro⟩ := hrowb.out k y hty.out
            obtain ⟨b0, b1, b2, b3, b4, b5, b6, b7, b8, b9, b10, b11, rfl⟩ := hyt.out
            have f0 := hsm.out.range hro 0 _ rfl
            simp only [Nat.add_zero] at f0
            clear hro
            obtain ⟨a0, a1, a2, a3, a4, a5, a6, a7, a8, a9, a10, a11, rfl⟩ := hxt.out
            obtain ⟨e0, e1, e2, e3, e4, e5, e6, e7, e8, e9, e10, e11⟩ := rec_cells (hsm.out.range hrt)
            obtain ⟨g0, g1, g2, g3, g4, g5, g6, g7, g8, g9, g10, g11⟩ := rec_cells (hsm.out.range hrm)
            clear hrt hrm hbt hbm
            have hd : decide (a0 ≤ b0) = true := by simpa [cyOf] using hcy.out
            go_wp2_with fail
            go_quiet (fail)
            go_wp2_with fail
            go_quiet (fail)
            go_wp2
            go_roundw
            case rel => exact ⟨hsm.out, _, _, _, _, by go_num, rfl, by go_num, hm2'.out⟩
            case measure => simp [intOf]; omega
          · have hm2 := hm'.out.right hy (by rw [hdx, hdy, mrg, if_neg hc])
            have hcy := Lib.hid hc
            have hjk' := Lib.hid hjk
            clear hx hy hdx hdy hc hjk
            have hcm := hrowm.out j y hm2.2
            obtain ⟨om, qm, rfl, hbm, hrm⟩ := hcm
            obtain ⟨ot, qt, rfl, hbt, hrt⟩ := hrowb.out k y hty.out
            have hm2' := Lib.hid hm2.1
            clear hm2
            obtain ⟨oo, qo, rfl, hbo, hro⟩ := hrowa.out i x hux.out
            obtain ⟨b0, b1, b2, b3, b4, b5, b6, b7, b8, b9, b10, b11, rfl⟩ := hxt.out
            have f0 := hsm.out.range hro 0 _ rfl
            simp only [Nat.add_zero] at f0
            clear hro
            obtain ⟨a0, a1, a2, a3, a4, a5, a6, a7, a8, a9, a10, a11, rfl⟩ := hyt.out
            obtain ⟨e0, e1, e2, e3, e4, e5, e6, e7, e8, e9, e10, e11⟩ := rec_cells (hsm.out.range hrt)
            obtain ⟨g0, g1, g2, g3, g4, g5, g6, g7, g8, g9, g10, g11⟩ := rec_cells (hsm.out.range hrm)
            clear hrt hrm hbt hbm
            have hd : decide (b0 ≤ a0) = false := by simpa [cyOf] using hcy.out
            go_wp2_with fail
            go_quiet (fail)
            go_wp2_with fail
            go_quiet (fail)
            go_wp2
            go_roundw
            case rel => exact ⟨hsm.out, _, _, _, _, rfl, by go_num, by go_num, hm2'.out⟩
            case measure => simp [intOf]; omega
        · obtain rfl : k = n2 := by omega
          have hdn : ts.drop k = [] := List.drop_of_length_le (by rw [hlb.out]; exact Nat.le_refl _)
          have hm2 := hm'.out.left hx (by rw [hdx, hdn, mrg_nil, mrg_nil])
          have hjk' := Lib.hid hjk
          clear hx hdx hdn hjk
          have hcm := hrowm.out j x hm2.2
          obtain ⟨om, qm, rfl, hbm, hrm⟩ := hcm
          obtain ⟨ot, qt, rfl, hbt, hrt⟩ := hrowa.out i x hux.out
          have hm2' := Lib.hid hm2.1
          clear hm2
          obtain ⟨a0, a1, a2, a3, a4, a5, a6, a7, a8, a9, a10, a11, rfl⟩ := hxt.out
          obtain ⟨e0, e1, e2, e3, e4, e5, e6, e7, e8, e9, e10, e11⟩ := rec_cells (hsm.out.range hrt)
          obtain ⟨g0, g1, g2, g3, g4, g5, g6, g7, g8, g9, g10, g11⟩ := rec_cells (hsm.out.range hrm)
          clear hrt hrm hbt hbm
          go_wp2_with fail
          go_quiet (fail)
          go_wp2_with fail
          go_quiet (fail)
          go_wp2
          go_roundw
          case rel => exact ⟨hsm.out, _, _, _, _, by go_num, rfl, by go_num, hm2'.out⟩
          case measure => simp [intOf]; omega
      · obtain rfl : i = n1 := by omega
        have hkn : k < n2 := by omega
        obtain ⟨y, hy⟩ : ∃ y, ts[k]? = some y := ⟨ts[k]'(by have := hlb.out; omega), List.getElem?_eq_getElem _⟩
        have hty := Lib.hid hy
        have hyt := Lib.hid (hrb.out y (List.mem_of_getElem? hy))
        have hdy := drop_one hy
        have hdn : us.drop i = [] := List.drop_of_length_le (by rw [hla.out]; exact Nat.le_refl _)
        have hm2 := hm'.out.right hy (by rw [hdy, hdn]; simp [mrg])
        have hjk' := Lib.hid hjk
        clear hy hdy hdn hjk
        have hcm := hrowm.out j y hm2.2
        obtain ⟨om, qm, rfl, hbm, hrm⟩ := hcm
        obtain ⟨ot, qt, rfl, hbt, hrt⟩ := hrowb.out k y hty.out
        have hm2' := Lib.hid hm2.1
        clear hm2
        obtain ⟨a0, a1, a2, a3, a4, a5, a6, a7, a8, a9, a10, a11, rfl⟩ := hyt.out
        obtain ⟨e0, e1, e2, e3, e4, e5, e6, e7, e8, e9, e10, e11⟩ := rec_cells (hsm.out.range hrt)
        obtain ⟨g0, g1, g2, g3, g4, g5, g6, g7, g8, g9, g10, g11⟩ := rec_cells (hsm.out.range hrm)
        clear hrt hrm hbt hbm
        go_wp2_with fail
        go_quiet (fail)
        go_wp2_with fail
        go_quiet (fail)
        go_wp2
        go_roundw
        case rel => exact ⟨hsm.out, _, _, _, _, rfl, by go_num, by go_num, hm2'.out⟩
        case measure => simp [intOf]; omega
    · have hjk' := Lib.hid hjk
      clear hjk
      go_wp2
      exact hend'.out _ _ hsm.out rfl
end Go.Proofs.Ytofoplpnpfaofaa
