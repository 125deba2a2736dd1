/- What is proved here: TeeSpreads' law's own loop. Conditions: its list reads as records. -/
import Derived.Test.YtofoplpnpfaofaaS2
set_option linter.unusedSimpArgs false
set_option linter.unusedVariables false
namespace Go.Proofs.Ytofoplpnpfaofaa
open Go Go.Conc Go.RowKit

theorem ok37 : codeOk Qp [] c37 = true := by kernel_rfl
def At3c (ln : Nat) (w : World) (v10 : Value) (wr : World) : Prop := ∃ i : Nat, i ≤ ln ∧ v10 = .int .i64 ((i : Nat) : Int) ∧ Old w wr (fun _ => False)
/-- At the law's end. -/
structure K38 (W : World) (a : Act) (w : World) : Prop where
  size : a.tmps.size = 77
  old : Old W w (fun _ => False)

set_option maxHeartbeats 1000000 in
set_option maxRecDepth 100000 in
theorem p3c {W w : World} {b1 : Option Addr} {m c1 ln ob : Nat} {vs : List Value} {a : Act} (hs : a.tmps.size = 77) (hl : SlotsL [(0, .slice b1 m c1), (8, .slice (some ⟨ob, 0, none⟩) ln ln)] a.tmps) (hd : a.defers = []) (h1 : In4 W b1 m c1 vs) (hln : ln ≤ 16) (hold : Old W w (fun _ => False)) (hh : Heard w ob ln m vs) :
    c37.wp Try.prog (fun e a' w' => e = .normal ∧ K38 W a' w') a w := by
  have hold' := Lib.hid hold
  have hh' := Lib.hid hh
  have h1' := Lib.hid h1
  clear h1 hold hh
  obtain ⟨tm, df⟩ := a
  obtain rfl : df = [] := hd
  have hs0 : tm.size = 77 := hs
  have ht := arr_full hs0
  obtain ⟨e0, e8, _⟩ := hl
  simp only [List.range, List.range.loop, List.map] at ht
  rw [ht]
  rw [show tm.getD 0 undef = .slice b1 m c1 from e0]
  rw [show tm.getD 8 undef = .slice (some ⟨ob, 0, none⟩) ln ln from e8]
  clear ht hs hs0 e0 e8
  generalize tm.getD 1 undef = x1
  generalize tm.getD 2 undef = x2
  generalize tm.getD 3 undef = x3
  generalize tm.getD 4 undef = x4
  generalize tm.getD 5 undef = x5
  generalize tm.getD 6 undef = x6
  generalize tm.getD 7 undef = x7
  generalize tm.getD 9 undef = x9
  generalize tm.getD 10 undef = x10
  generalize tm.getD 11 undef = x11
  generalize tm.getD 12 undef = x12
  generalize tm.getD 13 undef = x13
  generalize tm.getD 14 undef = x14
  generalize tm.getD 15 undef = x15
  generalize tm.getD 16 undef = x16
  generalize tm.getD 17 undef = x17
  generalize tm.getD 18 undef = x18
  generalize tm.getD 19 undef = x19
  generalize tm.getD 20 undef = x20
  generalize tm.getD 21 undef = x21
  generalize tm.getD 22 undef = x22
  generalize tm.getD 23 undef = x23
  generalize tm.getD 24 undef = x24
  generalize tm.getD 25 undef = x25
  generalize tm.getD 26 undef = x26
  generalize tm.getD 27 undef = x27
  generalize tm.getD 28 undef = x28
  generalize tm.getD 29 undef = x29
  generalize tm.getD 30 undef = x30
  generalize tm.getD 31 undef = x31
  generalize tm.getD 32 undef = x32
  generalize tm.getD 33 undef = x33
  generalize tm.getD 34 undef = x34
  generalize tm.getD 35 undef = x35
  generalize tm.getD 36 undef = x36
  generalize tm.getD 37 undef = x37
  generalize tm.getD 38 undef = x38
  generalize tm.getD 39 undef = x39
  generalize tm.getD 40 undef = x40
  generalize tm.getD 41 undef = x41
  generalize tm.getD 42 undef = x42
  generalize tm.getD 43 undef = x43
  generalize tm.getD 44 undef = x44
  generalize tm.getD 45 undef = x45
  generalize tm.getD 46 undef = x46
  generalize tm.getD 47 undef = x47
  generalize tm.getD 48 undef = x48
  generalize tm.getD 49 undef = x49
  generalize tm.getD 50 undef = x50
  generalize tm.getD 51 undef = x51
  generalize tm.getD 52 undef = x52
  generalize tm.getD 53 undef = x53
  generalize tm.getD 54 undef = x54
  generalize tm.getD 55 undef = x55
  generalize tm.getD 56 undef = x56
  generalize tm.getD 57 undef = x57
  generalize tm.getD 58 undef = x58
  generalize tm.getD 59 undef = x59
  generalize tm.getD 60 undef = x60
  generalize tm.getD 61 undef = x61
  generalize tm.getD 62 undef = x62
  generalize tm.getD 63 undef = x63
  generalize tm.getD 64 undef = x64
  generalize tm.getD 65 undef = x65
  generalize tm.getD 66 undef = x66
  generalize tm.getD 67 undef = x67
  generalize tm.getD 68 undef = x68
  generalize tm.getD 69 undef = x69
  generalize tm.getD 70 undef = x70
  generalize tm.getD 71 undef = x71
  generalize tm.getD 72 undef = x72
  generalize tm.getD 73 undef = x73
  generalize tm.getD 74 undef = x74
  generalize tm.getD 75 undef = x75
  generalize tm.getD 76 undef = x76

  have hend : ∀ (wr : World) (fr : Array Value), Old w wr (fun _ => False) → fr.size = 77 → K38 W ⟨fr, []⟩ wr := fun wr fr ho hsize => ⟨hsize, hold'.out.trans ho⟩
  have hend' := Lib.hid hend
  clear hend
  have info22' := info22
  obtain ⟨i22, hi2, hz2, hs22, _⟩ := info_parts info22'
  simp only [c37, s38, s37, s36, s35, s34, s33, s32, s31, body3, Try.f3, Option.getD_some]
  go_wp2
  go_loopw [10] (fun v10 wr => At3c ln w v10 wr) (fun v10 _ => ln - (intOf v10).toNat)
  case atStart => exact ⟨0, Nat.zero_le _, rfl, Old.refl _ _⟩
  case round =>
    obtain ⟨i, hi, rfl, ho⟩ := hrel
    have ho' := Lib.hid ho
    clear ho
    by_cases hlt : i < ln
    · obtain ⟨bk, ck, hc, hrk⟩ := (hh'.out.on ho'.out).2 i hlt
      have hp := Lib.hid (plain_calls (w := wr) (c1 := ck) (c2 := c1) h1'.out.len (by have := h1'.out.room; omega) h1'.out.recs hrk (h1'.out.row.mono (hold'.out.trans ho'.out)))
      clear hrk
      go_wp2_with (go_at_call 10; refine hp.out.mono ?_; rintro e w1 ⟨rfl, ho1⟩; have ho1' := Lib.hid ho1; clear ho1)
      go_roundw
      case rel => exact ⟨i + 1, by omega, by go_num, ho'.out.trans ho1'.out⟩
      case measure => simp [intOf]; omega
    · obtain rfl : i = ln := by omega
      go_wp2
      exact hend'.out _ _ ho'.out rfl
end Go.Proofs.Ytofoplpnpfaofaa
