/- What is proved here: TeeUntil's law's own loop. Conditions: its list reads as records. -/
import Derived.Test.YtofoplpnpfaofaaU1
set_option linter.unusedSimpArgs false
set_option linter.unusedVariables false
namespace Go.Proofs.Ytofoplpnpfaofaa
open Go Go.Conc Go.RowKit

def SameW (w w1 : World) : Prop := w1.heap = w.heap ∧ w1.os = w.os ∧ w1.output = w.output
def AtC4 (pc : Int) (vs : List Value) (w : World) (b1 : Option Addr) (n c1 : Nat) (v12 v13 v14 : Value) (wr : World) : Prop :=
  SameW w wr ∧ ∃ i : Nat, i ≤ n ∧ v14 = .int .i64 i ∧ ((v13 = .bool false ∧ v12 = .slice b1 n c1 ∧ NoneBefore pc vs i) ∨ (v13 = .bool true ∧ ∃ m, v12 = .slice b1 m c1 ∧ Cut pc vs m true))

set_option maxRecDepth 100000 in
set_option maxHeartbeats 1000000 in
theorem p45 {W w : World} {b1 : Option Addr} {n c1 : Nat} {vs : List Value} {pc : Int} {v v2 : Value} {m : Nat} {found : Bool} {a : Act} (hs : a.tmps.size = 74) (hl : SlotsL [(0, .slice b1 n c1), (1, .int .u64 pc), (4, .pointer (some ⟨W.heap.size, 0, none⟩)), (7, .pointer (some ⟨W.heap.size + 1, 0, none⟩)), (8, v), (9, .bool found), (10, v2), (11, .bool false), (12, .slice b1 n c1), (13, .bool false)] a.tmps) (hd : a.defers = []) (hin : In4 W b1 n c1 vs) (h2 : Two4 W pc m w) (hcut : Cut pc vs m found) (hrows : Rows w v (vs.take m)) (hrows2 : Rows w v2 vs) :
    c45.wp Try.prog (fun e a' w' => e = .normal ∧ K46 W b1 n c1 vs pc v m found v2 a' w') a w := by
  have h2' := Lib.hid h2
  have hc' := Lib.hid hcut
  have hr' := Lib.hid hrows
  have hr2' := Lib.hid hrows2
  have hin' := Lib.hid hin
  have h63 : n ≤ 9223372036854775806 := by have := hin.room; omega
  have hncap := hin.cap
  clear h2 hcut hrows hrows2 hin
  obtain ⟨tm, df⟩ := a
  obtain rfl : df = [] := hd
  have hs0 : tm.size = 74 := hs
  have ht := arr_full hs0
  obtain ⟨e0, e1, e4, e7, e8, e9, e10, e11, e12, e13, _⟩ := hl
  simp only [List.range, List.range.loop, List.map] at ht
  rw [ht]
  rw [show tm.getD 0 undef = .slice b1 n c1 from e0]
  rw [show tm.getD 1 undef = .int .u64 pc from e1]
  rw [show tm.getD 4 undef = .pointer (some ⟨W.heap.size, 0, none⟩) from e4]
  rw [show tm.getD 7 undef = .pointer (some ⟨W.heap.size + 1, 0, none⟩) from e7]
  rw [show tm.getD 8 undef = v from e8]
  rw [show tm.getD 9 undef = .bool found from e9]
  rw [show tm.getD 10 undef = v2 from e10]
  rw [show tm.getD 11 undef = .bool false from e11]
  rw [show tm.getD 12 undef = .slice b1 n c1 from e12]
  rw [show tm.getD 13 undef = .bool false from e13]
  clear ht hs hs0 e0 e1 e4 e7 e8 e9 e10 e11 e12 e13
  generalize tm.getD 2 undef = x2
  generalize tm.getD 3 undef = x3
  generalize tm.getD 5 undef = x5
  generalize tm.getD 6 undef = x6
  generalize tm.getD 14 undef = x14
  generalize tm.getD 15 undef = x15
  generalize tm.getD 16 undef = x16
  generalize tm.getD 17 undef = x17
  generalize tm.getD 18 undef = x18
  generalize tm.getD 19 undef = x19
  generalize tm.getD 20 undef = x20
  generalize tm.getD 21 undef = x21
  generalize tm.getD 22 undef = x22
  generalize tm.getD 23 undef = x23
  generalize tm.getD 24 undef = x24
  generalize tm.getD 25 undef = x25
  generalize tm.getD 26 undef = x26
  generalize tm.getD 27 undef = x27
  generalize tm.getD 28 undef = x28
  generalize tm.getD 29 undef = x29
  generalize tm.getD 30 undef = x30
  generalize tm.getD 31 undef = x31
  generalize tm.getD 32 undef = x32
  generalize tm.getD 33 undef = x33
  generalize tm.getD 34 undef = x34
  generalize tm.getD 35 undef = x35
  generalize tm.getD 36 undef = x36
  generalize tm.getD 37 undef = x37
  generalize tm.getD 38 undef = x38
  generalize tm.getD 39 undef = x39
  generalize tm.getD 40 undef = x40
  generalize tm.getD 41 undef = x41
  generalize tm.getD 42 undef = x42
  generalize tm.getD 43 undef = x43
  generalize tm.getD 44 undef = x44
  generalize tm.getD 45 undef = x45
  generalize tm.getD 46 undef = x46
  generalize tm.getD 47 undef = x47
  generalize tm.getD 48 undef = x48
  generalize tm.getD 49 undef = x49
  generalize tm.getD 50 undef = x50
  generalize tm.getD 51 undef = x51
  generalize tm.getD 52 undef = x52
  generalize tm.getD 53 undef = x53
  generalize tm.getD 54 undef = x54
  generalize tm.getD 55 undef = x55
  generalize tm.getD 56 undef = x56
  generalize tm.getD 57 undef = x57
  generalize tm.getD 58 undef = x58
  generalize tm.getD 59 undef = x59
  generalize tm.getD 60 undef = x60
  generalize tm.getD 61 undef = x61
  generalize tm.getD 62 undef = x62
  generalize tm.getD 63 undef = x63
  generalize tm.getD 64 undef = x64
  generalize tm.getD 65 undef = x65
  generalize tm.getD 66 undef = x66
  generalize tm.getD 67 undef = x67
  generalize tm.getD 68 undef = x68
  generalize tm.getD 69 undef = x69
  generalize tm.getD 70 undef = x70
  generalize tm.getD 71 undef = x71
  generalize tm.getD 72 undef = x72
  generalize tm.getD 73 undef = x73

  have hend : ∀ (wr : World) (x6 x14 : Value) (fr : Array Value) (mm : Nat) (ff : Bool), SameW w wr → Cut pc vs mm ff → fr.size = 74 → SlotsL ([(0, .slice b1 n c1), (1, .int .u64 pc), (4, .pointer (some ⟨W.heap.size, 0, none⟩)), (7, .pointer (some ⟨W.heap.size + 1, 0, none⟩)), (8, v), (9, .bool found), (10, v2), (11, .bool false)] ++ [(12, .slice b1 mm c1), (13, .bool ff)]) fr → K46 W b1 n c1 vs pc v m found v2 ⟨fr, []⟩ wr := by
    intro wr x6 x14 fr mm ff hsame hcut2 hsize hsl
    obtain ⟨rfl, rfl⟩ := hc'.out.unique hcut2
    obtain ⟨e0, e1, e4, e7, e8, e9, e10, e11, e12, e13, _⟩ := hsl
    obtain ⟨g1, g2, g3⟩ := hsame
    have ho : Old w wr (fun _ => False) := ⟨by rw [g1]; exact Nat.le_refl _, g2, g3, fun b _ _ => by rw [g1]⟩
    exact ⟨hsize, ⟨e0, e1, e4, e7, e8, e9, e10, e11, e12, e13, trivial⟩, h2'.out.on ho, hc'.out, hr'.out.on ho, hr2'.out.on ho⟩
  have hend' := Lib.hid hend
  clear hend
  simp only [c45, s45, s44, s43, s42, s41, body4, Try.f4, Option.getD_some]
  go_wp2
  go_loopw [12, 13, 14] (fun v12 v13 v14 wr => AtC4 pc vs w b1 n c1 v12 v13 v14 wr) (fun _ _ v14 _ => n - (intOf v14).toNat)
  case atStart => exact ⟨⟨rfl, rfl, rfl⟩, 0, Nat.zero_le _, rfl, .inl ⟨rfl, rfl, fun j v h => by omega⟩⟩
  case round =>
    obtain ⟨hsame, i, hi, rfl, hcase⟩ := hrel
    have hsame' := Lib.hid hsame
    clear hsame
    rcases hcase with ⟨rfl, rfl, hno⟩ | ⟨rfl, mm, rfl, hcut2⟩
    · have hno' := Lib.hid hno
      clear hno
      by_cases hlt : i < n
      · obtain ⟨u, hu⟩ : ∃ u, vs[i]? = some u := ⟨vs[i]'(by have := hin'.out.len; omega), List.getElem?_eq_getElem _⟩
        have hrec := hin'.out.recs u (List.mem_of_getElem? hu)
        obtain ⟨o1, q1, rfl, hb1, hr1⟩ := hin'.out.row i u hu
        have hr2 := h2'.out.old.range hb1 id hr1
        have hpcw : wr.cell? ⟨W.heap.size, 0, none⟩ = some (.int .u64 pc) := by unfold World.cell?; rw [hsame'.out.1, h2'.out.pc]; rfl
        have hr3 : wr.rangeAt o1 (q1 + i * 12) u.cells.toList := fun j v hj => by have := hr2 j v hj; unfold World.cell? at this ⊢; rw [hsame'.out.1]; exact this
        have hu' := Lib.hid hu
        clear hr1 hr2 hu
        cases hq : (pcOf u == pc) with
        | true =>
          have hcut : Cut pc vs (i + 1) true := .inl ⟨rfl, i, u, rfl, hno'.out, hu'.out, by simpa using hq⟩
          have hcut' := Lib.hid hcut
          clear hcut
          obtain ⟨a0, a1, a2, a3, a4, a5, a6, a7, a8, a9, a10, a11, rfl⟩ := hrec
          have e1 := hr3 1 _ rfl
          have hq' : (a1 == pc) = true := hq
          clear hr3 hu' hq
          go_wp2_with fail
          go_quiet (fail)
          go_wp2
          go_roundw
          case rel => exact ⟨hsame'.out, i + 1, by omega, by go_num, .inr ⟨rfl, i + 1, rfl, hcut'.out⟩⟩
          case measure => simp [intOf]; omega
        | false =>
          have hno2 : NoneBefore pc vs (i + 1) := by
            intro j y hj hy
            rcases Nat.lt_or_ge j i with h | h
            · exact hno'.out j y h hy
            · obtain rfl : j = i := by omega
              rw [hu'.out] at hy
              cases hy
              simpa using hq
          have hno2' := Lib.hid hno2
          clear hno2
          obtain ⟨a0, a1, a2, a3, a4, a5, a6, a7, a8, a9, a10, a11, rfl⟩ := hrec
          have e1 := hr3 1 _ rfl
          have hq' : (a1 == pc) = false := hq
          clear hr3 hu' hq
          go_wp2_with fail
          go_quiet (fail)
          go_wp2
          go_roundw
          case rel => exact ⟨hsame'.out, i + 1, by omega, by go_num, .inl ⟨rfl, rfl, hno2'.out⟩⟩
          case measure => simp [intOf]; omega
      · obtain rfl : i = n := by omega
        have hcut2 : Cut pc vs i false := .inr ⟨rfl, hin'.out.len.symm, by rw [hin'.out.len]; exact hno'.out⟩
        have hcut2' := Lib.hid hcut2
        clear hcut2
        go_wp2
        exact hend'.out _ undef undef _ _ _ hsame'.out hcut2'.out rfl ⟨rfl, rfl, rfl, rfl, rfl, rfl, rfl, rfl, rfl, rfl, trivial⟩
    · have hcut2' := Lib.hid hcut2
      clear hcut2
      by_cases hlt : i < n
      · go_wp2
        exact hend'.out _ undef undef _ _ _ hsame'.out hcut2'.out rfl ⟨rfl, rfl, rfl, rfl, rfl, rfl, rfl, rfl, rfl, rfl, trivial⟩
      · obtain rfl : i = n := by omega
        go_wp2
        exact hend'.out _ undef undef _ _ _ hsame'.out hcut2'.out rfl ⟨rfl, rfl, rfl, rfl, rfl, rfl, rfl, rfl, rfl, rfl, trivial⟩
end Go.Proofs.Ytofoplpnpfaofaa
