/- What is proved here: TeeUntilSaid: whatever the input, the law answers true, and what came in reads as it did. No condition. -/
import Derived.Test.YtofoplpnpfaofaaU3
import Derived.Test.YtofoplpnpfaofaaClaim
set_option linter.unusedSimpArgs false
set_option linter.unusedVariables false
namespace Go.Proofs.Ytofoplpnpfaofaa
open Go Go.Conc Go.RowKit Go.ChangeShapes Go.WideShapes Go.ChangeAt Go.Deep

theorem enter4 (args : Array Value) : Frame.enter Try.prog 4 args .normal = (base 4).at ⟨args ++ Array.replicate (74 - args.size) undef, []⟩ [.code body4] := by
  simp [Frame.enter, Frame.at, Try.func4, base, Try.f4, body4]

theorem Cut.le {pc : Int} {vs : List Value} {m : Nat} {f : Bool} (h : Cut pc vs m f) : m ≤ vs.length := by
  rcases h with ⟨_, i, v, rfl, _, h2, _⟩ | ⟨_, rfl, _⟩
  · have := (List.getElem?_eq_some_iff.1 h2).1; omega
  · exact Nat.le_refl _

theorem fv17 (x y z : Value) : ∀ t ∈ [17], FV Qp ((⟨#[x, y, z] ++ Array.replicate (74 - (#[x, y, z] : Array Value).size) undef, []⟩ : Act).tmps.getD t undef) := by
  intro t ht
  obtain rfl := List.mem_singleton.1 ht
  have e : (#[x, y, z] ++ Array.replicate (74 - (#[x, y, z] : Array Value).size) undef).getD 17 undef = undef := by simp
  show FV Qp ((#[x, y, z] ++ Array.replicate (74 - (#[x, y, z] : Array Value).size) undef).getD 17 undef)
  rw [e]
  exact .inr (.inl rfl)

def At46 (W : World) (b1 : Option Addr) (n c1 : Nat) (vs : List Value) (pc : Int) (g : Goroutine) (w : World) : Prop :=
  ∃ a v m found v2, g = G ((base 4).at a [.code s46]) [] ∧ a.defers = [] ∧ K46 W b1 n c1 vs pc v m found v2 a w

set_option maxRecDepth 100000 in
theorem law4_goes {W : World} {b1 : Option Addr} {n c1 : Nat} {vs : List Value} {pc : Int} {nn : Bool} (hin : In4 W b1 n c1 vs) :
    GoesI Try.prog (At46 W b1 n c1 vs pc) (G (Frame.enter Try.prog 4 #[.slice b1 n c1, .int .u64 pc, .bool nn] .normal) []) W := by
  rw [enter4, body4_eq]
  refine GoesI.ctl rfl (fun w => stepG_seq) ?_
  refine GoesI.pc safeQ (S := [17]) (R := fun a w => K41 W b1 n c1 vs pc a w) (fun a w τ d h => ⟨h.size, h.slots, h.old.sw τ d, h.pcell, h.hsize⟩) rfl rfl (fv17 _ _ _) ok40 (fun τ d => p40 (by simp) ⟨by simp, by simp, trivial⟩ rfl ⟨rfl, rfl, rfl⟩) (fun a1 w1 k1 hd1 hf1 => ?_)
  refine GoesI.ctl rfl (fun w => stepG_seq) ?_
  refine GoesI.pc safeQ (S := [17]) (R := fun a w => K42 W b1 n c1 vs pc a w) (fun a w τ d h => ⟨h.size, h.slots, h.two.sw τ d⟩) rfl hd1 hf1 ok41 (fun τ d => p41 k1.size k1.slots hd1 (k1.old.sw τ d) k1.pcell k1.hsize) (fun a2 w2 k2 hd2 hf2 => ?_)
  refine GoesI.ctl rfl (fun w => stepG_seq) ?_
  refine GoesI.pc safeQ (S := [17]) (R := fun a w => K43E W b1 n c1 vs pc a w) (fun a w τ d ⟨v, m, found, h⟩ => ⟨v, m, found, h.size, h.slots, h.two.sw τ d, h.cut, h.rows.sw τ d⟩) rfl hd2 hf2 ok42 (fun τ d => p42 k2.size k2.slots hd2 hin (k2.two.sw τ d)) (fun a3 w3 k3 hd3 hf3 => ?_)
  obtain ⟨v, m, found, k3⟩ := k3
  refine GoesI.ctl rfl (fun w => stepG_seq) ?_
  refine GoesI.pc safeQ (S := [17]) (R := fun a w => ∃ v2, K44 W b1 n c1 vs pc v m found v2 a w) (fun a w τ d ⟨v2, h⟩ => ⟨v2, h.size, h.slots, h.two.sw τ d, h.cut, h.rows.sw τ d, h.rows2.sw τ d⟩) rfl hd3 hf3 ok43 (fun τ d => p43 k3.size k3.slots hd3 hin (k3.two.sw τ d) k3.cut (k3.rows.sw τ d)) (fun a4 w4 k4 hd4 hf4 => ?_)
  obtain ⟨v2, k4⟩ := k4
  refine GoesI.ctl rfl (fun w => stepG_seq) ?_
  refine GoesI.pc safeQ (S := [17]) (R := fun a w => K45 W b1 n c1 vs pc v m found v2 a w) (fun a w τ d h => ⟨h.size, h.slots, h.two.sw τ d, h.cut, h.rows.sw τ d, h.rows2.sw τ d⟩) rfl hd4 hf4 ok44 (fun τ d => p44 k4.size k4.slots hd4 (k4.two.sw τ d) k4.cut (k4.rows.sw τ d) (k4.rows2.sw τ d)) (fun a5 w5 k5 hd5 hf5 => ?_)
  refine GoesI.ctl rfl (fun w => stepG_seq) ?_
  refine GoesI.pc safeQ (S := [17]) (R := fun a w => K46 W b1 n c1 vs pc v m found v2 a w) (fun a w τ d h => ⟨h.size, h.slots, h.two.sw τ d, h.cut, h.rows.sw τ d, h.rows2.sw τ d⟩) rfl hd5 hf5 ok45 (fun τ d => p45 k5.size k5.slots hd5 hin (k5.two.sw τ d) k5.cut (k5.rows.sw τ d) (k5.rows2.sw τ d)) (fun a6 w6 k6 hd6 hf6 => ?_)
  exact .stop fun d => ⟨a6, v, m, found, v2, rfl, hd6, k6.size, k6.slots, k6.two.on ((Old.refl w6 _).at_ d), k6.cut, k6.rows.on ((Old.refl w6 _).at_ d), k6.rows2.on ((Old.refl w6 _).at_ d)⟩

theorem law4_reach {W : World} {b1 : Option Addr} {n c1 : Nat} {vs : List Value} {pc : Int} {nn : Bool} (hin : In4 W b1 n c1 vs) :
    Reach Try.prog (G (Frame.enter Try.prog 4 #[.slice b1 n c1, .int .u64 pc, .bool nn] .normal) []) W fun g' w' => AtDone Try.prog (.bool true) g' ∧ Old W w' (fun _ => False) := by
  refine (Reach.of_goes (law4_goes hin)).trans ?_
  rintro g w ⟨a, v, m, found, v2, rfl, hd, k⟩
  obtain ⟨bv, cv, rfl, hrv⟩ := k.rows.at
  obtain ⟨b2, c2, rfl, hr2⟩ := k.rows2.at
  have hm := k.cut.le
  have hlen := hin.len
  have hml : (vs.take m).length = m := by rw [List.length_take]; omega
  have hsl := k.slots
  rw [hml, hlen] at hsl
  refine (tail4 k.size hsl hd hin (by omega) k.two hrv hr2).trans ?_
  rintro g' w' ⟨h1, h2⟩
  exact Reach.here ⟨h1, k.two.old.trans h2⟩

theorem readable4 : ∀ t ∈ Try.f4.params.toList, Try.prog.readableRec t = true ∧ t < Try.prog.types.size := by
  intro t ht
  have h : t = 22 ∨ t = 24 ∨ t = 4 := by simpa [Try.f4] using ht
  rcases h with rfl | rfl | rfl <;> exact ⟨by kernel_rfl, of_decide_eq_true (by kernel_rfl)⟩

set_option maxRecDepth 100000 in
theorem until_lifted (os : Os) (started : os.Started) (H : Type) (enc : TypeId × Value → H) :
    ReturnsInLeavingWide {} Try.checked os 4 .any (Rows.teeUntilSpec.pre6 enc Try.prog Try.f4 Rows.teeUntilRow.domain false) (Rows.teeUntilSpec.post enc Try.prog Try.f4 false true false false) := by
  refine returnsInLeavingWide_of_change_sized (C := Try.checked) own started Try.func4
    (ChangeSpec.witness6 (enc := enc) (C := Try.checked) false ⟨#[], #[.slice none 0 0, .int .u64 0, .bool false], []⟩ 8 (by kernel_rfl) (by kernel_rfl) (by kernel_rfl) (by kernel_rfl)) ?_
  intro W base args ds gs before hval hW _ hsz _
  have hW' := hW
  obtain ⟨p, q, hA0, hV, rfl, _, _⟩ := hW
  obtain ⟨v0, v1, v2, d0, d1, d2, p0, p1, p2, rfl, rfl, hp, h0, h1, h2⟩ := trodAll_three (t := 22) (t' := 24) (t'' := 4) hA0
  obtain ⟨rfl, rfl⟩ := trodVars_none hV
  obtain ⟨b1, n, c1, vs, rfl, hin⟩ := open_arg (hval 0 22 v0 rfl rfl) h0 hsz (j := 0) rfl rfl
  obtain ⟨pc, rfl⟩ := okWide_int Try.underlying24 (hval 1 24 v1 rfl rfl)
  obtain ⟨nn, rfl⟩ := okWide_bool Try.underlying4 (hval 2 4 v2 rfl rfl)
  refine good_of_reach (v := .bool true) ((law4_reach hin).trans ?_)
  rintro g w ⟨h1, h2⟩
  exact Reach.here ⟨h1, fun d => post_true hW' rfl rfl rfl rfl rfl readable4 (h2.at_ d)⟩

theorem until_holds : Rows.TeeUntilSaid :=
  OpenClaim.holds_of_wide_leaving 4 Try.f4 rfl rfl rfl rfl rfl rfl rfl ⟨rfl, rfl, rfl, rfl, rfl⟩ rfl rfl rfl rfl rfl (by kernel_rfl) Try.func4 (by kernel_rfl)
    (of_decide_eq_true (by kernel_rfl)) (by unfold Func.isWrapper; first | (rw [if_pos (by decide +kernel)]; kernel_rfl) | (rw [if_neg (by decide +kernel)]; exact ⟨rfl, rfl⟩))
    (fun os started H enc _ => until_lifted os started H enc)
#print axioms until_holds
end Go.Proofs.Ytofoplpnpfaofaa
