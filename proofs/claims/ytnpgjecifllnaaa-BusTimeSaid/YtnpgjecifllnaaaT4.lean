/- What is proved here: whatever comes in, BusTime answers true, and what came in stands. Conditions: none beside those that the statement writes out. -/
import Derived.Test.YtnpgjecifllnaaaArgs
set_option linter.unusedSimpArgs false
set_option linter.unusedVariables false
namespace Go.Proofs.Ytnpgjecifllnaaa
open Go Go.RowKit Go.ChangeShapes Go.WideShapes Go.ChangeAt Go.Deep

theorem readable3 : ∀ t ∈ Try.f3.params.toList, Try.prog.readableRec t = true ∧ t < Try.prog.types.size := by
  intro t ht
  have h : t = 3 ∨ t = 22 ∨ t = 23 := by
    have h2 : t = 3 ∨ t = 22 ∨ t = 23 ∨ t = 3 := by simpa [Try.f3] using ht
    rcases h2 with h | h | h | h <;> simp [h]
  rcases h with rfl | rfl | rfl
  · exact ⟨by kernel_rfl, of_decide_eq_true (by kernel_rfl)⟩
  · exact ⟨by kernel_rfl, of_decide_eq_true (by kernel_rfl)⟩
  · exact ⟨by kernel_rfl, of_decide_eq_true (by kernel_rfl)⟩

set_option maxRecDepth 100000 in
theorem time_lifted (os : Os) (started : os.Started) (H : Type) (enc : TypeId × Value → H) :
    ReturnsInHanded {} Try.checked os 3 .any (Rows.busTimeSpec.pre6 enc Try.prog Try.f3 Rows.busTimeRow.domain false) (Rows.busTimeSpec.post enc Try.prog Try.f3 false true false false) := by
  refine returnsInHanded_of_change_sized (C := Try.checked) own started (by kernel_rfl) Try.func3
    (ChangeSpec.witness6 (enc := enc) (C := Try.checked) false ⟨#[], #[.int .i64 0, .slice none 0 0, .slice none 0 0, .int .i64 0], []⟩ 8 (by kernel_rfl) (by kernel_rfl) (by kernel_rfl) (by kernel_rfl)) ?_
  intro W base args ds gs before hval0 hW _ hsz _
  have hval : ∀ (j : Nat) t v, Try.f3.params[j]? = some t → args[j]? = some v → Value.okWide Try.prog W .any base t v := hval0
  have hW' := hW
  obtain ⟨pl, q, hA0, hV, rfl, _, _⟩ := hW
  have hA : DataW.TrodAll enc Try.prog W 0 (fun _ => true) true Try.f3.params.toList args.toList ds pl := hA0
  rw [Try.params3] at hA hval
  obtain ⟨v0, v1, v2, v3, d0, d1, d2, d3, p0, p1, p2, p3, rfl, rfl, rfl, h0, h1, h2, h3⟩ := trodAll_four hA
  obtain ⟨rfl, rfl⟩ := trodVars_none hV
  obtain ⟨most, rfl, rfl, rfl, _⟩ := open_int Try.underlying3 (hval 0 3 v0 rfl rfl) h0
  obtain ⟨port, rfl, rfl, rfl, _⟩ := open_int Try.underlying3 (hval 3 3 v3 rfl rfl) h3
  obtain ⟨a1, n1, c1, rfl⟩ := okWide_slice Try.underlying22 (hval 1 22 v1 rfl rfl)
  obtain ⟨a2, n2, c2, rfl⟩ := okWide_slice Try.underlying23 (hval 2 23 v2 rfl rfl)
  obtain ⟨f1, h1⟩ := h1
  obtain ⟨f2, h2⟩ := h2
  obtain ⟨l, hl, hy⟩ := askl_of (y := (d1, p1)) (by simpa [Value.cells] using h1)
  obtain ⟨ins, hi⟩ := inl_of (y := (d2, p2)) (by simpa [Value.cells] using h2)
  have hlen : l.length ≤ 140737488355328 := by
    rcases hy with ⟨_, rfl⟩ | ⟨el, sp, pl, hy, hel⟩
    · simp
    · obtain ⟨rfl, _⟩ := Prod.mk.inj hy
      have h := sized_slice hsz (j := 1) (t := 22) (e := 35) (elems := el) (spare := sp) rfl rfl Try.underlying22
      have h2 : (el.length + sp.length) * 96 ≤ reachBytes := by
        have hb : Try.checked.prog.bytesOf 35 = 96 := bytes35
        rw [hb] at h
        exact h
      simp only [reachBytes] at h2
      omega
  refine (law3_calls hl hi hlen).mono fun e W' ⟨he, ho⟩ => ?_
  exact ⟨.bool true, he, post_true hW' rfl rfl rfl rfl rfl readable3 ho⟩

theorem time_holds : Rows.BusTimeSaid :=
  OpenClaim.holds_of_wide 3 Try.f3 rfl rfl rfl rfl rfl rfl rfl ⟨rfl, rfl, rfl, rfl, rfl⟩ rfl rfl rfl rfl rfl (by kernel_rfl) Try.func3 (by kernel_rfl)
    (of_decide_eq_true (by kernel_rfl)) (by unfold Func.isWrapper; first | (rw [if_pos (by decide +kernel)]; kernel_rfl) | (rw [if_neg (by decide +kernel)]; exact ⟨rfl, rfl⟩))
    (fun os started H enc _ => time_lifted os started H enc)
#print axioms time_holds
end Go.Proofs.Ytnpgjecifllnaaa
