/- What is proved here: whatever comes in, BusOrder answers true, and what came in stands. Conditions: none beside those that the statement writes out. -/
import Derived.Test.YtnpgjecifllnaaaO4
set_option linter.unusedSimpArgs false
set_option linter.unusedVariables false
namespace Go.Proofs.Ytnpgjecifllnaaa
open Go Go.RowKit Go.ChangeShapes Go.WideShapes Go.ChangeAt Go.Deep

theorem readable4 : ∀ t ∈ Try.f4.params.toList, Try.prog.readableRec t = true ∧ t < Try.prog.types.size := by
  intro t ht
  have h : t = 3 ∨ t = 22 ∨ t = 23 := by simpa [Try.f4] using ht
  rcases h with rfl | rfl | rfl
  · exact ⟨by kernel_rfl, of_decide_eq_true (by kernel_rfl)⟩
  · exact ⟨by kernel_rfl, of_decide_eq_true (by kernel_rfl)⟩
  · exact ⟨by kernel_rfl, of_decide_eq_true (by kernel_rfl)⟩
theorem inl_of2 {H : Type} {enc : TypeId × Value → H} {W : World} {spare : Nat → Bool} {held : Bool} {n : Nat} {u : Value} {y : DataW H × List MemPlace} (h : DataW.trod enc Try.prog W 0 spare held n 23 [u] = some y) : ∃ l, InL W u l ∧ ((y = (.nil, []) ∧ l = []) ∨ ∃ el sp pl, y = (.slice el sp, pl) ∧ el.length = l.length) := by
  rcases open_slice Try.underlying23 h with ⟨h0, hy⟩ | ⟨a, len, cap, m, n', D, Pl, hcs, hb, hl, hm, hmm, hx, hi⟩
  · simp at h0
    subst h0
    exact ⟨[], ⟨none, 0, rfl, fun i a h => by simp at h⟩, .inl ⟨hy, rfl⟩⟩
  · simp at hcs
    subst hcs
    have hlm : len ≤ m := by rw [hmm]; split <;> omega
    obtain ⟨F, hF⟩ := choose_lt (n := len) (p := fun i (a0 : InA) => ∀ j, j < 4 → W.cell? ((a.add (i * 4)).add j) = a0.cells[j]?) (fun i hil => by
      obtain ⟨cs', hc, ht⟩ := hi i (by omega)
      rw [cells40] at hc
      obtain ⟨_, hlen, hat⟩ := World.cells?_some hc
      obtain ⟨a0, rfl⟩ := in_of ht
      exact ⟨a0, hat⟩)
    have hlen : ((List.range len).map F).length = len := by simp
    refine ⟨(List.range len).map F, ⟨some a, cap, by rw [hlen], fun i a0 hi0 => ?_⟩, .inr ⟨_, _, _, hx, by simp⟩⟩
    have hil : i < len := by have := (List.getElem?_eq_some_iff.1 hi0).1; rw [hlen] at this; exact this
    have e : a0 = F i := by simp [hil] at hi0; exact hi0.symm
    subst e
    have hcell := hF i hil
    have hc0 := hcell 0 (by omega)
    have hsp : ∃ o q, a = ⟨o, q, none⟩ := by
      have h2 := hF 0 (by omega) 0 (by omega)
      rw [Nat.zero_mul, add_zero] at h2
      exact addr_of h2
    obtain ⟨o, q, rfl⟩ := hsp
    rw [add_mid, add_mid] at hc0
    refine ⟨o, q, rfl, lt_of_cell hc0, fun j v hj => ?_⟩
    have hj8 : j < 4 := by have := (List.getElem?_eq_some_iff.1 hj).1; simpa [InA.cells] using this
    have := hcell j hj8
    rw [hj, add_mid, add_mid] at this
    exact this
theorem bytes40 : Try.prog.bytesOf 40 = 32 := by kernel_rfl

set_option maxRecDepth 100000 in
theorem order_lifted (os : Os) (started : os.Started) (H : Type) (enc : TypeId × Value → H) :
    ReturnsInHanded {} Try.checked os 4 .any (Rows.busOrderSpec.pre6 enc Try.prog Try.f4 Rows.busOrderRow.domain false) (Rows.busOrderSpec.post enc Try.prog Try.f4 false true false false) := by
  refine returnsInHanded_of_change_sized (C := Try.checked) own started (by kernel_rfl) Try.func4
    (ChangeSpec.witness6 (enc := enc) (C := Try.checked) false ⟨#[], #[.int .i64 0, .slice none 0 0, .slice none 0 0], []⟩ 8 (by kernel_rfl) (by kernel_rfl) (by kernel_rfl) (by kernel_rfl)) ?_
  intro W base args ds gs before hval0 hW _ hsz _
  have hval : ∀ (j : Nat) t v, Try.f4.params[j]? = some t → args[j]? = some v → Value.okWide Try.prog W .any base t v := hval0
  have hW' := hW
  obtain ⟨pl, q, hA0, hV, rfl, _, _⟩ := hW
  have hA : DataW.TrodAll enc Try.prog W 0 (fun _ => true) true Try.f4.params.toList args.toList ds pl := hA0
  rw [Try.params4] at hA hval
  obtain ⟨v0, v1, v2, d0, d1, d2, p0, p1, p2, rfl, rfl, rfl, h0, h1, h2⟩ := trodAll_three hA
  obtain ⟨rfl, rfl⟩ := trodVars_none hV
  obtain ⟨most, rfl, rfl, rfl, _⟩ := open_int Try.underlying3 (hval 0 3 v0 rfl rfl) h0
  obtain ⟨a1, n1, c1, rfl⟩ := okWide_slice Try.underlying22 (hval 1 22 v1 rfl rfl)
  obtain ⟨a2, n2, c2, rfl⟩ := okWide_slice Try.underlying23 (hval 2 23 v2 rfl rfl)
  obtain ⟨f1, h1⟩ := h1
  obtain ⟨f2, h2⟩ := h2
  obtain ⟨l, hl, hy⟩ := askl_of (y := (d1, p1)) (by simpa [Value.cells] using h1)
  obtain ⟨ins, hi, hyi⟩ := inl_of2 (y := (d2, p2)) (by simpa [Value.cells] using h2)
  have hlen : l.length ≤ 140737488355328 := by
    rcases hy with ⟨_, rfl⟩ | ⟨el, sp, pl, hy, hel⟩
    · simp
    · obtain ⟨rfl, _⟩ := Prod.mk.inj hy
      have h := sized_slice hsz (j := 1) (t := 22) (e := 35) (elems := el) (spare := sp) rfl rfl Try.underlying22
      have h2 : (el.length + sp.length) * 96 ≤ reachBytes := by
        have hb : Try.checked.prog.bytesOf 35 = 96 := bytes35
        rw [hb] at h
        exact h
      simp only [reachBytes] at h2
      omega
  have hlen2 : ins.length ≤ 140737488355328 := by
    rcases hyi with ⟨_, rfl⟩ | ⟨el, sp, pl, hy, hel⟩
    · simp
    · obtain ⟨rfl, _⟩ := Prod.mk.inj hy
      have h := sized_slice hsz (j := 2) (t := 23) (e := 40) (elems := el) (spare := sp) rfl rfl Try.underlying23
      have h2 : (el.length + sp.length) * 32 ≤ reachBytes := by
        have hb : Try.checked.prog.bytesOf 40 = 32 := bytes40
        rw [hb] at h
        exact h
      simp only [reachBytes] at h2
      omega
  refine (law4_calls hl hi hlen hlen2).mono fun e W' ⟨he, ho⟩ => ?_
  exact ⟨.bool true, he, post_true hW' rfl rfl rfl rfl rfl readable4 ho⟩

theorem order_holds : Rows.BusOrderSaid :=
  OpenClaim.holds_of_wide 4 Try.f4 rfl rfl rfl rfl rfl rfl rfl ⟨rfl, rfl, rfl, rfl, rfl⟩ rfl rfl rfl rfl rfl (by kernel_rfl) Try.func4 (by kernel_rfl)
    (of_decide_eq_true (by kernel_rfl)) (by unfold Func.isWrapper; first | (rw [if_pos (by decide +kernel)]; kernel_rfl) | (rw [if_neg (by decide +kernel)]; exact ⟨rfl, rfl⟩))
    (fun os started H enc _ => order_lifted os started H enc)
#print axioms order_holds
end Go.Proofs.Ytnpgjecifllnaaa
