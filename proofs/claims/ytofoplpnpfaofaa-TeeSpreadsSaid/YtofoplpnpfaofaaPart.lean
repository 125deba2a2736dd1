/- What is proved here: the plain part of this program; the end of Spread; how a call is lifted. No condition. -/
import Derived.Test.YtofoplpnpfaofaaReach
set_option linter.unusedSimpArgs false
set_option linter.unusedVariables false
namespace Go.Proofs.Ytofoplpnpfaofaa
open Go Go.Conc Go.RowKit

def slotsF : FuncId → Option (List Tmp)
  | 6 => some []
  | 9 => some []
  | 10 => some []
  | 11 => some [1, 19, 22]
  | 12 => some []
  | 13 => some []
  | 14 => some []
  | 17 => some [2, 19]
  | 18 => some []
  | _ => none
def baseF : FuncId → Option (List Tmp)
  | 3 => some []
  | 4 => some [17]
  | 5 => some []
  | 7 => some []
  | 8 => some []
  | f => slotsF f
def Qp : Part := { base := baseF, slots := slotsF, dyn := fun f => f == 12 || f == 18 }

theorem code6 : codeOk Qp [] (Try.f6.body.getD .skip) = true := by kernel_rfl
theorem code9 : codeOk Qp [] (Try.f9.body.getD .skip) = true := by kernel_rfl
theorem code10 : codeOk Qp [] (Try.f10.body.getD .skip) = true := by kernel_rfl
theorem code11 : codeOk Qp [1, 19, 22] (Try.f11.body.getD .skip) = true := by kernel_rfl
theorem code12 : codeOk Qp [] (Try.f12.body.getD .skip) = true := by kernel_rfl
theorem code13 : codeOk Qp [] (Try.f13.body.getD .skip) = true := by kernel_rfl
theorem code14 : codeOk Qp [] (Try.f14.body.getD .skip) = true := by kernel_rfl
theorem code17 : codeOk Qp [2, 19] (Try.f17.body.getD .skip) = true := by kernel_rfl
theorem code18 : codeOk Qp [] (Try.f18.body.getD .skip) = true := by kernel_rfl

theorem noReady : (Try.prog.funcs.all fun f => (f.body.map readies).all (·.isEmpty)) = true := by kernel_rfl
theorem stepNone (g : Nat) : Try.prog.stepOf g = none := by
  unfold Program.stepOf
  rw [Array.findIdx?_eq_none_iff]
  intro f hf
  have h1 := (Array.all_eq_true_iff_forall_mem.1 noReady) f hf
  cases hb : f.body with
  | none => rfl
  | some c =>
    rw [hb] at h1
    simp only [Option.map_some, Option.all_some] at h1
    simp only [Option.map_some, Option.any_some]
    have : readies c = [] := by simpa using h1
    rw [this]
    rfl
theorem safeQ : Safe Try.prog Qp := by
  refine ⟨fun f S h => ?_, fun f S h => ?_, fun f h => ?_, stepNone, by kernel_rfl⟩
  · have h' : baseF f = some S := h
    unfold baseF at h'
    split at h'
    · exact ⟨_, Try.func3⟩
    · exact ⟨_, Try.func4⟩
    · exact ⟨_, Try.func5⟩
    · exact ⟨_, Try.func7⟩
    · exact ⟨_, Try.func8⟩
    · unfold slotsF at h'
      split at h'
      · exact ⟨_, Try.func6⟩
      · exact ⟨_, Try.func9⟩
      · exact ⟨_, Try.func10⟩
      · exact ⟨_, Try.func11⟩
      · exact ⟨_, Try.func12⟩
      · exact ⟨_, Try.func13⟩
      · exact ⟨_, Try.func14⟩
      · exact ⟨_, Try.func17⟩
      · exact ⟨_, Try.func18⟩
      · cases h'
  · have h' : slotsF f = some S := h
    unfold slotsF at h'
    split at h' <;> cases h'
    · exact ⟨rfl, _, _, Try.func6, rfl, code6, by kernel_rfl⟩
    · exact ⟨rfl, _, _, Try.func9, rfl, code9, by kernel_rfl⟩
    · exact ⟨rfl, _, _, Try.func10, rfl, code10, by kernel_rfl⟩
    · exact ⟨rfl, _, _, Try.func11, rfl, code11, by kernel_rfl⟩
    · exact ⟨rfl, _, _, Try.func12, rfl, code12, by kernel_rfl⟩
    · exact ⟨rfl, _, _, Try.func13, rfl, code13, by kernel_rfl⟩
    · exact ⟨rfl, _, _, Try.func14, rfl, code14, by kernel_rfl⟩
    · exact ⟨rfl, _, _, Try.func17, rfl, code17, by kernel_rfl⟩
    · exact ⟨rfl, _, _, Try.func18, rfl, code18, by kernel_rfl⟩
  · simp only [Qp, Bool.or_eq_true, beq_iff_eq] at h
    rcases h with rfl | rfl <;> rfl
end Go.Proofs.Ytofoplpnpfaofaa
