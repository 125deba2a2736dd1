/- What is proved here: the first of a ring; what is taken from it. Conditions: the block reads as the ring. -/
import Derived.Test.YtnpgjecifllnaaaPush
set_option linter.unusedSimpArgs false
set_option linter.unusedVariables false
namespace Go.Proofs.Ytnpgjecifllnaaa
open Go Go.Conc Go.RowKit

set_option maxRecDepth 100000 in
theorem first_calls {B off hd : Nat} {q : List It} {w : World} (hr : Ring w B off hd q) :
    Calls Try.prog 52 #[.pointer (some ⟨B, off, none⟩)] w fun e w' => e = .returned (.pointer (some ⟨B, off + hd * 14, none⟩)) ∧ ∃ n, w' = w.drewN n := by
  have hc1 := hr.head
  have hd4 := hr.hd4
  clear hr
  go_enter Try.func52, Try.ntmps52
  go_wp2_with fail
  go_quiet (fail)
  go_wp2
  go_ret
  exact ⟨rfl, _, rfl⟩
end Go.Proofs.Ytnpgjecifllnaaa
