/-
  No cell of these rows narrows 'for every input' (looked for: loops, veiled, ifaces, maps, wideKeys, modest, calm, conditions, laid).
  DERIVED. THE GIVEN ROWS OF THIS SEAT. 3 by the template 'for every input the law returns true; each argument reads behind the call as it read before'; 0 by the template 'total and deterministic' (their statements: YtofoplpnpfaofaaTotals.lean).
  GIVEN WITH THE SEED: the statements are not yours to turn. If you find one false, say at which input.
  Laid BY PROGRAM, IN A SANDBOX (cutbox-rows.mjs): the forced cells as the released guide's own fill.sh prints them over the translation d76259cb1f56c0e5… (all of the seat's roots in one cut). By AI agents, Wed Nov 11 2026. No macro, syntax, notation, axiom, sorry.
-/
import Derived.Test.YtofoplpnpfaofaaChecked
import GoSem.Claim
import GoSem.ClaimJoined
import GoSem.ClaimMapViews
import Derived.JoinedTies
import Derived.KernelRfl
namespace Go.Proofs.Ytofoplpnpfaofaa
/- THE CELL 'sum', in the pinned program and in every row, IS THE sha256 OF THE DUMP (.gsa) THAT YtofoplpnpfaofaaProg.lean LOADS. Nothing in Lean hashes anything: it is a label: what it is worth is what the hold of that sum in a sandbox is worth. -/
noncomputable def Try.pinned : Pinned := { name := "ytofoplpnpfaofaa", sum := "d76259cb1f56c0e5d090cc6829ce230cba7573a2012e4a2b22d4ea82a25ada39", checked := Try.checked }
namespace Rows
def none {H : Type} : Left H := { results := [], args := [] }

/-- 'tappetlaw32.TeeSpreads': WHATEVER THE INPUT: true; the input reads as it did. -/
def teeSpreadsSpec : ChangeSpec := { name := "teeSpreads", fn := fun _ => fun
  | [d1, d2, d3] => { results := [.lit (.bool true)], args := [d1, d2, d3] }
  | _ => none }
def teeSpreadsRow : OpenClaim := { program := "ytofoplpnpfaofaa", sum := "d76259cb1f56c0e5d090cc6829ce230cba7573a2012e4a2b22d4ea82a25ada39", func := "tappet/tappetlaw32.TeeSpreads", spec := "teeSpreads", unfollowed := true, recurses := true, leaving := true, apart := false }
def TeeSpreadsSaid : Prop := teeSpreadsRow.holds Try.pinned (OpenSpec.ofChange teeSpreadsSpec)

/-- ITS FALSE NEIGHBOUR: 'it returns false'. Refute it at one input. -/
def teeSpreadsWrong : ChangeSpec := { name := "teeSpreads", fn := fun _ => fun
  | [d1, d2, d3] => { results := [.lit (.bool false)], args := [d1, d2, d3] }
  | _ => none }
def TeeSpreadsWrongFalsely : Prop := teeSpreadsRow.holds Try.pinned (OpenSpec.ofChange teeSpreadsWrong)

/-- 'tappetlaw32.TeeUntil': WHATEVER THE INPUT: true; the input reads as it did. -/
def teeUntilSpec : ChangeSpec := { name := "teeUntil", fn := fun _ => fun
  | [d1, d2, d3] => { results := [.lit (.bool true)], args := [d1, d2, d3] }
  | _ => none }
def teeUntilRow : OpenClaim := { program := "ytofoplpnpfaofaa", sum := "d76259cb1f56c0e5d090cc6829ce230cba7573a2012e4a2b22d4ea82a25ada39", func := "tappet/tappetlaw32.TeeUntil", spec := "teeUntil", unfollowed := true, recurses := true, leaving := true, apart := false }
def TeeUntilSaid : Prop := teeUntilRow.holds Try.pinned (OpenSpec.ofChange teeUntilSpec)

/-- ITS FALSE NEIGHBOUR: 'it returns false'. Refute it at one input. -/
def teeUntilWrong : ChangeSpec := { name := "teeUntil", fn := fun _ => fun
  | [d1, d2, d3] => { results := [.lit (.bool false)], args := [d1, d2, d3] }
  | _ => none }
def TeeUntilWrongFalsely : Prop := teeUntilRow.holds Try.pinned (OpenSpec.ofChange teeUntilWrong)

/-- 'tappetlaw32.TeeMerges': WHATEVER THE INPUT: true; the input reads as it did. -/
def teeMergesSpec : ChangeSpec := { name := "teeMerges", fn := fun _ => fun
  | [d1, d2] => { results := [.lit (.bool true)], args := [d1, d2] }
  | _ => none }
def teeMergesRow : OpenClaim := { program := "ytofoplpnpfaofaa", sum := "d76259cb1f56c0e5d090cc6829ce230cba7573a2012e4a2b22d4ea82a25ada39", func := "tappet/tappetlaw32.TeeMerges", spec := "teeMerges", unfollowed := true, recurses := true, leaving := true, apart := false }
def TeeMergesSaid : Prop := teeMergesRow.holds Try.pinned (OpenSpec.ofChange teeMergesSpec)

/-- ITS FALSE NEIGHBOUR: 'it returns false'. Refute it at one input. -/
def teeMergesWrong : ChangeSpec := { name := "teeMerges", fn := fun _ => fun
  | [d1, d2] => { results := [.lit (.bool false)], args := [d1, d2] }
  | _ => none }
def TeeMergesWrongFalsely : Prop := teeMergesRow.holds Try.pinned (OpenSpec.ofChange teeMergesWrong)

/- THE SECOND FORM. 'bulk': how many values and letters a reading holds, each counted each time it is reached (what is shared counts as often as it is met; a slice's spare places count too). A statement '..UptoSaid' is the law's where the arguments, and the package variables that the reading takes, are together of bulk at most 1048576: NARROWER than '..Said'. Prove '..Said' where nothing that the law and all that it calls make is longer than what came in: it says more and counts as full. Else prove '..UptoSaid'. A law counts once. -/
mutual
def uptoBulk {H : Type} : DataW H → Nat
  | .lit (.string bytes) => bytes.length + 1
  | .lit _ => 1
  | .nil => 1
  | .ptr d => uptoBulk d + 1
  | .slice elems spare => uptoBulkAll elems + uptoBulkAll spare + 1
  | .agg parts => uptoBulkAll parts + 1
  | .iface _ d => uptoBulk d + 1
  | .map entries => uptoBulkEntries entries + 1
  | .held _ => 1
def uptoBulkAll {H : Type} : List (DataW H) → Nat
  | [] => 0
  | d :: r => uptoBulk d + uptoBulkAll r
def uptoBulkEntries {H : Type} : List (Lit × DataW H) → Nat
  | [] => 0
  | x :: r => uptoBulkEntry x + uptoBulkEntries r
def uptoBulkEntry {H : Type} : Lit × DataW H → Nat
  | (.string bytes, d) => bytes.length + uptoBulk d + 1
  | (_, d) => uptoBulk d + 1
 end
def uptoSmall : (H : Type) → List (DataW H) → Bool := fun _ ds => decide (uptoBulkAll ds ≤ 1048576)
def OpenSpec.upto (s : _root_.Go.ChangeSpec) : _root_.Go.OpenSpec := { _root_.Go.OpenSpec.ofChange s with cond := some uptoSmall }

/-- 'tappetlaw32.TeeSpreads', WHERE WHAT IT READS IS OF BULK AT MOST 1048576: true; the input reads as it did. -/
def teeSpreadsUptoRow : OpenClaim := { program := "ytofoplpnpfaofaa", sum := "d76259cb1f56c0e5d090cc6829ce230cba7573a2012e4a2b22d4ea82a25ada39", func := "tappet/tappetlaw32.TeeSpreads", spec := "teeSpreads", unfollowed := true, recurses := true, leaving := true, apart := false, narrowed := true }
def TeeSpreadsUptoSaid : Prop := teeSpreadsUptoRow.holds Try.pinned (OpenSpec.upto teeSpreadsSpec)

/-- 'tappetlaw32.TeeUntil', WHERE WHAT IT READS IS OF BULK AT MOST 1048576: true; the input reads as it did. -/
def teeUntilUptoRow : OpenClaim := { program := "ytofoplpnpfaofaa", sum := "d76259cb1f56c0e5d090cc6829ce230cba7573a2012e4a2b22d4ea82a25ada39", func := "tappet/tappetlaw32.TeeUntil", spec := "teeUntil", unfollowed := true, recurses := true, leaving := true, apart := false, narrowed := true }
def TeeUntilUptoSaid : Prop := teeUntilUptoRow.holds Try.pinned (OpenSpec.upto teeUntilSpec)

/-- 'tappetlaw32.TeeMerges', WHERE WHAT IT READS IS OF BULK AT MOST 1048576: true; the input reads as it did. -/
def teeMergesUptoRow : OpenClaim := { program := "ytofoplpnpfaofaa", sum := "d76259cb1f56c0e5d090cc6829ce230cba7573a2012e4a2b22d4ea82a25ada39", func := "tappet/tappetlaw32.TeeMerges", spec := "teeMerges", unfollowed := true, recurses := true, leaving := true, apart := false, narrowed := true }
def TeeMergesUptoSaid : Prop := teeMergesUptoRow.holds Try.pinned (OpenSpec.upto teeMergesSpec)

end Rows
end Go.Proofs.Ytofoplpnpfaofaa
