/-
  No cell of these rows narrows 'for every input' (looked for: loops, veiled, ifaces, maps, wideKeys, modest, calm, conditions, laid).
  DERIVED. THE GIVEN ROWS OF THIS SEAT. 4 by the template 'for every input the law returns true; each argument reads behind the call as it read before'; 0 by the template 'total and deterministic' (their statements: YtepppnpmcllenaaTotals.lean).
  GIVEN WITH THE SEED: the statements are not yours to turn. If you find one false, say at which input.
  Laid BY PROGRAM, IN A SANDBOX (cutbox-rows.mjs): the forced cells as the released guide's own fill.sh prints them over the translation d80095b3a3c05d04… (all of the seat's roots in one cut). By AI agents, Wed Nov 11 2026. No macro, syntax, notation, axiom, sorry.
-/
import Derived.Test.YtepppnpmcllenaaChecked
import GoSem.Claim
import GoSem.ClaimJoined
import GoSem.ClaimMapViews
import Derived.JoinedTies
import Derived.KernelRfl
namespace Go.Proofs.Ytepppnpmcllenaa
/- THE CELL 'sum', in the pinned program and in every row, IS THE sha256 OF THE DUMP (.gsa) THAT YtepppnpmcllenaaProg.lean LOADS. Nothing in Lean hashes anything: it is a label: what it is worth is what the hold of that sum in a sandbox is worth. -/
noncomputable def Try.pinned : Pinned := { name := "ytepppnpmcllenaa", sum := "d80095b3a3c05d041fb70f51d04564e5d7415e1355557a126dc953c8471f54bb", checked := Try.checked }
namespace Rows
def none {H : Type} : Left H := { results := [], args := [] }

/-- 'rampartlaw03.IdentGives': WHATEVER THE INPUT: true; the input reads as it did. -/
def identGivesSpec : ChangeSpec := { name := "identGives", fn := fun _ => fun
  | [d1, d2, d3, d4, d5] => { results := [.lit (.bool true)], args := [d1, d2, d3, d4, d5] }
  | _ => none }
def identGivesRow : OpenClaim := { program := "ytepppnpmcllenaa", sum := "d80095b3a3c05d041fb70f51d04564e5d7415e1355557a126dc953c8471f54bb", func := "rampart/rampartlaw03.IdentGives", spec := "identGives", apart := false }
def IdentGivesSaid : Prop := identGivesRow.holds Try.pinned (OpenSpec.ofChange identGivesSpec)

/-- ITS FALSE NEIGHBOUR: 'it returns false'. Refute it at one input. -/
def identGivesWrong : ChangeSpec := { name := "identGives", fn := fun _ => fun
  | [d1, d2, d3, d4, d5] => { results := [.lit (.bool false)], args := [d1, d2, d3, d4, d5] }
  | _ => none }
def IdentGivesWrongFalsely : Prop := identGivesRow.holds Try.pinned (OpenSpec.ofChange identGivesWrong)

/-- 'rampartlaw03.IdentOnce': WHATEVER THE INPUT: true; the input reads as it did. -/
def identOnceSpec : ChangeSpec := { name := "identOnce", fn := fun _ => fun
  | [d1, d2, d3, d4] => { results := [.lit (.bool true)], args := [d1, d2, d3, d4] }
  | _ => none }
def identOnceRow : OpenClaim := { program := "ytepppnpmcllenaa", sum := "d80095b3a3c05d041fb70f51d04564e5d7415e1355557a126dc953c8471f54bb", func := "rampart/rampartlaw03.IdentOnce", spec := "identOnce", apart := false }
def IdentOnceSaid : Prop := identOnceRow.holds Try.pinned (OpenSpec.ofChange identOnceSpec)

/-- ITS FALSE NEIGHBOUR: 'it returns false'. Refute it at one input. -/
def identOnceWrong : ChangeSpec := { name := "identOnce", fn := fun _ => fun
  | [d1, d2, d3, d4] => { results := [.lit (.bool false)], args := [d1, d2, d3, d4] }
  | _ => none }
def IdentOnceWrongFalsely : Prop := identOnceRow.holds Try.pinned (OpenSpec.ofChange identOnceWrong)

/-- 'rampartlaw03.IdentNames': WHATEVER THE INPUT: true; the input reads as it did. -/
def identNamesSpec : ChangeSpec := { name := "identNames", fn := fun _ => fun
  | [d1, d2, d3] => { results := [.lit (.bool true)], args := [d1, d2, d3] }
  | _ => none }
def identNamesRow : OpenClaim := { program := "ytepppnpmcllenaa", sum := "d80095b3a3c05d041fb70f51d04564e5d7415e1355557a126dc953c8471f54bb", func := "rampart/rampartlaw03.IdentNames", spec := "identNames", apart := false }
def IdentNamesSaid : Prop := identNamesRow.holds Try.pinned (OpenSpec.ofChange identNamesSpec)

/-- ITS FALSE NEIGHBOUR: 'it returns false'. Refute it at one input. -/
def identNamesWrong : ChangeSpec := { name := "identNames", fn := fun _ => fun
  | [d1, d2, d3] => { results := [.lit (.bool false)], args := [d1, d2, d3] }
  | _ => none }
def IdentNamesWrongFalsely : Prop := identNamesRow.holds Try.pinned (OpenSpec.ofChange identNamesWrong)

/-- 'rampartlaw03.IdentOrder': WHATEVER THE INPUT: true; the input reads as it did. -/
def identOrderSpec : ChangeSpec := { name := "identOrder", fn := fun _ => fun
  | [d1, d2, d3, d4] => { results := [.lit (.bool true)], args := [d1, d2, d3, d4] }
  | _ => none }
def identOrderRow : OpenClaim := { program := "ytepppnpmcllenaa", sum := "d80095b3a3c05d041fb70f51d04564e5d7415e1355557a126dc953c8471f54bb", func := "rampart/rampartlaw03.IdentOrder", spec := "identOrder", apart := false }
def IdentOrderSaid : Prop := identOrderRow.holds Try.pinned (OpenSpec.ofChange identOrderSpec)

/-- ITS FALSE NEIGHBOUR: 'it returns false'. Refute it at one input. -/
def identOrderWrong : ChangeSpec := { name := "identOrder", fn := fun _ => fun
  | [d1, d2, d3, d4] => { results := [.lit (.bool false)], args := [d1, d2, d3, d4] }
  | _ => none }
def IdentOrderWrongFalsely : Prop := identOrderRow.holds Try.pinned (OpenSpec.ofChange identOrderWrong)

/- THE SECOND FORM. 'bulk': how many values and letters a reading holds, each counted each time it is reached (what is shared counts as often as it is met; a slice's spare places count too). A statement '..UptoSaid' is the law's where the arguments, and the package variables that the reading takes, are together of bulk at most 1048576: NARROWER than '..Said'. Prove '..Said' where nothing that the law and all that it calls make is longer than what came in: it says more and counts as full. Else prove '..UptoSaid'. A law counts once. -/
mutual
def uptoBulk {H : Type} : DataW H → Nat
  | .lit (.string bytes) => bytes.length + 1
  | .lit _ => 1
  | .nil => 1
  | .ptr d => uptoBulk d + 1
  | .slice elems spare => uptoBulkAll elems + uptoBulkAll spare + 1
  | .agg parts => uptoBulkAll parts + 1
  | .iface _ d => uptoBulk d + 1
  | .map entries => uptoBulkEntries entries + 1
  | .held _ => 1
def uptoBulkAll {H : Type} : List (DataW H) → Nat
  | [] => 0
  | d :: r => uptoBulk d + uptoBulkAll r
def uptoBulkEntries {H : Type} : List (Lit × DataW H) → Nat
  | [] => 0
  | x :: r => uptoBulkEntry x + uptoBulkEntries r
def uptoBulkEntry {H : Type} : Lit × DataW H → Nat
  | (.string bytes, d) => bytes.length + uptoBulk d + 1
  | (_, d) => uptoBulk d + 1
 end
def uptoSmall : (H : Type) → List (DataW H) → Bool := fun _ ds => decide (uptoBulkAll ds ≤ 1048576)
def OpenSpec.upto (s : _root_.Go.ChangeSpec) : _root_.Go.OpenSpec := { _root_.Go.OpenSpec.ofChange s with cond := some uptoSmall }

/-- 'rampartlaw03.IdentGives', WHERE WHAT IT READS IS OF BULK AT MOST 1048576: true; the input reads as it did. -/
def identGivesUptoRow : OpenClaim := { program := "ytepppnpmcllenaa", sum := "d80095b3a3c05d041fb70f51d04564e5d7415e1355557a126dc953c8471f54bb", func := "rampart/rampartlaw03.IdentGives", spec := "identGives", apart := false, narrowed := true }
def IdentGivesUptoSaid : Prop := identGivesUptoRow.holds Try.pinned (OpenSpec.upto identGivesSpec)

/-- 'rampartlaw03.IdentOnce', WHERE WHAT IT READS IS OF BULK AT MOST 1048576: true; the input reads as it did. -/
def identOnceUptoRow : OpenClaim := { program := "ytepppnpmcllenaa", sum := "d80095b3a3c05d041fb70f51d04564e5d7415e1355557a126dc953c8471f54bb", func := "rampart/rampartlaw03.IdentOnce", spec := "identOnce", apart := false, narrowed := true }
def IdentOnceUptoSaid : Prop := identOnceUptoRow.holds Try.pinned (OpenSpec.upto identOnceSpec)

/-- 'rampartlaw03.IdentNames', WHERE WHAT IT READS IS OF BULK AT MOST 1048576: true; the input reads as it did. -/
def identNamesUptoRow : OpenClaim := { program := "ytepppnpmcllenaa", sum := "d80095b3a3c05d041fb70f51d04564e5d7415e1355557a126dc953c8471f54bb", func := "rampart/rampartlaw03.IdentNames", spec := "identNames", apart := false, narrowed := true }
def IdentNamesUptoSaid : Prop := identNamesUptoRow.holds Try.pinned (OpenSpec.upto identNamesSpec)

/-- 'rampartlaw03.IdentOrder', WHERE WHAT IT READS IS OF BULK AT MOST 1048576: true; the input reads as it did. -/
def identOrderUptoRow : OpenClaim := { program := "ytepppnpmcllenaa", sum := "d80095b3a3c05d041fb70f51d04564e5d7415e1355557a126dc953c8471f54bb", func := "rampart/rampartlaw03.IdentOrder", spec := "identOrder", apart := false, narrowed := true }
def IdentOrderUptoSaid : Prop := identOrderUptoRow.holds Try.pinned (OpenSpec.upto identOrderSpec)

end Rows
end Go.Proofs.Ytepppnpmcllenaa
