/-
  No cell of these rows narrows 'for every input' (looked for: loops, veiled, ifaces, maps, wideKeys, modest, calm, conditions, laid).
  DERIVED. THE GIVEN ROWS OF THIS SEAT. 3 by the template 'for every input the law returns true; each argument reads behind the call as it read before'; 0 by the template 'total and deterministic' (their statements: YtiibjgnmdieicaaTotals.lean).
  GIVEN WITH THE SEED: the statements are not yours to turn. If you find one false, say at which input.
  Laid BY PROGRAM, IN A SANDBOX (cutbox-rows.mjs): the forced cells as the released guide's own fill.sh prints them over the translation 07ae06e8eff3b47c… (all of the seat's roots in one cut). By AI agents, Wed Nov 11 2026. No macro, syntax, notation, axiom, sorry.
-/
import Derived.Test.YtiibjgnmdieicaaChecked
import GoSem.Claim
import GoSem.ClaimJoined
import GoSem.ClaimMapViews
import Derived.JoinedTies
import Derived.KernelRfl
namespace Go.Proofs.Ytiibjgnmdieicaa
/- THE CELL 'sum', in the pinned program and in every row, IS THE sha256 OF THE DUMP (.gsa) THAT YtiibjgnmdieicaaProg.lean LOADS. Nothing in Lean hashes anything: it is a label: what it is worth is what the hold of that sum in a sandbox is worth. -/
noncomputable def Try.pinned : Pinned := { name := "ytiibjgnmdieicaa", sum := "07ae06e8eff3b47c520354b79ff94a4a4733cd58ef787f610c6447eb694d4798", checked := Try.checked }
namespace Rows
def none {H : Type} : Left H := { results := [], args := [] }

/-- 'rampartlaw29.SpecJudges': WHATEVER THE INPUT: true; the input reads as it did. -/
def specJudgesSpec : ChangeSpec := { name := "specJudges", fn := fun _ => fun
  | [d] => { results := [.lit (.bool true)], args := [d] }
  | _ => none }
def specJudgesRow : OpenClaim := { program := "ytiibjgnmdieicaa", sum := "07ae06e8eff3b47c520354b79ff94a4a4733cd58ef787f610c6447eb694d4798", func := "rampart/rampartlaw29.SpecJudges", spec := "specJudges", unfollowed := true, recurses := true, plainKeys := false, apart := false }
def SpecJudgesSaid : Prop := specJudgesRow.holds Try.pinned (OpenSpec.ofChange specJudgesSpec)

/-- ITS FALSE NEIGHBOUR: 'it returns false'. Refute it at one input. -/
def specJudgesWrong : ChangeSpec := { name := "specJudges", fn := fun _ => fun
  | [d] => { results := [.lit (.bool false)], args := [d] }
  | _ => none }
def SpecJudgesWrongFalsely : Prop := specJudgesRow.holds Try.pinned (OpenSpec.ofChange specJudgesWrong)

/-- 'rampartlaw29.SpecMeets': WHATEVER THE INPUT: true; the input reads as it did. -/
def specMeetsSpec : ChangeSpec := { name := "specMeets", fn := fun _ => fun
  | [d] => { results := [.lit (.bool true)], args := [d] }
  | _ => none }
def specMeetsRow : OpenClaim := { program := "ytiibjgnmdieicaa", sum := "07ae06e8eff3b47c520354b79ff94a4a4733cd58ef787f610c6447eb694d4798", func := "rampart/rampartlaw29.SpecMeets", spec := "specMeets", unfollowed := true, recurses := true, plainKeys := false, apart := false }
def SpecMeetsSaid : Prop := specMeetsRow.holds Try.pinned (OpenSpec.ofChange specMeetsSpec)

/-- ITS FALSE NEIGHBOUR: 'it returns false'. Refute it at one input. -/
def specMeetsWrong : ChangeSpec := { name := "specMeets", fn := fun _ => fun
  | [d] => { results := [.lit (.bool false)], args := [d] }
  | _ => none }
def SpecMeetsWrongFalsely : Prop := specMeetsRow.holds Try.pinned (OpenSpec.ofChange specMeetsWrong)

/-- 'rampartlaw29.SpecLeast': WHATEVER THE INPUT: true; the input reads as it did. -/
def specLeastSpec : ChangeSpec := { name := "specLeast", fn := fun _ => fun
  | [d] => { results := [.lit (.bool true)], args := [d] }
  | _ => none }
def specLeastRow : OpenClaim := { program := "ytiibjgnmdieicaa", sum := "07ae06e8eff3b47c520354b79ff94a4a4733cd58ef787f610c6447eb694d4798", func := "rampart/rampartlaw29.SpecLeast", spec := "specLeast", unfollowed := true, recurses := true, plainKeys := false, apart := false }
def SpecLeastSaid : Prop := specLeastRow.holds Try.pinned (OpenSpec.ofChange specLeastSpec)

/-- ITS FALSE NEIGHBOUR: 'it returns false'. Refute it at one input. -/
def specLeastWrong : ChangeSpec := { name := "specLeast", fn := fun _ => fun
  | [d] => { results := [.lit (.bool false)], args := [d] }
  | _ => none }
def SpecLeastWrongFalsely : Prop := specLeastRow.holds Try.pinned (OpenSpec.ofChange specLeastWrong)

/- THE SECOND FORM. 'bulk': how many values and letters a reading holds, each counted each time it is reached (what is shared counts as often as it is met; a slice's spare places count too). A statement '..UptoSaid' is the law's where the arguments, and the package variables that the reading takes, are together of bulk at most 1048576: NARROWER than '..Said'. Prove '..Said' where nothing that the law and all that it calls make is longer than what came in: it says more and counts as full. Else prove '..UptoSaid'. A law counts once. -/
mutual
def uptoBulk {H : Type} : DataW H → Nat
  | .lit (.string bytes) => bytes.length + 1
  | .lit _ => 1
  | .nil => 1
  | .ptr d => uptoBulk d + 1
  | .slice elems spare => uptoBulkAll elems + uptoBulkAll spare + 1
  | .agg parts => uptoBulkAll parts + 1
  | .iface _ d => uptoBulk d + 1
  | .map entries => uptoBulkEntries entries + 1
  | .held _ => 1
def uptoBulkAll {H : Type} : List (DataW H) → Nat
  | [] => 0
  | d :: r => uptoBulk d + uptoBulkAll r
def uptoBulkEntries {H : Type} : List (Lit × DataW H) → Nat
  | [] => 0
  | x :: r => uptoBulkEntry x + uptoBulkEntries r
def uptoBulkEntry {H : Type} : Lit × DataW H → Nat
  | (.string bytes, d) => bytes.length + uptoBulk d + 1
  | (_, d) => uptoBulk d + 1
 end
def uptoSmall : (H : Type) → List (DataW H) → Bool := fun _ ds => decide (uptoBulkAll ds ≤ 1048576)
def OpenSpec.upto (s : _root_.Go.ChangeSpec) : _root_.Go.OpenSpec := { _root_.Go.OpenSpec.ofChange s with cond := some uptoSmall }

/-- 'rampartlaw29.SpecJudges', WHERE WHAT IT READS IS OF BULK AT MOST 1048576: true; the input reads as it did. -/
def specJudgesUptoRow : OpenClaim := { program := "ytiibjgnmdieicaa", sum := "07ae06e8eff3b47c520354b79ff94a4a4733cd58ef787f610c6447eb694d4798", func := "rampart/rampartlaw29.SpecJudges", spec := "specJudges", unfollowed := true, recurses := true, plainKeys := false, apart := false, narrowed := true }
def SpecJudgesUptoSaid : Prop := specJudgesUptoRow.holds Try.pinned (OpenSpec.upto specJudgesSpec)

/-- 'rampartlaw29.SpecMeets', WHERE WHAT IT READS IS OF BULK AT MOST 1048576: true; the input reads as it did. -/
def specMeetsUptoRow : OpenClaim := { program := "ytiibjgnmdieicaa", sum := "07ae06e8eff3b47c520354b79ff94a4a4733cd58ef787f610c6447eb694d4798", func := "rampart/rampartlaw29.SpecMeets", spec := "specMeets", unfollowed := true, recurses := true, plainKeys := false, apart := false, narrowed := true }
def SpecMeetsUptoSaid : Prop := specMeetsUptoRow.holds Try.pinned (OpenSpec.upto specMeetsSpec)

/-- 'rampartlaw29.SpecLeast', WHERE WHAT IT READS IS OF BULK AT MOST 1048576: true; the input reads as it did. -/
def specLeastUptoRow : OpenClaim := { program := "ytiibjgnmdieicaa", sum := "07ae06e8eff3b47c520354b79ff94a4a4733cd58ef787f610c6447eb694d4798", func := "rampart/rampartlaw29.SpecLeast", spec := "specLeast", unfollowed := true, recurses := true, plainKeys := false, apart := false, narrowed := true }
def SpecLeastUptoSaid : Prop := specLeastUptoRow.holds Try.pinned (OpenSpec.upto specLeastSpec)

end Rows
end Go.Proofs.Ytiibjgnmdieicaa
