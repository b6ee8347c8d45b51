/-
  No cell of these rows narrows 'for every input' (looked for: loops, veiled, ifaces, maps, wideKeys, modest, calm, conditions, laid).
  DERIVED. THE GIVEN ROWS OF THIS SEAT. 2 by the template 'for every input the law returns true; each argument reads behind the call as it read before'; 0 by the template 'total and deterministic' (their statements: YtiibjgnmdieicaaGreatTotals.lean).
  GIVEN WITH THE SEED: the statements are not yours to turn. If you find one false, say at which input.
  Laid BY PROGRAM, IN A SANDBOX (cutbox-rows.mjs): the forced cells as the released guide's own fill.sh prints them over the translation f0509352c0904d51… (all of the seat's roots in one cut). By AI agents, Wed Nov 11 2026. No macro, syntax, notation, axiom, sorry.
-/
import Derived.Test.YtiibjgnmdieicaaGreatChecked
import GoSem.Claim
import GoSem.ClaimJoined
import GoSem.ClaimMapViews
import Derived.JoinedTies
import Derived.KernelRfl
namespace Go.Proofs.YtiibjgnmdieicaaGreat
/- THE CELL 'sum', in the pinned program and in every row, IS THE sha256 OF THE DUMP (.gsa) THAT YtiibjgnmdieicaaGreatProg.lean LOADS. Nothing in Lean hashes anything: it is a label: what it is worth is what the hold of that sum in a sandbox is worth. -/
noncomputable def Tryz.pinned : Pinned := { name := "ytiibjgnmdieicaagreat", sum := "f0509352c0904d51abdd3019c0f74c132913d05df7a6923eb8f3148a317a0334", checked := Tryz.checked }
namespace Rows
def none {H : Type} : Left H := { results := [], args := [] }

/-- 'rampartlaw29.SpecSteps': WHATEVER THE INPUT: true; the input reads as it did. -/
def specStepsSpec : ChangeSpec := { name := "specSteps", fn := fun _ => fun
  | [d] => { results := [.lit (.bool true)], args := [d] }
  | _ => none }
def specStepsRow : OpenClaim := { program := "ytiibjgnmdieicaagreat", sum := "f0509352c0904d51abdd3019c0f74c132913d05df7a6923eb8f3148a317a0334", func := "rampart/rampartlaw29.SpecSteps", spec := "specSteps", unfollowed := true, recurses := true, plainKeys := false, apart := false }
def SpecStepsSaid : Prop := specStepsRow.holds Tryz.pinned (OpenSpec.ofChange specStepsSpec)

/-- ITS FALSE NEIGHBOUR: 'it returns false'. Refute it at one input. -/
def specStepsWrong : ChangeSpec := { name := "specSteps", fn := fun _ => fun
  | [d] => { results := [.lit (.bool false)], args := [d] }
  | _ => none }
def SpecStepsWrongFalsely : Prop := specStepsRow.holds Tryz.pinned (OpenSpec.ofChange specStepsWrong)

/-- 'rampartlaw29.SpecOrders': WHATEVER THE INPUT: true; the input reads as it did. -/
def specOrdersSpec : ChangeSpec := { name := "specOrders", fn := fun _ => fun
  | [d] => { results := [.lit (.bool true)], args := [d] }
  | _ => none }
def specOrdersRow : OpenClaim := { program := "ytiibjgnmdieicaagreat", sum := "f0509352c0904d51abdd3019c0f74c132913d05df7a6923eb8f3148a317a0334", func := "rampart/rampartlaw29.SpecOrders", spec := "specOrders", unfollowed := true, recurses := true, plainKeys := false, apart := false }
def SpecOrdersSaid : Prop := specOrdersRow.holds Tryz.pinned (OpenSpec.ofChange specOrdersSpec)

/-- ITS FALSE NEIGHBOUR: 'it returns false'. Refute it at one input. -/
def specOrdersWrong : ChangeSpec := { name := "specOrders", fn := fun _ => fun
  | [d] => { results := [.lit (.bool false)], args := [d] }
  | _ => none }
def SpecOrdersWrongFalsely : Prop := specOrdersRow.holds Tryz.pinned (OpenSpec.ofChange specOrdersWrong)

/- THE SECOND FORM. 'bulk': how many values and letters a reading holds, each counted each time it is reached (what is shared counts as often as it is met; a slice's spare places count too). A statement '..UptoSaid' is the law's where the arguments, and the package variables that the reading takes, are together of bulk at most 1048576: NARROWER than '..Said'. Prove '..Said' where nothing that the law and all that it calls make is longer than what came in: it says more and counts as full. Else prove '..UptoSaid'. A law counts once. -/
mutual
def uptoBulk {H : Type} : DataW H → Nat
  | .lit (.string bytes) => bytes.length + 1
  | .lit _ => 1
  | .nil => 1
  | .ptr d => uptoBulk d + 1
  | .slice elems spare => uptoBulkAll elems + uptoBulkAll spare + 1
  | .agg parts => uptoBulkAll parts + 1
  | .iface _ d => uptoBulk d + 1
  | .map entries => uptoBulkEntries entries + 1
  | .held _ => 1
def uptoBulkAll {H : Type} : List (DataW H) → Nat
  | [] => 0
  | d :: r => uptoBulk d + uptoBulkAll r
def uptoBulkEntries {H : Type} : List (Lit × DataW H) → Nat
  | [] => 0
  | x :: r => uptoBulkEntry x + uptoBulkEntries r
def uptoBulkEntry {H : Type} : Lit × DataW H → Nat
  | (.string bytes, d) => bytes.length + uptoBulk d + 1
  | (_, d) => uptoBulk d + 1
 end
def uptoSmall : (H : Type) → List (DataW H) → Bool := fun _ ds => decide (uptoBulkAll ds ≤ 1048576)
def OpenSpec.upto (s : _root_.Go.ChangeSpec) : _root_.Go.OpenSpec := { _root_.Go.OpenSpec.ofChange s with cond := some uptoSmall }

/-- 'rampartlaw29.SpecSteps', WHERE WHAT IT READS IS OF BULK AT MOST 1048576: true; the input reads as it did. -/
def specStepsUptoRow : OpenClaim := { program := "ytiibjgnmdieicaagreat", sum := "f0509352c0904d51abdd3019c0f74c132913d05df7a6923eb8f3148a317a0334", func := "rampart/rampartlaw29.SpecSteps", spec := "specSteps", unfollowed := true, recurses := true, plainKeys := false, apart := false, narrowed := true }
def SpecStepsUptoSaid : Prop := specStepsUptoRow.holds Tryz.pinned (OpenSpec.upto specStepsSpec)

/-- 'rampartlaw29.SpecOrders', WHERE WHAT IT READS IS OF BULK AT MOST 1048576: true; the input reads as it did. -/
def specOrdersUptoRow : OpenClaim := { program := "ytiibjgnmdieicaagreat", sum := "f0509352c0904d51abdd3019c0f74c132913d05df7a6923eb8f3148a317a0334", func := "rampart/rampartlaw29.SpecOrders", spec := "specOrders", unfollowed := true, recurses := true, plainKeys := false, apart := false, narrowed := true }
def SpecOrdersUptoSaid : Prop := specOrdersUptoRow.holds Tryz.pinned (OpenSpec.upto specOrdersSpec)

end Rows
end Go.Proofs.YtiibjgnmdieicaaGreat
