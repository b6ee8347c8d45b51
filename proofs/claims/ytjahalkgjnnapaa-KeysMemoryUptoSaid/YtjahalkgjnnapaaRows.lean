/-
  No cell of these rows narrows 'for every input' (looked for: loops, veiled, ifaces, maps, wideKeys, modest, calm, conditions, laid).
  DERIVED. THE GIVEN ROWS OF THIS SEAT. 5 by the template 'for every input the law returns true; each argument reads behind the call as it read before'; 0 by the template 'total and deterministic' (their statements: YtjahalkgjnnapaaTotals.lean).
  GIVEN WITH THE SEED: the statements are not yours to turn. If you find one false, say at which input.
  Laid BY PROGRAM, IN A SANDBOX (cutbox-rows.mjs): the forced cells as the released guide's own fill.sh prints them over the translation 1be6a1ae21bd1acb… (all of the seat's roots in one cut). By AI agents, Wed Nov 11 2026. No macro, syntax, notation, axiom, sorry.
-/
import Derived.Test.YtjahalkgjnnapaaChecked
import GoSem.Claim
import GoSem.ClaimJoined
import GoSem.ClaimMapViews
import Derived.JoinedTies
import Derived.KernelRfl
namespace Go.Proofs.Ytjahalkgjnnapaa
/- THE CELL 'sum', in the pinned program and in every row, IS THE sha256 OF THE DUMP (.gsa) THAT YtjahalkgjnnapaaProg.lean LOADS. Nothing in Lean hashes anything: it is a label: what it is worth is what the hold of that sum in a sandbox is worth. -/
noncomputable def Try.pinned : Pinned := { name := "ytjahalkgjnnapaa", sum := "1be6a1ae21bd1acbfce74b2ff6fdf53b7272e36a1fdb25636e2f2802e142a4eb", checked := Try.checked }
namespace Rows
def none {H : Type} : Left H := { results := [], args := [] }

/-- 'rampartlaw04.KeysAsks': WHATEVER THE INPUT: true; the input reads as it did. -/
def keysAsksSpec : ChangeSpec := { name := "keysAsks", fn := fun _ => fun
  | [d1, d2, d3] => { results := [.lit (.bool true)], args := [d1, d2, d3] }
  | _ => none }
def keysAsksRow : OpenClaim := { program := "ytjahalkgjnnapaa", sum := "1be6a1ae21bd1acbfce74b2ff6fdf53b7272e36a1fdb25636e2f2802e142a4eb", func := "rampart/rampartlaw04.KeysAsks", spec := "keysAsks", inPlace := ["internal/bytealg.abigen_runtime_cmpstring"], unfollowed := true, recurses := true, apart := false }
def KeysAsksSaid : Prop := keysAsksRow.holds Try.pinned (OpenSpec.ofChange keysAsksSpec)

/-- ITS FALSE NEIGHBOUR: 'it returns false'. Refute it at one input. -/
def keysAsksWrong : ChangeSpec := { name := "keysAsks", fn := fun _ => fun
  | [d1, d2, d3] => { results := [.lit (.bool false)], args := [d1, d2, d3] }
  | _ => none }
def KeysAsksWrongFalsely : Prop := keysAsksRow.holds Try.pinned (OpenSpec.ofChange keysAsksWrong)

/-- 'rampartlaw04.KeysPairs': WHATEVER THE INPUT: true; the input reads as it did. -/
def keysPairsSpec : ChangeSpec := { name := "keysPairs", fn := fun _ => fun
  | [d] => { results := [.lit (.bool true)], args := [d] }
  | _ => none }
def keysPairsRow : OpenClaim := { program := "ytjahalkgjnnapaa", sum := "1be6a1ae21bd1acbfce74b2ff6fdf53b7272e36a1fdb25636e2f2802e142a4eb", func := "rampart/rampartlaw04.KeysPairs", spec := "keysPairs", inPlace := ["internal/bytealg.abigen_runtime_cmpstring"], unfollowed := true, recurses := true, apart := false }
def KeysPairsSaid : Prop := keysPairsRow.holds Try.pinned (OpenSpec.ofChange keysPairsSpec)

/-- ITS FALSE NEIGHBOUR: 'it returns false'. Refute it at one input. -/
def keysPairsWrong : ChangeSpec := { name := "keysPairs", fn := fun _ => fun
  | [d] => { results := [.lit (.bool false)], args := [d] }
  | _ => none }
def KeysPairsWrongFalsely : Prop := keysPairsRow.holds Try.pinned (OpenSpec.ofChange keysPairsWrong)

/-- 'rampartlaw04.KeysSets': WHATEVER THE INPUT: true; the input reads as it did. -/
def keysSetsSpec : ChangeSpec := { name := "keysSets", fn := fun _ => fun
  | [d1, d2, d3] => { results := [.lit (.bool true)], args := [d1, d2, d3] }
  | _ => none }
def keysSetsRow : OpenClaim := { program := "ytjahalkgjnnapaa", sum := "1be6a1ae21bd1acbfce74b2ff6fdf53b7272e36a1fdb25636e2f2802e142a4eb", func := "rampart/rampartlaw04.KeysSets", spec := "keysSets", inPlace := ["internal/bytealg.abigen_runtime_cmpstring"], unfollowed := true, recurses := true, apart := false }
def KeysSetsSaid : Prop := keysSetsRow.holds Try.pinned (OpenSpec.ofChange keysSetsSpec)

/-- ITS FALSE NEIGHBOUR: 'it returns false'. Refute it at one input. -/
def keysSetsWrong : ChangeSpec := { name := "keysSets", fn := fun _ => fun
  | [d1, d2, d3] => { results := [.lit (.bool false)], args := [d1, d2, d3] }
  | _ => none }
def KeysSetsWrongFalsely : Prop := keysSetsRow.holds Try.pinned (OpenSpec.ofChange keysSetsWrong)

/-- 'rampartlaw04.KeysOrder': WHATEVER THE INPUT: true; the input reads as it did. -/
def keysOrderSpec : ChangeSpec := { name := "keysOrder", fn := fun _ => fun
  | [d1, d2] => { results := [.lit (.bool true)], args := [d1, d2] }
  | _ => none }
def keysOrderRow : OpenClaim := { program := "ytjahalkgjnnapaa", sum := "1be6a1ae21bd1acbfce74b2ff6fdf53b7272e36a1fdb25636e2f2802e142a4eb", func := "rampart/rampartlaw04.KeysOrder", spec := "keysOrder", inPlace := ["internal/bytealg.abigen_runtime_cmpstring"], unfollowed := true, recurses := true, apart := false }
def KeysOrderSaid : Prop := keysOrderRow.holds Try.pinned (OpenSpec.ofChange keysOrderSpec)

/-- ITS FALSE NEIGHBOUR: 'it returns false'. Refute it at one input. -/
def keysOrderWrong : ChangeSpec := { name := "keysOrder", fn := fun _ => fun
  | [d1, d2] => { results := [.lit (.bool false)], args := [d1, d2] }
  | _ => none }
def KeysOrderWrongFalsely : Prop := keysOrderRow.holds Try.pinned (OpenSpec.ofChange keysOrderWrong)

/-- 'rampartlaw04.KeysMemory': WHATEVER THE INPUT: true; the input reads as it did. -/
def keysMemorySpec : ChangeSpec := { name := "keysMemory", fn := fun _ => fun
  | [d1, d2] => { results := [.lit (.bool true)], args := [d1, d2] }
  | _ => none }
def keysMemoryRow : OpenClaim := { program := "ytjahalkgjnnapaa", sum := "1be6a1ae21bd1acbfce74b2ff6fdf53b7272e36a1fdb25636e2f2802e142a4eb", func := "rampart/rampartlaw04.KeysMemory", spec := "keysMemory", inPlace := ["internal/bytealg.abigen_runtime_cmpstring"], unfollowed := true, recurses := true, apart := false }
def KeysMemorySaid : Prop := keysMemoryRow.holds Try.pinned (OpenSpec.ofChange keysMemorySpec)

/-- ITS FALSE NEIGHBOUR: 'it returns false'. Refute it at one input. -/
def keysMemoryWrong : ChangeSpec := { name := "keysMemory", fn := fun _ => fun
  | [d1, d2] => { results := [.lit (.bool false)], args := [d1, d2] }
  | _ => none }
def KeysMemoryWrongFalsely : Prop := keysMemoryRow.holds Try.pinned (OpenSpec.ofChange keysMemoryWrong)

/- THE SECOND FORM. 'bulk': how many values and letters a reading holds, each counted each time it is reached (what is shared counts as often as it is met; a slice's spare places count too). A statement '..UptoSaid' is the law's where the arguments, and the package variables that the reading takes, are together of bulk at most 1048576: NARROWER than '..Said'. Prove '..Said' where nothing that the law and all that it calls make is longer than what came in: it says more and counts as full. Else prove '..UptoSaid'. A law counts once. -/
mutual
def uptoBulk {H : Type} : DataW H → Nat
  | .lit (.string bytes) => bytes.length + 1
  | .lit _ => 1
  | .nil => 1
  | .ptr d => uptoBulk d + 1
  | .slice elems spare => uptoBulkAll elems + uptoBulkAll spare + 1
  | .agg parts => uptoBulkAll parts + 1
  | .iface _ d => uptoBulk d + 1
  | .map entries => uptoBulkEntries entries + 1
  | .held _ => 1
def uptoBulkAll {H : Type} : List (DataW H) → Nat
  | [] => 0
  | d :: r => uptoBulk d + uptoBulkAll r
def uptoBulkEntries {H : Type} : List (Lit × DataW H) → Nat
  | [] => 0
  | x :: r => uptoBulkEntry x + uptoBulkEntries r
def uptoBulkEntry {H : Type} : Lit × DataW H → Nat
  | (.string bytes, d) => bytes.length + uptoBulk d + 1
  | (_, d) => uptoBulk d + 1
 end
def uptoSmall : (H : Type) → List (DataW H) → Bool := fun _ ds => decide (uptoBulkAll ds ≤ 1048576)
def OpenSpec.upto (s : _root_.Go.ChangeSpec) : _root_.Go.OpenSpec := { _root_.Go.OpenSpec.ofChange s with cond := some uptoSmall }

/-- 'rampartlaw04.KeysAsks', WHERE WHAT IT READS IS OF BULK AT MOST 1048576: true; the input reads as it did. -/
def keysAsksUptoRow : OpenClaim := { program := "ytjahalkgjnnapaa", sum := "1be6a1ae21bd1acbfce74b2ff6fdf53b7272e36a1fdb25636e2f2802e142a4eb", func := "rampart/rampartlaw04.KeysAsks", spec := "keysAsks", inPlace := ["internal/bytealg.abigen_runtime_cmpstring"], unfollowed := true, recurses := true, apart := false, narrowed := true }
def KeysAsksUptoSaid : Prop := keysAsksUptoRow.holds Try.pinned (OpenSpec.upto keysAsksSpec)

/-- 'rampartlaw04.KeysPairs', WHERE WHAT IT READS IS OF BULK AT MOST 1048576: true; the input reads as it did. -/
def keysPairsUptoRow : OpenClaim := { program := "ytjahalkgjnnapaa", sum := "1be6a1ae21bd1acbfce74b2ff6fdf53b7272e36a1fdb25636e2f2802e142a4eb", func := "rampart/rampartlaw04.KeysPairs", spec := "keysPairs", inPlace := ["internal/bytealg.abigen_runtime_cmpstring"], unfollowed := true, recurses := true, apart := false, narrowed := true }
def KeysPairsUptoSaid : Prop := keysPairsUptoRow.holds Try.pinned (OpenSpec.upto keysPairsSpec)

/-- 'rampartlaw04.KeysSets', WHERE WHAT IT READS IS OF BULK AT MOST 1048576: true; the input reads as it did. -/
def keysSetsUptoRow : OpenClaim := { program := "ytjahalkgjnnapaa", sum := "1be6a1ae21bd1acbfce74b2ff6fdf53b7272e36a1fdb25636e2f2802e142a4eb", func := "rampart/rampartlaw04.KeysSets", spec := "keysSets", inPlace := ["internal/bytealg.abigen_runtime_cmpstring"], unfollowed := true, recurses := true, apart := false, narrowed := true }
def KeysSetsUptoSaid : Prop := keysSetsUptoRow.holds Try.pinned (OpenSpec.upto keysSetsSpec)

/-- 'rampartlaw04.KeysOrder', WHERE WHAT IT READS IS OF BULK AT MOST 1048576: true; the input reads as it did. -/
def keysOrderUptoRow : OpenClaim := { program := "ytjahalkgjnnapaa", sum := "1be6a1ae21bd1acbfce74b2ff6fdf53b7272e36a1fdb25636e2f2802e142a4eb", func := "rampart/rampartlaw04.KeysOrder", spec := "keysOrder", inPlace := ["internal/bytealg.abigen_runtime_cmpstring"], unfollowed := true, recurses := true, apart := false, narrowed := true }
def KeysOrderUptoSaid : Prop := keysOrderUptoRow.holds Try.pinned (OpenSpec.upto keysOrderSpec)

/-- 'rampartlaw04.KeysMemory', WHERE WHAT IT READS IS OF BULK AT MOST 1048576: true; the input reads as it did. -/
def keysMemoryUptoRow : OpenClaim := { program := "ytjahalkgjnnapaa", sum := "1be6a1ae21bd1acbfce74b2ff6fdf53b7272e36a1fdb25636e2f2802e142a4eb", func := "rampart/rampartlaw04.KeysMemory", spec := "keysMemory", inPlace := ["internal/bytealg.abigen_runtime_cmpstring"], unfollowed := true, recurses := true, apart := false, narrowed := true }
def KeysMemoryUptoSaid : Prop := keysMemoryUptoRow.holds Try.pinned (OpenSpec.upto keysMemorySpec)

end Rows
end Go.Proofs.Ytjahalkgjnnapaa
