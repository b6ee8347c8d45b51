/- the document's order: wrote, done, Writes, walked. -/
import Derived.Test.YtiibjgnmdieicaaGreatVa
import Derived.Test.YtiibjgnmdieicaaGreatQm
import Derived.Test.YtiibjgnmdieicaaGreatQl
namespace Go.Proofs.YtiibjgnmdieicaaGreat.Hist
open Go.RowKit Go.Proofs.YtiibjgnmdieicaaGreatW.PrintWords Go.Sort
theorem or4 (a b c : Bool) : a = false ∨ (a = true ∧ b = false) ∨ (a = true ∧ b = true ∧ c = false) ∨ (a = true ∧ b = true ∧ c = true) := by cases a <;> cases b <;> cases c <;> simp
end Go.Proofs.YtiibjgnmdieicaaGreat.Hist
/- the document's order: Must, walked. -/
namespace Go.Proofs.YtiibjgnmdieicaaGreat.Hist
open Go.RowKit Go.Proofs.YtiibjgnmdieicaaGreatW.PrintWords Go.Sort
theorem any_take {α : Type} {p : α → Bool} {l : List α} {j : Nat} (h : j < l.length) : (l.take (j + 1)).any p = ((l.take j).any p || p l[j]) := by
  rw [← List.take_append_getElem h, List.any_append]
  simp
end Go.Proofs.YtiibjgnmdieicaaGreat.Hist
