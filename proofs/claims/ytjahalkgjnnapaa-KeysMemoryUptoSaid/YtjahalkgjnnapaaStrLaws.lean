/- '<=', '>' and '>=' on texts as the walk's own laws, said by one order. -/
import Derived.Laws.Strings
import Derived.Sort.Walk0
import Derived.Test.YtjahalkgjnnapaaHandPairs
namespace Go.Proofs.Ytjahalkgjnnapaa.Hand
theorem less_total (a b : List UInt8) : (Op.bytesLess a b || a == b) = !(Op.bytesLess b a) := by
  rw [Go.Proofs.bytesLess_eq, Go.Proofs.bytesLess_eq]
  by_cases h : b < a
  · have h1 : ¬ a < b := fun h2 => List.lt_irrefl _ (List.lt_trans h h2)
    have h2 : a ≠ b := by rintro rfl; exact List.lt_irrefl _ h
    simp [h, h1, h2]
  · have h1 : a ≤ b := List.not_lt.1 h
    rcases List.le_iff_lt_or_eq.1 h1 with h2 | h2
    · simp [h, h2]
    · subst h2; simp
@[go_sem high] theorem str_leq (t : TypeId) (a b : ByteArray) : binOp .leq t (.string a) (.string b) = pure (.bool !(Op.bytesLess b.toList a.toList)) := by
  rw [← less_total]; simp [binOp, Op.stringOp]
@[go_sem high] theorem str_gtr (t : TypeId) (a b : ByteArray) : binOp .gtr t (.string a) (.string b) = pure (.bool (Op.bytesLess b.toList a.toList)) := by
  have h := less_total a.toList b.toList
  have h' : Op.bytesLess b.toList a.toList = !(Op.bytesLess a.toList b.toList || a.toList == b.toList) := by rw [h]; simp
  rw [h']; simp [binOp, Op.stringOp]
@[go_sem high] theorem str_geq (t : TypeId) (a b : ByteArray) : binOp .geq t (.string a) (.string b) = pure (.bool !(Op.bytesLess a.toList b.toList)) := by simp [binOp, Op.stringOp]
end Go.Proofs.Ytjahalkgjnnapaa.Hand
namespace Go.Proofs.Ytjahalkgjnnapaa.Hand
theorem cell_box {W : World} {B : Nat} {v : Value} {t : TypeId} (h : W.heap[B]? = some (.cells #[v] t (0, 0))) : W.cell? ⟨B, 0, none⟩ = some v := by
  simp [World.cell?, h]
theorem cell_new (W : World) (v : Value) (t : TypeId) : (W.alloc (.cells #[v] t)).cell? ⟨W.heap.size, 0, none⟩ = some v := cell_box (World.alloc_heap_new W _)
end Go.Proofs.Ytjahalkgjnnapaa.Hand
namespace Go.Proofs.Ytjahalkgjnnapaa.G
open Go.Proofs.YtjahalkgjnnapaaW.PrintWords
/-- The print's rows, their length spelled otherwise (a rewriting would also touch the row itself). -/
theorem C_len {α : Type} {d : Kd α} {w : World} {A : Option Addr} {n n' : Nat} {xs : List α} (h : n = n') (hc : Kd.C d w A n xs) : Kd.C d w A n' xs := h ▸ hc
end Go.Proofs.Ytjahalkgjnnapaa.G
