/- A slice of integers that came in, read as a list; nil let in. -/
import Derived.Test.YtepppnpmcllenaaPost
import Derived.Test.YtepppnpmcllenaaWords
import Derived.ChangeSlices
import Derived.ProofKit
namespace Go.Proofs.Ytepppnpmcllenaa
open Go.ChangeShapes Go.WideShapes Go.ChangeAt Go.RowKit

/-- The slice value (A, n) reads as these integers, all below block B. -/
def RInts (w : World) (B : Nat) (k : IntKind) (A : Option Addr) (zs : List Int) : Prop :=
  ∀ i, i < zs.length → ∃ ad, A = some ad ∧ ad.block < B ∧ w.cell? (ad.add i) = some (.int k (zs.getD i 0))
theorem block_of_add (a : Addr) (n : Nat) : (a.add n).block = a.block := by unfold Addr.add; split <;> rfl
theorem RInts.below {w w' : World} {B B' : Nat} {k : IntKind} {A : Option Addr} {zs : List Int} (h : RInts w B k A zs) (hb : Below B' w w') (hB : B ≤ B') : RInts w' B k A zs := fun i hi => by
  obtain ⟨ad, e, hl, hc⟩ := h i hi
  exact ⟨ad, e, hl, (hb.cell (p := ad.add i) (by rw [block_of_add]; omega)).trans hc⟩

section
variable {H : Type} {enc : TypeId × Value → H} {P : Program}
theorem open_rints {W : World} {t e : TypeId} {k : IntKind} {v : Value} {d : DataW H} {p : List MemPlace} {r : Reach} {b0 : Nat} (ht : P.underlying t = some (.slice e)) (he : P.underlying e = some (.int k)) (hc : P.cellsOf e = 1)
    (hv : Value.okWide P W r b0 t v) (h : DataW.Trod enc P W 0 (fun _ => true) true t v d p) (hlt : ∀ x ∈ p, x.block < W.heap.size) :
    ∃ (A : Option Addr) (n c : Nat) (zs : List Int), v = .slice A n c ∧ zs.length = n ∧ n ≤ c ∧ c ≤ maxLen ∧ RInts W W.heap.size k A zs ∧ ∀ z ∈ zs, (Lit.int k z).wf = true := by
  obtain ⟨a0, len, cap, rfl⟩ := okWide_slice ht hv
  obtain ⟨fuel, hf⟩ := h
  rcases open_ints ht he hc hf with ⟨hcs, _⟩ | ⟨a, len', cap', zs, hcs, _, hl, hmx, hz, hx, hcell, hwz⟩
  · simp [Value.cells] at hcs
    obtain ⟨rfl, rfl, rfl⟩ := hcs
    exact ⟨none, 0, 0, [], rfl, rfl, Nat.le_refl _, by simp [maxLen], fun i hi => absurd hi (by simp), by simp⟩
  · simp [Value.cells] at hcs
    obtain ⟨rfl, rfl, rfl⟩ := hcs
    simp only [Prod.mk.injEq] at hx
    obtain ⟨rfl, rfl⟩ := hx
    simp only [if_true] at hz
    refine ⟨some a, len, cap, zs.take len, rfl, by simp; omega, hl, hmx, fun i hi => ?_, fun z hz' => hwz z (List.mem_of_mem_take hz')⟩
    have hi' : i < len ∧ i < zs.length := by simp at hi; omega
    refine ⟨a, rfl, ?_, ?_⟩
    · exact hlt (.cell a.block (a.off + i)) (List.mem_map.2 ⟨i, List.mem_range.2 hi'.2, rfl⟩)
    · rw [hcell i hi'.2]
      simp [List.getD, hi'.1]
end
end Go.Proofs.Ytepppnpmcllenaa
