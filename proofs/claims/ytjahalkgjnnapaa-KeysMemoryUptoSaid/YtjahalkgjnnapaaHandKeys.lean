/- slices.Clone at texts, in the words of the kinds. -/
import Derived.Test.YtjahalkgjnnapaaKeysSpec
import Derived.Lib.Hide
namespace Go.Proofs.Ytjahalkgjnnapaa.Hand
open Go.RowKit Go.Shelf Go.Proofs.YtjahalkgjnnapaaW.PrintWords

theorem spot_none {w : World} {a : Addr} {v : Value} (h : w.cell? a = some v) : a = ⟨a.block, a.off, none⟩ := by
  obtain ⟨b, o, s⟩ := a
  cases s with
  | none => rfl
  | some n =>
    exfalso
    unfold World.cell? at h
    split at h <;> simp at h
theorem add_none (b o j : Nat) : (⟨b, o, none⟩ : Addr).add j = ⟨b, o + j, none⟩ := by unfold Addr.add; split <;> simp_all

/-- slices.Clone of texts: the same list in new memory. -/
theorem clone_any (A : Option Addr) (c : Nat) (zs : List ByteArray) (w : World) (hlen : zs.length ≤ 1099511627776) (hC : Kd.C Kd.string w A zs.length zs) :
    Calls Try.prog 40 #[.slice A zs.length c] w fun e w' => ∃ v, e = .returned v ∧ Kd.R Kd.string 9 w' w.heap.size (fun _ => True) v zs ∧ Below w.heap.size w w' := by
  rcases Nat.eq_zero_or_pos zs.length with h0 | h0
  · have hz : zs = [] := List.eq_nil_of_length_eq_zero h0
    subst hz
    cases A with
    | none => exact (Try.slices_Clone_string_nil 0 c w).mono fun e w' ⟨he, hw⟩ => ⟨_, he, Kd.R_nil _ _ _ _ _, by rw [hw]; exact Below.refl _ _⟩
    | some a => exact (Try.slices_Clone_string_zero a c w).mono fun e w' ⟨v', he, hr, _, hb⟩ => ⟨v', he, Kd.R_of_own (xs := []) (by simpa [encs] using hr) (fun _ _ => trivial), hb⟩
  · obtain ⟨A', cap, he, hcell⟩ := strs_of_C (c := c) hC
    obtain ⟨ad, rfl, _, hj⟩ := hcell h0
    injection he with he1 _ _
    subst he1
    have hs := spot_none (by simpa [Addr.add] using hj 0 h0 : w.cell? ad = some _)
    obtain ⟨b, o, s⟩ := ad
    obtain rfl : s = none := by injection hs
    have hcl := Try.slices_Clone_string b o zs.length c zs w (Nat.le_refl _) (by omega) (fun j hl => by
      have := hj j hl
      rw [add_none] at this
      rw [this]
      simp [List.getD_eq_getElem?_getD])
    exact hcl.mono fun e w' ⟨v', he, hr, _, hb⟩ => ⟨v', he, Kd.R_of_own (by simpa [encs] using hr) (fun _ _ => trivial), hb⟩
end Go.Proofs.Ytjahalkgjnnapaa.Hand
