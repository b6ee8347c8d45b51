/- What a '[]string' and a '[]Pair' handed in read as: the print's rows. -/
import Derived.Test.YtjahalkgjnnapaaGx0
import Derived.Deep.Strs
import Derived.Deep.SlicePairs
namespace Go.Proofs.Ytjahalkgjnnapaa.G
open Go.RowKit Go.Deep Go.ChangeShapes Go.WideShapes Go.Proofs.YtjahalkgjnnapaaW.PrintWords
instance : Inhabited S41 := ⟨z41⟩
theorem cellsOf9 : Try.prog.cellsOf 9 = 1 := by kernel_rfl
theorem cellsOf41 : Try.prog.cellsOf 41 = 2 := by kernel_rfl
section
variable {H : Type} {enc : TypeId × Value → H}
theorem open_texts {W : World} {base : Nat} {v : Value} {d : DataW H} {p : List MemPlace}
    (hv : Value.okWide Try.prog W .any base 22 v) (h : DataW.Trod enc Try.prog W 0 (fun _ => true) true 22 v d p) :
    ∃ (A : Option Addr) (l : List ByteArray) (c : Nat), v = .slice A l.length c ∧ Kd.C Kd.string W A l.length l ∧ l.length ≤ c := by
  obtain ⟨a0, len, cap, rfl⟩ := okWide_slice Try.underlying22 hv
  obtain ⟨fuel, hf⟩ := h
  rcases open_strs Try.underlying22 Try.underlying9 cellsOf9 hf with ⟨hc, _⟩ | ⟨a, len', cap', m, Sx, hc, _, hl, hm, hmm, _, hx⟩
  · have hc : [Value.slice a0 len cap] = [.slice none 0 0] := hc
    simp only [List.cons.injEq, Value.slice.injEq, and_true] at hc
    obtain ⟨rfl, rfl, rfl⟩ := hc
    exact ⟨none, [], 0, rfl, ⟨rfl, by simp, fun h => absurd h (by simp)⟩, Nat.le_refl _⟩
  · have hc : [Value.slice a0 len cap] = [.slice (some a) len' cap'] := hc
    simp only [List.cons.injEq, Value.slice.injEq, and_true] at hc
    obtain ⟨rfl, rfl, rfl⟩ := hc
    simp only [if_true] at hmm
    have hlen : ((List.range len).map Sx).length = len := by simp
    have hml : cap ≤ 9223372036854775807 := hm
    refine ⟨some a, (List.range len).map Sx, cap, by rw [hlen], ⟨rfl, by rw [hlen]; omega, fun _ => ⟨a, rfl, fun j q hj => ?_⟩⟩, by rw [hlen]; exact hl⟩
    obtain ⟨hj1, hj2⟩ := List.getElem?_eq_some_iff.1 hj
    rw [hlen] at hj1
    rw [List.getElem_map, List.getElem_range] at hj2
    refine ⟨[.string q], rfl, rfl, fun i u hu => ?_⟩
    show W.cell? (a.add (j * 1 + i)) = some u
    have hc2 := (hx j (by omega)).1
    rw [hj2] at hc2
    match i, hu with
    | 0, hu =>
      obtain rfl : Value.string q = u := by simpa using hu
      simpa using hc2
    | i + 1, hu => simp at hu
theorem open_pairs {W : World} {base : Nat} {v : Value} {d : DataW H} {p : List MemPlace}
    (hv : Value.okWide Try.prog W .any base 33 v) (h : DataW.Trod enc Try.prog W 0 (fun _ => true) true 33 v d p) :
    ∃ (A : Option Addr) (l : List S41) (c : Nat), v = .slice A l.length c ∧ Kd.C k41 W A l.length l ∧ l.length ≤ c := by
  obtain ⟨a0, len, cap, rfl⟩ := okWide_slice Try.underlying33 hv
  obtain ⟨fuel, hf⟩ := h
  rcases open_slice_pairs Try.underlying33 Try.underlying41 cellsOf41 rfl rfl cellsOf9 cellsOf9 hf with ⟨hc, _⟩ | ⟨a, len', cap', m, n, V0, V1, D0, D1, P0, P1, hc, _, hl, hm, hmm, _, hx⟩
  · have hc : [Value.slice a0 len cap] = [.slice none 0 0] := hc
    simp only [List.cons.injEq, Value.slice.injEq, and_true] at hc
    obtain ⟨rfl, rfl, rfl⟩ := hc
    exact ⟨none, [], 0, rfl, ⟨rfl, by simp, fun h => absurd h (by simp)⟩, Nat.le_refl _⟩
  · have hc : [Value.slice a0 len cap] = [.slice (some a) len' cap'] := hc
    simp only [List.cons.injEq, Value.slice.injEq, and_true] at hc
    obtain ⟨rfl, rfl, rfl⟩ := hc
    simp only [if_true] at hmm
    have each : ∀ i, i < m → ∃ s : S41, V0 i = .string s.f0 ∧ V1 i = .string s.f1 := fun i hi => by
      obtain ⟨_, _, h0, h1⟩ := hx i hi
      obtain ⟨s0, e0, _⟩ := DataW.trod_string Try.underlying9 h0
      obtain ⟨s1, e1, _⟩ := DataW.trod_string Try.underlying9 h1
      exact ⟨⟨s0, s1⟩, by simpa using e0, by simpa using e1⟩
    obtain ⟨Sx, hS⟩ := choose_lt each
    have hlen : ((List.range len).map Sx).length = len := by simp
    have hml : cap ≤ 9223372036854775807 := hm
    refine ⟨some a, (List.range len).map Sx, cap, by rw [hlen], ⟨rfl, by rw [hlen]; omega, fun _ => ⟨a, rfl, fun j q hj => ?_⟩⟩, by rw [hlen]; exact hl⟩
    obtain ⟨hj1, hj2⟩ := List.getElem?_eq_some_iff.1 hj
    rw [hlen] at hj1
    rw [List.getElem_map, List.getElem_range] at hj2
    refine ⟨[.string q.f0, .string q.f1], rfl, k41_mk W q, fun i u hu => ?_⟩
    have hc2 := hx j (by omega)
    have hs2 := hS j (by omega)
    rw [hj2] at hs2
    show W.cell? (a.add (j * 2 + i)) = some u
    match i, hu with
    | 0, hu =>
      obtain rfl : Value.string q.f0 = u := by simpa using hu
      rw [← hs2.1]
      exact hc2.1
    | 1, hu =>
      obtain rfl : Value.string q.f1 = u := by simpa using hu
      rw [← hs2.2]
      exact hc2.2.1
    | i + 2, hu => simp at hu
end
end Go.Proofs.Ytjahalkgjnnapaa.G
