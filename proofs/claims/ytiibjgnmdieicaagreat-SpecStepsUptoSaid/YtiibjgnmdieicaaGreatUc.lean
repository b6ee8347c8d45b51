/- spec's laws: has, below, in plain words. -/
import Derived.Test.YtiibjgnmdieicaaGreatQm
import Derived.Test.YtiibjgnmdieicaaGreatUb
namespace Go.Proofs.YtiibjgnmdieicaaGreat.Hist
open Go.RowKit Go.Proofs.YtiibjgnmdieicaaGreatW.PrintWords Go.Sort
theorem any_at {α : Type} {p : α → Bool} {l : List α} {j : Nat} (h : j < l.length) (hp : p l[j] = true) : l.any p = true := List.any_eq_true.2 ⟨_, List.getElem_mem h, hp⟩
theorem any_no {α : Type} {p : α → Bool} {l : List α} (h : ∀ t, (ht : t < l.length) → p l[t] = false) : l.any p = false := by
  rw [List.any_eq_false]
  intro x hx
  obtain ⟨t, ht, rfl⟩ := List.getElem_of_mem hx
  rw [h t ht]
  decide
end Go.Proofs.YtiibjgnmdieicaaGreat.Hist
/- spec's laws: all constraints, in plain words. -/
namespace Go.Proofs.YtiibjgnmdieicaaGreat.Hist
open Go.RowKit Go.Proofs.YtiibjgnmdieicaaGreatW.PrintWords Go.Sort
end Go.Proofs.YtiibjgnmdieicaaGreat.Hist
/- spec's laws: what meets tells, in plain words. -/
namespace Go.Proofs.YtiibjgnmdieicaaGreat.Hist
open Go.RowKit Go.Proofs.YtiibjgnmdieicaaGreatW.PrintWords Go.Sort
end Go.Proofs.YtiibjgnmdieicaaGreat.Hist
/- The least order, in plain words: search's first and lay's are one. -/
namespace Go.Proofs.YtiibjgnmdieicaaGreat.Hist
open Go.RowKit Go.Proofs.YtiibjgnmdieicaaGreatW.PrintWords Go.Sort
theorem fidx_spec {α : Type} (p : α → Bool) (l : List α) : (fidx p l = -1 ∧ ∀ t, (ht : t < l.length) → p l[t] = false) ∨ ∃ j, ∃ h : j < l.length, fidx p l = (j : Int) ∧ p l[j] = true ∧ ∀ t, (ht : t < l.length) → t < j → p l[t] = false := by
  unfold fidx
  by_cases h : l.any p = true
  · right
    have hlt : l.findIdx p < l.length := List.findIdx_lt_length.2 (by simpa using h)
    exact ⟨l.findIdx p, hlt, if_pos h, List.findIdx_getElem (w := hlt), fun t ht h2 => by simpa using List.not_of_lt_findIdx h2⟩
  · left
    refine ⟨if_neg h, fun t ht => ?_⟩
    cases hb : p l[t] with
    | false => rfl
    | true => exact absurd (List.any_eq_true.2 ⟨_, List.getElem_mem ht, hb⟩) h
/-- each is the first that may come -/
def Grd (ws0 : List Sw) (pi : List Nat) : Prop := ∀ pre x suf, pi = pre ++ x :: suf → ∀ u, u < x → u ∈ pre ∨ ∃ v, Mem ws0 v u ∧ v ∉ pre
theorem sumI_all0 (a : Nat) (l : List Sw) (h : ∀ x ∈ l, named a x = 0) : sumI (named a) l = 0 := by
  induction l with
  | nil => rfl
  | cons x t ih =>
    simp only [sumI, h x List.mem_cons_self, ih fun y hy => h y (List.mem_cons_of_mem _ hy)]
    rfl
theorem KI.first {ws0 ws : List Sw} {pi : List Nat} (h : KI ws0 ws pi) {j : Nat} (hf : fidx freeB ws = (j : Int)) {u : Nat} (hu : u < j) : u ∈ pi ∨ ∃ v, Mem ws0 v u ∧ v ∉ pi := by
  by_cases hp : u ∈ pi
  · exact .inl hp
  · refine .inr (Classical.byContradiction fun hn => ?_)
    rcases fidx_spec freeB ws with ⟨e, _⟩ | ⟨k, hk, e, _, hmin⟩
    · rw [e] at hf
      omega
    · have : k = j := by rw [e] at hf; omega
      subst this
      have hul : u < ws.length := by omega
      have hx := List.getElem?_eq_getElem hul
      have hpl : ws[u].placed = false := by
        cases hb : ws[u].placed with
        | false => rfl
        | true => exact absurd ((h.plac u _ hx).1 hb) hp
      have hw : ws[u].waits = 0 := by
        rw [h.kn u _ hx]
        refine sumI_all0 u ws fun x hxm => ?_
        unfold named
        split
        · rfl
        · rename_i hpx
          obtain ⟨v, hv, rfl⟩ := List.getElem_of_mem hxm
          by_cases hc : u ∈ ws[v].behind
          · have hm : Mem ws0 v u := (h.same.mem v u).1 ⟨_, List.getElem?_eq_getElem hv, hc⟩
            exact absurd ⟨v, hm, fun e => hpx ((h.plac v _ (List.getElem?_eq_getElem hv)).2 e)⟩ hn
          · rw [List.count_eq_zero_of_not_mem hc]
            rfl
      have hfree : freeB ws[u] = true := by
        unfold freeB
        rw [hpl, hw]
        rfl
      have := hmin u hul hu
      rw [hfree] at this
      cases this
theorem Grd.snoc {ws0 : List Sw} {pi : List Nat} (h : Grd ws0 pi) {j : Nat} (hj : ∀ u, u < j → u ∈ pi ∨ ∃ v, Mem ws0 v u ∧ v ∉ pi) : Grd ws0 (pi ++ [j]) := by
  intro pre x suf he u hu
  rcases List.eq_nil_or_concat suf with rfl | ⟨s, y, rfl⟩
  · obtain ⟨rfl, e⟩ := List.append_inj' he rfl
    obtain rfl : j = x := by simpa using e
    exact hj u hu
  · rw [List.concat_eq_append, ← List.cons_append, ← List.append_assoc] at he
    obtain ⟨rfl, _⟩ := List.append_inj' he rfl
    exact h pre x s rfl u hu
end Go.Proofs.YtiibjgnmdieicaaGreat.Hist
/- The least order: what Order tells is the first that search comes to. -/
namespace Go.Proofs.YtiibjgnmdieicaaGreat.Hist
open Go.RowKit Go.Proofs.YtiibjgnmdieicaaGreatW.PrintWords Go.Sort
section
variable {l : List Evt}
end
end Go.Proofs.YtiibjgnmdieicaaGreat.Hist
