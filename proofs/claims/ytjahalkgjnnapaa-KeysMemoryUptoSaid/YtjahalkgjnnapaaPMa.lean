/- The plain law of KeysMemory: what once, Norm and Union answer there. -/
import Derived.Test.YtjahalkgjnnapaaPSa
namespace Go.Proofs.Ytjahalkgjnnapaa.G
open Go.RowKit Go.Proofs.YtjahalkgjnnapaaW.PrintWords Hand
theorem addS_mem {l : List ByteArray} {x y : ByteArray} (h : y ∈ addS l x) : y ∈ l ∨ y = x := by
  unfold addS addAt at h
  split at h
  · exact .inl h
  · rcases List.mem_append.1 h with h | h
    · exact .inl (List.mem_of_mem_take h)
    · rcases List.mem_cons.1 h with h | h
      · exact .inr h
      · exact .inl (List.mem_of_mem_drop h)
theorem once_l0' (l : List ByteArray) : ∀ (d i : Nat) (out : List ByteArray), l.length = i + d → i ≤ 300 → out.length ≤ i → rising out = true → (∀ x, x ∈ out → x ∈ l) →
    ∃ v, Ev (fun k => rampartlaw04_once.l0 k l out (i : Int)) v ∧ rising v = true ∧ v.length ≤ 300 ∧ ∀ x, x ∈ v → x ∈ l := by
  intro d
  induction d with
  | zero =>
    intro i out h hi ho hr hm
    refine ⟨out, Ev.succ ?_, hr, by omega, hm⟩
    simp only [rampartlaw04_once.l0]
    refine Ev.neg (by omega) (Ev.succ ?_)
    simp only [rampartlaw04_once.j1]
    exact Ev.neg (by simp) (Ev.pure _)
  | succ d ih =>
    intro i out h hi ho hr hm
    rcases Nat.lt_or_ge i 300 with h3 | h3
    · obtain ⟨v, hv, hv1, hv2⟩ := ih (i + 1) (addS out (l[i]'(by omega))) (by omega) (by omega) (by have := addS_length out (l[i]'(by omega)); omega) (addS_rising _ _ hr) (fun x hx => by
        rcases addS_mem hx with hx | rfl
        · exact hm x hx
        · exact List.getElem_mem _)
      refine ⟨v, Ev.succ ?_, hv1, hv2⟩
      simp only [rampartlaw04_once.l0]
      refine Ev.pos (by omega) (Ev.succ ?_)
      simp only [rampartlaw04_once.j1]
      exact Ev.pos (by simp; omega) (once_l1 l out i (by omega) (by omega) (by omega) v out.length (Nat.le_refl _) hv)
    · refine ⟨out, Ev.succ ?_, hr, by omega, hm⟩
      simp only [rampartlaw04_once.l0]
      refine Ev.pos (by omega) (Ev.succ ?_)
      simp only [rampartlaw04_once.j1]
      exact Ev.neg (by simp; omega) (Ev.pure _)
theorem once_ev' (l : List ByteArray) : ∃ v, Ev (fun k => rampartlaw04_once.f k l) v ∧ rising v = true ∧ v.length ≤ 300 ∧ ∀ x, x ∈ v → x ∈ l :=
  once_l0' l l.length 0 [] (by omega) (by omega) (Nat.le_refl _) rfl (fun x hx => by cases hx)
theorem norm_mem {l : List S41} {x : S41} (h : x ∈ (normOf l).1) : x ∈ l := by
  unfold normOf at h
  split at h
  · unfold norm41 at h
    simp only [List.mem_map] at h
    obtain ⟨p, hp, rfl⟩ := h
    have := (List.mergeSort_perm (l.map pr41) fun a b => decide (txt a.1 ≤ txt b.1)).subset hp
    obtain ⟨y, hy, rfl⟩ := List.mem_map.1 this
    exact hy
  · cases h
theorem norm_len {l : List S41} (h : (normOf l).2 = 0) : (normOf l).1.length = l.length := by
  unfold normOf at h ⊢
  split at h
  · rename_i hv
    rw [if_pos hv]
    exact norm41_length l
  · exact absurd h (by decide)
def wS (x : ByteArray) : ByteArray := (⟨#[119]⟩ : ByteArray) ++ x
theorem txt_wS (x : ByteArray) : txt (wS x) = 119 :: txt x := by
  simp [txt, wS]
theorem rising_wS {l : List ByteArray} (h : rising l = true) : rising (l.map wS) = true := by
  rw [rising_iff] at h ⊢
  rw [List.pairwise_map]
  exact h.imp fun {a b} hab => by rw [txt_wS, txt_wS, List.cons_lt_cons_iff]; exact .inr ⟨rfl, hab⟩
theorem uni_nil {l : List ByteArray} (h : rising l = true) : uni l [] = l :=
  rising_eq (rising_uni h rfl) h (fun x => by rw [mem_uni]; simp)
end Go.Proofs.Ytjahalkgjnnapaa.G
