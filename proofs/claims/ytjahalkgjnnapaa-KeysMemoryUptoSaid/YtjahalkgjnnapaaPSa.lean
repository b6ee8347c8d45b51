/- The plain law of the keys: once (rising, each once, at most 300), and what holds of rising lists of texts. -/
import Derived.Test.YtjahalkgjnnapaaPKa
import Derived.Test.YtjahalkgjnnapaaKc
namespace Go.Proofs.Ytjahalkgjnnapaa.G
open Go.RowKit Go.Proofs.YtjahalkgjnnapaaW.PrintWords Hand

def cutS (l : List ByteArray) (x : ByteArray) : Nat → Nat
  | 0 => 0
  | i + 1 => if Op.bytesLess x.toList (l[i]?.getD ByteArray.empty).toList = true then cutS l x i else i + 1
theorem cutS_le (l : List ByteArray) (x : ByteArray) : ∀ i, cutS l x i ≤ i
  | 0 => Nat.le_refl _
  | i + 1 => by
    unfold cutS
    split
    · exact Nat.le_succ_of_le (cutS_le l x i)
    · exact Nat.le_refl _
theorem cutS_above (l : List ByteArray) (x : ByteArray) : ∀ i j, cutS l x i ≤ j → j < i → Op.bytesLess x.toList (l[j]?.getD ByteArray.empty).toList = true
  | 0, _, _, h => by omega
  | i + 1, j, h1, h2 => by
    unfold cutS at h1
    split at h1
    · rcases Nat.lt_or_ge j i with h | h
      · exact cutS_above l x i j h1 h
      · obtain rfl : j = i := by omega
        assumption
    · omega
theorem cutS_below (l : List ByteArray) (x : ByteArray) : ∀ i, 0 < cutS l x i → ¬ Op.bytesLess x.toList (l[cutS l x i - 1]?.getD ByteArray.empty).toList = true
  | 0, h => by simp [cutS] at h
  | i + 1, h => by
    unfold cutS at h ⊢
    split
    · rename_i hc
      rw [if_pos hc] at h
      exact cutS_below l x i h
    · assumption
/-- One text more, if it does not stand there. -/
def addAt (l : List ByteArray) (x : ByteArray) (c : Nat) : List ByteArray := if 0 < c ∧ l[c - 1]? = some x then l else l.take c ++ x :: l.drop c
def addS (l : List ByteArray) (x : ByteArray) : List ByteArray := addAt l x (cutS l x l.length)
theorem addS_length (l : List ByteArray) (x : ByteArray) : (addS l x).length ≤ l.length + 1 := by
  have := cutS_le l x l.length
  unfold addS addAt
  split
  · omega
  · simp
    omega
theorem addS_rising (l : List ByteArray) (x : ByteArray) (h : rising l = true) : rising (addS l x) = true := by
  have hp := rising_iff.1 h
  have hc := cutS_le l x l.length
  unfold addS addAt
  split
  · exact h
  · rename_i hne
    rw [rising_iff, List.pairwise_append, List.pairwise_cons]
    have hA : ∀ b ∈ l.drop (cutS l x l.length), txt x < txt b := by
      intro b hb
      obtain ⟨j, hj, rfl⟩ := List.getElem_of_mem hb
      rw [List.length_drop] at hj
      rw [List.getElem_drop]
      have := cutS_above l x l.length (cutS l x l.length + j) (by omega) (by omega)
      rw [List.getElem?_eq_getElem (by omega), Option.getD_some, less_txt] at this
      exact this
    have hB : ∀ a ∈ l.take (cutS l x l.length), txt a < txt x := by
      intro a ha
      obtain ⟨j, hj, rfl⟩ := List.getElem_of_mem ha
      rw [List.length_take] at hj
      rw [List.getElem_take]
      have hb := cutS_below l x l.length (by omega)
      rw [List.getElem?_eq_getElem (by omega), Option.getD_some, less_txt] at hb
      have hb := List.not_lt.1 hb
      have hlt : txt (l[cutS l x l.length - 1]'(by omega)) < txt x := by
        rcases List.le_iff_lt_or_eq.1 hb with h1 | h1
        · exact h1
        · exact absurd ⟨by omega, by rw [List.getElem?_eq_getElem (by omega), txt_inj h1]⟩ hne
      rcases Nat.lt_or_ge j (cutS l x l.length - 1) with h1 | h1
      · exact List.lt_trans ((List.pairwise_iff_getElem.1 hp) j (cutS l x l.length - 1) (by omega) (by omega) h1) hlt
      · obtain rfl : j = cutS l x l.length - 1 := by omega
        exact hlt
    refine ⟨hp.sublist (List.take_sublist _ _), ⟨hA, hp.sublist (List.drop_sublist _ _)⟩, fun a ha b hb => ?_⟩
    rcases List.mem_cons.1 hb with rfl | hb
    · exact hB a ha
    · exact List.lt_trans (hB a ha) (hA b hb)
theorem once_l1 (l out : List ByteArray) (j : Nat) (hl : j ≤ 100000) (ho : out.length ≤ 100000) (hj : j < l.length) (v : List ByteArray) : ∀ i, i ≤ out.length →
    Ev (fun k => rampartlaw04_once.l0 k l (addAt out l[j] (cutS out l[j] i)) ((j + 1 : Nat) : Int)) v →
    Ev (fun k => rampartlaw04_once.l1 k l out (j : Int) (i : Int)) v := by
  intro i
  induction i with
  | zero =>
    intro _ h
    refine Ev.succ ?_
    simp only [rampartlaw04_once.l1, Option.bind_some, List.nil_append, List.append_assoc, List.singleton_append]
    rw [w_up (by omega), rd_nat hj]
    have e : addAt out l[j] (cutS out l[j] 0) = out.take ((0 : Nat) : Int).toNat ++ l[j] :: out.drop ((0 : Nat) : Int).toNat := by simp [addAt, cutS]
    rw [e] at h
    exact Ev.neg (by omega) (Ev.pos (by omega) (Ev.pos (by omega) (Ev.pos (by simp) (Ev.pos (by omega) (Ev.pos (by omega) (Ev.pos (by simp) (Ev.pos (by simp; omega) h)))))))
  | succ i ih =>
    intro hi h
    refine Ev.succ ?_
    simp only [rampartlaw04_once.l1, Option.bind_some, List.nil_append, List.append_assoc, List.singleton_append]
    rw [w_up (by omega), w_dn (by omega), rd_nat hj, rd_nat (l := out) (i := i) (by omega), Int.toNat_natCast]
    have hg : out[i]?.getD ByteArray.empty = out[i]'(by omega) := by
      rw [List.getElem?_eq_getElem (by omega)]
      rfl
    refine Ev.pos (by omega) (Ev.pos (by omega) (Ev.pos (by omega) (Ev.pos (by omega) (Ev.pos (by omega) ?_))))
    by_cases hc : Op.bytesLess (l[j]).toList (out[i]'(by omega)).toList = true
    · refine Ev.pos hc (ih (by omega) ?_)
      rw [show cutS out l[j] (i + 1) = cutS out l[j] i from by simp only [cutS]; rw [hg, if_pos hc]] at h
      exact h
    · rw [show cutS out l[j] (i + 1) = i + 1 from by simp only [cutS]; rw [hg, if_neg hc]] at h
      refine Ev.neg hc ?_
      by_cases he : (out[i]'(by omega)).toList = (l[j]).toList
      · rw [show addAt out l[j] (i + 1) = out from if_pos ⟨by omega, by rw [Nat.add_sub_cancel, List.getElem?_eq_getElem (by omega), toList_inj.1 he]⟩] at h
        exact Ev.pos he h
      · rw [show addAt out l[j] (i + 1) = out.take (i + 1) ++ l[j] :: out.drop (i + 1) from if_neg (fun h1 => he (by
          have h2 := h1.2
          rw [Nat.add_sub_cancel, List.getElem?_eq_getElem (by omega)] at h2
          rw [Option.some.inj h2]))] at h
        exact Ev.neg he (Ev.pos (by omega) (Ev.pos (by omega) (Ev.pos (by simp; omega) (Ev.pos (by simp; omega) (Ev.pos (by simp; omega) h)))))
theorem once_l0 (l : List ByteArray) : ∀ (d i : Nat) (out : List ByteArray), l.length = i + d → i ≤ 300 → out.length ≤ i → rising out = true →
    ∃ v, Ev (fun k => rampartlaw04_once.l0 k l out (i : Int)) v ∧ rising v = true ∧ v.length ≤ 300 := by
  intro d
  induction d with
  | zero =>
    intro i out h hi ho hr
    refine ⟨out, Ev.succ ?_, hr, by omega⟩
    simp only [rampartlaw04_once.l0]
    refine Ev.neg (by omega) (Ev.succ ?_)
    simp only [rampartlaw04_once.j1]
    exact Ev.neg (by simp) (Ev.pure _)
  | succ d ih =>
    intro i out h hi ho hr
    rcases Nat.lt_or_ge i 300 with h3 | h3
    · obtain ⟨v, hv, hv1, hv2⟩ := ih (i + 1) (addS out (l[i]'(by omega))) (by omega) (by omega) (by have := addS_length out (l[i]'(by omega)); omega) (addS_rising _ _ hr)
      refine ⟨v, Ev.succ ?_, hv1, hv2⟩
      simp only [rampartlaw04_once.l0]
      refine Ev.pos (by omega) (Ev.succ ?_)
      simp only [rampartlaw04_once.j1]
      exact Ev.pos (by simp; omega) (once_l1 l out i (by omega) (by omega) (by omega) v out.length (Nat.le_refl _) hv)
    · refine ⟨out, Ev.succ ?_, hr, by omega⟩
      simp only [rampartlaw04_once.l0]
      refine Ev.pos (by omega) (Ev.succ ?_)
      simp only [rampartlaw04_once.j1]
      exact Ev.neg (by simp; omega) (Ev.pure _)
theorem once_ev (l : List ByteArray) : ∃ v, Ev (fun k => rampartlaw04_once.f k l) v ∧ rising v = true ∧ v.length ≤ 300 :=
  once_l0 l l.length 0 [] (by omega) (by omega) (Nat.le_refl _) rfl

/-! ### rising lists -/
theorem rising_le {l : List ByteArray} (h : rising l = true) : l.Pairwise fun a b => txt a ≤ txt b := (rising_iff.1 h).imp le_of_lt
theorem rising_eq {l l' : List ByteArray} (h : rising l = true) (h' : rising l' = true) (hm : ∀ x, x ∈ l ↔ x ∈ l') : l = l' := by
  have hp : l.Perm l' := (List.perm_ext_iff_of_nodup (rising_nodup h) (rising_nodup h')).2 hm
  rw [sorted_unique hp (rising_le h), ← sorted_unique (List.Perm.refl l') (rising_le h')]
theorem rising_filter {l : List ByteArray} (p : ByteArray → Bool) (h : rising l = true) : rising (l.filter p) = true :=
  rising_iff.2 ((rising_iff.1 h).sublist List.filter_sublist)
def com (a b : List ByteArray) : List ByteArray := a.filter fun x => decide (x ∈ b) == true
def mns (a b : List ByteArray) : List ByteArray := a.filter fun x => decide (x ∈ b) == false
def uni (a b : List ByteArray) : List ByteArray := sorted (a ++ fresh a b)
theorem mem_com {a b : List ByteArray} {x : ByteArray} : x ∈ com a b ↔ x ∈ a ∧ x ∈ b := by simp [com]
theorem mem_mns {a b : List ByteArray} {x : ByteArray} : x ∈ mns a b ↔ x ∈ a ∧ ¬ x ∈ b := by simp [mns]
theorem mem_fresh {a b : List ByteArray} {x : ByteArray} : x ∈ fresh a b ↔ x ∈ b ∧ ¬ x ∈ a := by simp [fresh]
theorem mem_uni {a b : List ByteArray} {x : ByteArray} : x ∈ uni a b ↔ x ∈ a ∨ x ∈ b := by
  unfold uni
  rw [(sorted_perm _).mem_iff, List.mem_append, mem_fresh]
  by_cases h : x ∈ a <;> simp [h]
theorem rising_com {a : List ByteArray} (b : List ByteArray) (h : rising a = true) : rising (com a b) = true := rising_filter _ h
theorem rising_mns {a : List ByteArray} (b : List ByteArray) (h : rising a = true) : rising (mns a b) = true := rising_filter _ h
theorem rising_uni {a b : List ByteArray} (h : rising a = true) (h' : rising b = true) : rising (uni a b) = true := by
  refine rising_sorted.2 (List.nodup_append.2 ⟨rising_nodup h, (rising_nodup h').sublist List.filter_sublist, fun x hx y hy e => ?_⟩)
  subst e
  exact (mem_fresh.1 hy).2 hx
theorem length_uni (a b : List ByteArray) (ha : rising a = true) (hb : rising b = true) : (uni a b).length + (com a b).length = a.length + b.length := by
  have e : com a b = com b a := rising_eq (rising_com b ha) (rising_com a hb) (fun x => by rw [mem_com, mem_com, And.comm])
  have : ∀ l : List ByteArray, (l.filter fun x => decide (x ∈ a) == false).length + (l.filter fun x => decide (x ∈ a) == true).length = l.length := by
    intro l
    induction l with
    | nil => rfl
    | cons y l ih =>
      by_cases h : y ∈ a
      · simp [h] at ih ⊢
        omega
      · simp [h] at ih ⊢
        omega
  have h1 := this b
  rw [e]
  unfold uni
  rw [sorted_length, List.length_append]
  show a.length + (fresh a b).length + (com b a).length = a.length + b.length
  unfold fresh com
  omega
theorem length_mns (a b : List ByteArray) : (mns a b).length + (com a b).length = a.length := by
  unfold mns com
  induction a with
  | nil => rfl
  | cons y l ih =>
    by_cases h : y ∈ b
    · simp [h] at ih ⊢
      omega
    · simp [h] at ih ⊢
      omega
theorem uni_comm {a b : List ByteArray} (ha : rising a = true) (hb : rising b = true) : uni a b = uni b a :=
  rising_eq (rising_uni ha hb) (rising_uni hb ha) (fun x => by rw [mem_uni, mem_uni, Or.comm])
theorem com_comm {a b : List ByteArray} (ha : rising a = true) (hb : rising b = true) : com a b = com b a :=
  rising_eq (rising_com b ha) (rising_com a hb) (fun x => by rw [mem_com, mem_com, And.comm])
theorem uni_parts {a : List ByteArray} (b : List ByteArray) (ha : rising a = true) : uni (mns a b) (com a b) = a :=
  rising_eq (rising_uni (rising_mns b ha) (rising_com b ha)) ha (fun x => by
    rw [mem_uni, mem_mns, mem_com]
    by_cases h : x ∈ b <;> simp [h])
theorem com_none (a b : List ByteArray) : com (mns a b) b = [] := by
  refine List.eq_nil_iff_forall_not_mem.2 fun x hx => ?_
  rw [mem_com, mem_mns] at hx
  exact hx.1.2 hx.2
theorem union_is {a b : List ByteArray} (ha : rising a = true) (hb : rising b = true) : unionOf a b = (uni a b, 0) := by
  unfold unionOf
  rw [if_pos (by rw [ha, hb]; rfl)]
  rfl
theorem common_is {a b : List ByteArray} (ha : rising a = true) (hb : rising b = true) : someOf a b true = (com a b, 0) := by
  unfold someOf
  rw [if_pos (by rw [ha, hb]; rfl)]
  rfl
theorem minus_is {a b : List ByteArray} (ha : rising a = true) (hb : rising b = true) : someOf a b false = (mns a b, 0) := by
  unfold someOf
  rw [if_pos (by rw [ha, hb]; rfl)]
  rfl
theorem has_is {l : List ByteArray} (x : ByteArray) (h : rising l = true) : hasOf l x = decide (x ∈ l) := by
  unfold hasOf
  rw [h, Bool.true_and]
end Go.Proofs.Ytjahalkgjnnapaa.G
