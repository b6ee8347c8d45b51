/- Lists of texts: rising, sorted, valid: plain definitions. -/
import Derived.Test.YtjahalkgjnnapaaHandSort
import Derived.Sort.Walk0
namespace Go.Proofs.Ytjahalkgjnnapaa.Hand
open Go.RowKit

def lt (a b : ByteArray) : Bool := Op.bytesLess a.toList b.toList
def rising : List ByteArray → Bool
  | [] => true
  | [_] => true
  | a :: b :: r => lt a b && rising (b :: r)
def small (l : List ByteArray) : Bool := l.all fun x => decide (x.size ≤ 65535)
def valid (l : List ByteArray) : Bool := decide (1 ≤ l.length) && (decide (l.length ≤ 1024) && (small l && rising (sorted l)))
theorem valid_none {l : List ByteArray} (h : l.length < 1) : valid l = false := by simp [valid]; omega
theorem valid_many {l : List ByteArray} (h : 1024 < l.length) : valid l = false := by
  unfold valid
  rw [show decide (l.length ≤ 1024) = false from by simp; omega]
  simp
theorem valid_great {l : List ByteArray} {j : Nat} (h : j < l.length) (hs : 65535 < l[j].size) : valid l = false := by
  have : small l = false := by
    unfold small
    rw [List.all_eq_false]
    exact ⟨l[j], List.getElem_mem h, by simp; omega⟩
  unfold valid
  rw [this]
  simp
theorem valid_rest {l : List ByteArray} (h1 : 1 ≤ l.length) (h2 : l.length ≤ 1024) (hs : ∀ j (h : j < l.length), l[j].size ≤ 65535) : valid l = rising (sorted l) := by
  have : small l = true := by
    unfold small
    rw [List.all_eq_true]
    intro x hx
    obtain ⟨j, hj, rfl⟩ := List.getElem_of_mem hx
    exact decide_eq_true (hs j hj)
  unfold valid
  rw [this, decide_eq_true h1, decide_eq_true h2]
  simp

theorem lt_iff (a b : ByteArray) : lt a b = true ↔ txt a < txt b := by
  unfold lt txt
  rw [Go.Proofs.bytesLess_eq, ByteArray.toList_eq, ByteArray.toList_eq]
  simp
theorem rising_pairwise : ∀ {l : List ByteArray}, rising l = true → l.Pairwise fun a b => txt a < txt b
  | [], _ => List.Pairwise.nil
  | [_], _ => by simp
  | a :: b :: r, h => by
    simp only [rising, Bool.and_eq_true] at h
    have hab := (lt_iff a b).1 h.1
    have ih := rising_pairwise h.2
    refine List.pairwise_cons.2 ⟨fun x hx => ?_, ih⟩
    rcases List.mem_cons.1 hx with rfl | hx'
    · exact hab
    · exact List.lt_trans hab ((List.pairwise_cons.1 ih).1 x hx')
theorem pairwise_rising : ∀ {l : List ByteArray}, (l.Pairwise fun a b => txt a < txt b) → rising l = true
  | [], _ => rfl
  | [_], _ => rfl
  | a :: b :: r, h => by
    rw [List.pairwise_cons] at h
    simp only [rising, Bool.and_eq_true]
    exact ⟨(lt_iff a b).2 (h.1 b List.mem_cons_self), pairwise_rising h.2⟩
theorem rising_iff {l : List ByteArray} : rising l = true ↔ l.Pairwise fun a b => txt a < txt b := ⟨rising_pairwise, pairwise_rising⟩
theorem rising_nodup {l : List ByteArray} (h : rising l = true) : l.Nodup :=
  (rising_pairwise h).imp fun {a b} hab e => by subst e; exact List.lt_irrefl _ hab
theorem txt_inj {a b : ByteArray} (h : txt a = txt b) : a = b := by rw [← strOf_txt a, ← strOf_txt b, h]
theorem sorted_perm (l : List ByteArray) : (sorted l).Perm l := by
  have h := (List.mergeSort_perm (l.map txt) fun x y => decide (x ≤ y)).map strOf
  rwa [List.map_map, show strOf ∘ txt = id from funext strOf_txt, List.map_id] at h
theorem txt_strOf (l : List UInt8) : txt (strOf l) = l := rfl
theorem sorted_pairwise (l : List ByteArray) : (sorted l).Pairwise fun a b => txt a ≤ txt b := by
  unfold sorted
  rw [List.pairwise_map]
  have := List.pairwise_mergeSort (le := fun x y : List UInt8 => decide (x ≤ y)) (fun a b c h1 h2 => by simp at *; exact List.le_trans h1 h2) (fun a b => by simp; exact List.le_total _ _) (l.map txt)
  exact this.imp fun h => by simpa [txt_strOf] using h
theorem sorted_unique {l l' : List ByteArray} (hp : l'.Perm l) (hs : l'.Pairwise fun a b => txt a ≤ txt b) : l' = sorted l :=
  List.Perm.eq_of_pairwise (fun _ _ _ _ h1 h2 => txt_inj (List.le_antisymm h1 h2)) hs (sorted_pairwise l) (hp.trans (sorted_perm l).symm)
theorem le_of_lt {a b : List UInt8} (h : a < b) : a ≤ b := List.le_of_lt h
/-- A list without twins, put in order, rises. -/
theorem rising_sorted {l : List ByteArray} : rising (sorted l) = true ↔ l.Nodup := by
  constructor
  · intro h
    exact (sorted_perm l).nodup_iff.1 (rising_nodup h)
  · intro h
    refine pairwise_rising ?_
    have h1 := (sorted_perm l).nodup_iff.2 h
    have h2 := sorted_pairwise l
    refine (List.Pairwise.and h2 h1).imp fun {a b} hab => ?_
    rcases List.le_iff_lt_or_eq.1 hab.1 with h' | h'
    · exact h'
    · exact absurd (txt_inj h') hab.2
theorem valid_nodup {l : List ByteArray} (h : valid l = true) : l.Nodup := by
  simp only [valid, Bool.and_eq_true] at h
  exact rising_sorted.1 h.2.2.2
theorem valid_iff {l : List ByteArray} : valid l = true ↔ 1 ≤ l.length ∧ l.length ≤ 1024 ∧ (∀ x ∈ l, x.size ≤ 65535) ∧ l.Nodup := by
  simp only [valid, Bool.and_eq_true, decide_eq_true_eq, rising_sorted, small, List.all_eq_true]
end Go.Proofs.Ytjahalkgjnnapaa.Hand
