/- The plain law of the keys: what the printed functions of the reference answer, fuel aside. -/
import Derived.Test.YtjahalkgjnnapaaPKa
import Derived.Test.YtjahalkgjnnapaaRa
namespace Go.Proofs.Ytjahalkgjnnapaa.G
open Go.RowKit Go.Proofs.YtjahalkgjnnapaaW.PrintWords Hand
theorem ref_rising_at (l0 : List ByteArray) (hl : l0.length ≤ 4611686018427387904) : ∀ (d k i : Nat), l0.length + 1 = i + 1 + d → d < k → rampartref04_Rising.l0 k l0 (((i + 1 : Nat) : Int)) = some (Hand.rising (l0.drop i)) := by
  intro d
  induction d with
  | zero =>
    intro k i hd hk
    obtain ⟨k, rfl⟩ : ∃ m, k = m + 1 := ⟨k - 1, by omega⟩
    simp only [rampartref04_Rising.l0]
    rw [if_neg (by omega), List.drop_eq_nil_of_le (by omega)]
    rfl
  | succ d ih =>
    intro k i hd hk
    obtain ⟨k, rfl⟩ : ∃ m, k = m + 1 := ⟨k - 1, by omega⟩
    simp only [rampartref04_Rising.l0]
    rcases Nat.lt_or_ge (i + 1) l0.length with h | h
    · have w1 : wrap64 (((i + 1 : Nat) : Int) - 1) = (i : Int) := by unfold wrap64; omega
      have w2 : wrap64 (((i + 1 : Nat) : Int) + 1) = ((i + 1 + 1 : Nat) : Int) := by unfold wrap64; omega
      rw [if_pos (by omega), w1, if_pos (by omega), if_pos (by omega), if_pos (by omega), w2, ih k (i + 1) (by omega) (by omega)]
      have e1 : rdOf ByteArray.empty l0 (i : Int) = l0[i] := by simp [rdOf, show i < l0.length from by omega]
      have e2 : rdOf ByteArray.empty l0 ((i + 1 : Nat) : Int) = l0[i + 1] := by
        unfold rdOf
        rw [show (((i + 1 : Nat) : Int)).toNat = i + 1 from by omega]
        simp [h]
      rw [e1, e2, List.drop_eq_getElem_cons (show i < l0.length by omega), List.drop_eq_getElem_cons h]
      simp only [Hand.rising, Hand.lt]
      cases Op.bytesLess l0[i].toList l0[i + 1].toList <;> simp
    · rw [if_neg (by omega)]
      have hi : i + 1 = l0.length := by omega
      rw [List.drop_eq_getElem_cons (show i < l0.length by omega), List.drop_eq_nil_of_le (by omega)]
      rfl
theorem ref_Rising_ev (l : List ByteArray) (hl : l.length ≤ 4611686018427387904) : Ev (fun k => rampartref04_Rising.f k l) (rising l) :=
  ⟨l.length + 1, fun k hk => by
    have := ref_rising_at l hl l.length k 0 (by omega) (by omega)
    unfold rampartref04_Rising.f
    simpa using this⟩

def cut (l : List ByteArray) (x : ByteArray) : Nat → Nat
  | 0 => 0
  | i + 1 => if Op.bytesLess x.toList (l[i]?.getD ByteArray.empty).toList = true then cut l x i else i + 1
def put (l : List ByteArray) (x : ByteArray) : List ByteArray := l.take (cut l x l.length) ++ x :: l.drop (cut l x l.length)
theorem cut_le (l : List ByteArray) (x : ByteArray) : ∀ i, cut l x i ≤ i
  | 0 => Nat.le_refl _
  | i + 1 => by
    unfold cut
    split
    · exact Nat.le_succ_of_le (cut_le l x i)
    · exact Nat.le_refl _
theorem cut_above (l : List ByteArray) (x : ByteArray) : ∀ i j, cut l x i ≤ j → j < i → Op.bytesLess x.toList (l[j]?.getD ByteArray.empty).toList = true
  | 0, _, _, h => by omega
  | i + 1, j, h1, h2 => by
    unfold cut at h1
    split at h1
    · rcases Nat.lt_or_ge j i with h | h
      · exact cut_above l x i j h1 h
      · obtain rfl : j = i := by omega
        assumption
    · omega
theorem cut_below (l : List ByteArray) (x : ByteArray) : ∀ i, 0 < cut l x i → ¬ Op.bytesLess x.toList (l[cut l x i - 1]?.getD ByteArray.empty).toList = true
  | 0, h => by simp [cut] at h
  | i + 1, h => by
    unfold cut at h ⊢
    split
    · rename_i hc
      rw [if_pos hc] at h
      exact cut_below l x i h
    · assumption
theorem put_length (l : List ByteArray) (x : ByteArray) : (put l x).length = l.length + 1 := by
  have := cut_le l x l.length
  simp [put]
  omega
theorem put_from (l : List ByteArray) (x : ByteArray) (hl : l.length ≤ 100000) : ∀ i, i ≤ l.length → Ev (fun k => rampartref04_put.l0 k l x (i : Int)) (l.take (cut l x i) ++ x :: l.drop (cut l x i)) := by
  intro i
  induction i with
  | zero =>
    intro _
    refine Ev.succ ?_
    simp only [rampartref04_put.l0]
    refine Ev.neg (by omega) ⟨0, fun k _ => ?_⟩
    rw [if_pos (by omega), if_pos (by omega), if_pos (by simp)]
    simp only [Option.bind_some]
    rw [if_pos (by simp), if_pos (by simp; omega)]
    simp [cut]
  | succ i ih =>
    intro hi
    refine Ev.succ ?_
    simp only [rampartref04_put.l0]
    rw [w_dn (by omega), show rdOf ByteArray.empty l (i : Int) = l[i]?.getD ByteArray.empty from by simp [rdOf]]
    refine Ev.pos (by omega) (Ev.pos (by omega) (Ev.pos (by omega) ?_))
    by_cases h : Op.bytesLess x.toList (l[i]?.getD ByteArray.empty).toList = true
    · refine Ev.pos h ?_
      rw [show cut l x (i + 1) = cut l x i from by simp only [cut]; rw [if_pos h]]
      exact ih (by omega)
    · refine Ev.neg h ⟨0, fun k _ => ?_⟩
      rw [show cut l x (i + 1) = i + 1 from by simp only [cut]; rw [if_neg h]]
      rw [if_pos (by omega), if_pos (by omega), Int.toNat_natCast, if_pos (by simp; omega)]
      simp only [Option.bind_some]
      rw [if_pos (by simp; omega), if_pos (by simp; omega)]
      simp
theorem put_ev (l : List ByteArray) (x : ByteArray) (hl : l.length ≤ 100000) : Ev (fun k => rampartref04_put.f k l x) (put l x) := put_from l x hl l.length (Nat.le_refl _)
theorem put_perm (l : List ByteArray) (x : ByteArray) : (put l x).Perm (x :: l) := by
  unfold put
  refine List.perm_middle.trans ?_
  rw [List.take_append_drop]
theorem put_sorted (l : List ByteArray) (x : ByteArray) (h : l.Pairwise fun a b => txt a ≤ txt b) : (put l x).Pairwise fun a b => txt a ≤ txt b := by
  have hc := cut_le l x l.length
  have hA : ∀ b ∈ l.drop (cut l x l.length), txt x ≤ txt b := by
    intro b hb
    obtain ⟨j, hj, rfl⟩ := List.getElem_of_mem hb
    rw [List.length_drop] at hj
    rw [List.getElem_drop]
    have := cut_above l x l.length (cut l x l.length + j) (by omega) (by omega)
    rw [List.getElem?_eq_getElem (by omega), Option.getD_some, less_txt] at this
    exact le_of_lt this
  have hB : ∀ a ∈ l.take (cut l x l.length), txt a ≤ txt x := by
    intro a ha
    obtain ⟨j, hj, rfl⟩ := List.getElem_of_mem ha
    rw [List.length_take] at hj
    rw [List.getElem_take]
    have hb := cut_below l x l.length (by omega)
    rw [List.getElem?_eq_getElem (by omega), Option.getD_some, less_txt] at hb
    have hb := List.not_lt.1 hb
    rcases Nat.lt_or_ge j (cut l x l.length - 1) with h1 | h1
    · exact List.le_trans ((List.pairwise_iff_getElem.1 h) j (cut l x l.length - 1) (by omega) (by omega) h1) hb
    · obtain rfl : j = cut l x l.length - 1 := by omega
      exact hb
  unfold put
  rw [List.pairwise_append, List.pairwise_cons]
  refine ⟨h.sublist (List.take_sublist _ _), ⟨hA, h.sublist (List.drop_sublist _ _)⟩, fun a ha b hb => ?_⟩
  rcases List.mem_cons.1 hb with rfl | hb
  · exact hB a ha
  · exact List.le_trans (hB a ha) (hA b hb)
theorem puts_perm : ∀ (l out : List ByteArray), (l.foldl put out).Perm (out ++ l)
  | [], out => by simp
  | x :: l, out => by
    refine (puts_perm l (put out x)).trans ?_
    refine ((put_perm out x).append_right l).trans ?_
    simpa using List.perm_middle.symm
theorem puts_sorted : ∀ (l out : List ByteArray), (out.Pairwise fun a b => txt a ≤ txt b) → (l.foldl put out).Pairwise fun a b => txt a ≤ txt b
  | [], _, h => h
  | x :: l, out, h => puts_sorted l (put out x) (put_sorted out x h)
theorem puts_eq (l out : List ByteArray) (h : out.Pairwise fun a b => txt a ≤ txt b) : l.foldl put out = sorted (out ++ l) :=
  sorted_unique (puts_perm l out) (puts_sorted l out h)
theorem order_from (l : List ByteArray) (hl : l.length ≤ 50000) : ∀ (d i : Nat) (out : List ByteArray), l.length = i + d → out.length = i → Ev (fun k => rampartref04_order.l0 k l out (i : Int)) ((l.drop i).foldl put out) := by
  intro d
  induction d with
  | zero =>
    intro i out h ho
    refine Ev.succ ?_
    simp only [rampartref04_order.l0]
    refine Ev.neg (by omega) ?_
    rw [List.drop_eq_nil_of_le (by omega)]
    exact Ev.pure _
  | succ d ih =>
    intro i out h ho
    refine Ev.succ ?_
    simp only [rampartref04_order.l0]
    refine Ev.pos (by omega) (Ev.pos (by omega) ?_)
    rw [rd_nat (by omega), w_up (by omega), List.drop_eq_getElem_cons (by omega)]
    exact Ev.bind (put_ev _ _ (by omega)) (ih (i + 1) (put out l[i]) (by omega) (by rw [put_length]; omega))
theorem order_ev (l : List ByteArray) (hl : l.length ≤ 50000) : Ev (fun k => rampartref04_order.f k l) (sorted l) := by
  have := order_from l hl l.length 0 [] (by omega) rfl
  rw [List.drop_zero, puts_eq l [] List.Pairwise.nil] at this
  exact this

theorem valid_from (l : List ByteArray) (h1 : 1 ≤ l.length) (h2 : l.length ≤ 1024) : ∀ (d i : Nat), l.length = i + d → (∀ j (h : j < l.length), j < i → l[j].size ≤ 65535) → Ev (fun k => rampartref04_Valid.l0 k l (i : Int)) (valid l) := by
  intro d
  induction d with
  | zero =>
    intro i h hs
    refine Ev.succ ?_
    simp only [rampartref04_Valid.l0]
    refine Ev.neg (by omega) (Ev.bind (order_ev l (by omega)) (Ev.bind (a := rising (sorted l)) (ref_Rising_ev _ (by rw [sorted_length]; omega)) ?_))
    rw [valid_rest h1 h2 (fun j hj => hs j hj (by omega))]
    exact Ev.pure _
  | succ d ih =>
    intro i h hs
    refine Ev.succ ?_
    simp only [rampartref04_Valid.l0]
    refine Ev.pos (by omega) (Ev.pos (by omega) ?_)
    rw [rd_nat (by omega), w_up (by omega)]
    by_cases hz : ((l[i]'(by omega)).size : Int) > 65535
    · refine Ev.pos hz ?_
      rw [valid_great (show i < l.length by omega) (by omega)]
      exact Ev.pure _
    · refine Ev.neg hz (ih (i + 1) (by omega) fun j hj hji => ?_)
      rcases Nat.lt_or_ge j i with h3 | h3
      · exact hs j hj h3
      · obtain rfl : j = i := by omega
        omega
theorem ref_Valid_ev (l : List ByteArray) : Ev (fun k => rampartref04_Valid.f k l) (valid l) := by
  simp only [rampartref04_Valid.f]
  by_cases h1 : (l.length : Int) < 1
  · refine Ev.pos h1 (Ev.succ ?_)
    simp only [rampartref04_Valid.j0]
    rw [valid_none (by omega)]
    exact Ev.pos (by first | trivial | rfl | decide) (Ev.pure _)
  · refine Ev.neg h1 (Ev.succ ?_)
    simp only [rampartref04_Valid.j0]
    by_cases h2 : (l.length : Int) > 1024
    · rw [valid_many (by omega)]
      exact Ev.pos (decide_eq_true h2) (Ev.pure _)
    · exact Ev.neg (by simpa using h2) (valid_from l (by omega) (by omega) l.length 0 (by omega) (fun j hj h => by omega))
theorem ref_Sorted_ev (l : List ByteArray) : Ev (fun k => rampartref04_Sorted.f k l) (sortOf l) := by
  simp only [rampartref04_Sorted.f]
  refine Ev.bind (ref_Valid_ev l) ?_
  unfold sortOf
  by_cases h : valid l = true
  · have := (valid_iff.1 h).2.1
    refine Ev.pos h (Ev.bind (order_ev l (by omega)) ?_)
    rw [if_pos h]
    exact Ev.pure _
  · refine Ev.neg h ?_
    rw [if_neg h]
    exact Ev.pure _

theorem in_from (l : List ByteArray) (x : ByteArray) (hl : l.length ≤ 4611686018427387904) : ∀ (d i : Nat), l.length = i + d → Ev (fun k => rampartref04_in.l0 k l x (i : Int)) (decide (x ∈ l.drop i)) := by
  intro d
  induction d with
  | zero =>
    intro i h
    refine Ev.succ ?_
    simp only [rampartref04_in.l0]
    rw [List.drop_eq_nil_of_le (by omega)]
    exact Ev.neg (by omega) (by simpa using Ev.pure false)
  | succ d ih =>
    intro i h
    refine Ev.succ ?_
    simp only [rampartref04_in.l0]
    rw [w_up (by omega), rd_nat (by omega), List.drop_eq_getElem_cons (by omega)]
    refine Ev.pos (by omega) (Ev.pos (by omega) ?_)
    by_cases he : (l[i]'(by omega)).toList = x.toList
    · refine Ev.pos he ?_
      rw [decide_eq_true (by rw [toList_inj.1 he]; exact List.mem_cons_self)]
      exact Ev.pure _
    · refine Ev.neg he ?_
      have hne : ¬ x = l[i] := fun e => he (by rw [e])
      have e2 : decide (x ∈ l[i] :: l.drop (i + 1)) = decide (x ∈ l.drop (i + 1)) := by
        apply decide_eq_decide.2
        rw [List.mem_cons]
        exact ⟨fun h => h.resolve_left hne, Or.inr⟩
      rw [e2]
      exact ih (i + 1) (by omega)
theorem in_ev (l : List ByteArray) (x : ByteArray) (hl : l.length ≤ 4611686018427387904) : Ev (fun k => rampartref04_in.f k l x) (decide (x ∈ l)) := by
  have := in_from l x hl l.length 0 (by omega)
  rwa [List.drop_zero] at this
theorem ref_Has_ev (l : List ByteArray) (x : ByteArray) (hl : l.length ≤ 100000) : Ev (fun k => rampartref04_Has.f k l x) (hasOf l x) := by
  simp only [rampartref04_Has.f]
  refine Ev.bind (ref_Rising_ev l (by omega)) ?_
  unfold hasOf
  by_cases h : rising l = true
  · rw [h, Bool.true_and]
    exact Ev.pos (by first | trivial | rfl | decide) (Ev.bind (in_ev l x (by omega)) (Ev.pure _))
  · rw [show rising l = false from by simpa using h, Bool.false_and]
    exact Ev.neg (by simp) (Ev.pure _)

theorem ref_some_from (a b : List ByteArray) (f : Bool) (ha : a.length ≤ 50000) (hb : b.length ≤ 50000) : ∀ (d i : Nat) (out : List ByteArray), a.length = i + d → out.length ≤ i →
    Ev (fun k => rampartref04_some.l0 k a b f out (i : Int)) (out ++ (a.drop i).filter (fun x => decide (x ∈ b) == f), 0) := by
  intro d
  induction d with
  | zero =>
    intro i out h ho
    refine Ev.succ ?_
    simp only [rampartref04_some.l0]
    rw [List.drop_eq_nil_of_le (by omega)]
    exact Ev.neg (by omega) (by simpa using Ev.pure (out, (0 : Int)))
  | succ d ih =>
    intro i out h ho
    refine Ev.succ ?_
    simp only [rampartref04_some.l0]
    rw [w_up (by omega), rd_nat (by omega), List.drop_eq_getElem_cons (by omega)]
    refine Ev.pos (by omega) (Ev.pos (by omega) (Ev.bind (in_ev b _ (by omega)) ?_))
    by_cases hc : (decide ((a[i]'(by omega)) ∈ b) == f) = true
    · have := ih (i + 1) (out ++ [a[i]'(by omega)]) (by omega) (by simp; omega)
      rw [List.append_assoc, List.singleton_append] at this
      rw [List.filter_cons_of_pos (p := fun x => decide (x ∈ b) == f) hc]
      exact Ev.pos hc (Ev.pos (by omega) this)
    · rw [List.filter_cons_of_neg (p := fun x => decide (x ∈ b) == f) hc]
      exact Ev.neg hc (ih (i + 1) out (by omega) (by omega))
theorem ref_some_ev (a b : List ByteArray) (f : Bool) (ha : a.length ≤ 50000) (hb : b.length ≤ 50000) : Ev (fun k => rampartref04_some.f k a b f) (someOf a b f) := by
  simp only [rampartref04_some.f]
  refine Ev.bind (ref_Rising_ev a (by omega)) (Ev.bind (ref_Rising_ev b (by omega)) ?_)
  unfold someOf
  by_cases h1 : rising a = true
  · refine Ev.pos h1 (Ev.succ ?_)
    simp only [rampartref04_some.j0]
    rw [h1, Bool.true_and]
    by_cases h2 : rising b = true
    · rw [if_pos h2]
      have := ref_some_from a b f ha hb a.length 0 [] (by omega) (by simp)
      rw [List.nil_append, List.drop_zero] at this
      exact Ev.neg (by simp [h2]) this
    · rw [if_neg h2]
      exact Ev.pos (by simpa using h2) (Ev.pure _)
  · refine Ev.neg h1 (Ev.succ ?_)
    simp only [rampartref04_some.j0]
    rw [if_neg (by simp [h1])]
    exact Ev.pos (by first | trivial | rfl | decide) (Ev.pure _)
theorem ref_Common_ev (a b : List ByteArray) (ha : a.length ≤ 50000) (hb : b.length ≤ 50000) : Ev (fun k => rampartref04_Common.f k a b) (someOf a b true) := by
  simp only [rampartref04_Common.f]
  exact Ev.bind (ref_some_ev a b true ha hb) (Ev.pure _)
theorem ref_Minus_ev (a b : List ByteArray) (ha : a.length ≤ 50000) (hb : b.length ≤ 50000) : Ev (fun k => rampartref04_Minus.f k a b) (someOf a b false) := by
  simp only [rampartref04_Minus.f]
  exact Ev.bind (ref_some_ev a b false ha hb) (Ev.pure _)

theorem ref_Union_from (a b : List ByteArray) (ha : a.length ≤ 50000) (hb : b.length ≤ 50000) : ∀ (d i : Nat) (out : List ByteArray), b.length = i + d → out.length ≤ a.length + i →
    Ev (fun k => rampartref04_Union.l0 k a b out (i : Int)) ((fresh a (b.drop i)).foldl put out, 0) := by
  intro d
  induction d with
  | zero =>
    intro i out h ho
    refine Ev.succ ?_
    simp only [rampartref04_Union.l0]
    rw [List.drop_eq_nil_of_le (by omega)]
    exact Ev.neg (by omega) (Ev.pure (out, (0 : Int)))
  | succ d ih =>
    intro i out h ho
    refine Ev.succ ?_
    simp only [rampartref04_Union.l0]
    rw [w_up (by omega), rd_nat (by omega), List.drop_eq_getElem_cons (by omega)]
    refine Ev.pos (by omega) (Ev.pos (by omega) (Ev.bind (in_ev a _ (by omega)) ?_))
    unfold fresh
    by_cases hc : decide ((b[i]'(by omega)) ∈ a) = true
    · rw [List.filter_cons_of_neg (p := fun x => decide (x ∈ a) == false) (by rw [hc]; decide)]
      exact Ev.pos hc (ih (i + 1) out (by omega) (by omega))
    · rw [List.filter_cons_of_pos (p := fun x => decide (x ∈ a) == false) (by rw [show decide ((b[i]'(by omega)) ∈ a) = false from by simpa using hc]; decide)]
      exact Ev.neg hc (Ev.bind (put_ev out _ (by omega)) (ih (i + 1) (put out b[i]) (by omega) (by rw [put_length]; omega)))
theorem ref_Union_ev (a b : List ByteArray) (ha : a.length ≤ 50000) (hb : b.length ≤ 50000) : Ev (fun k => rampartref04_Union.f k a b) (unionOf a b) := by
  simp only [rampartref04_Union.f]
  refine Ev.bind (ref_Rising_ev a (by omega)) (Ev.bind (ref_Rising_ev b (by omega)) ?_)
  unfold unionOf
  by_cases h1 : rising a = true
  · refine Ev.pos h1 (Ev.succ ?_)
    simp only [rampartref04_Union.j0]
    rw [h1, Bool.true_and]
    by_cases h2 : rising b = true
    · rw [if_pos h2]
      have := ref_Union_from a b ha hb b.length 0 ([] ++ a) (by omega) (by simp)
      rw [List.drop_zero, List.nil_append, puts_eq _ _ ((rising_iff.1 h1).imp le_of_lt)] at this
      exact Ev.neg (by simp [h2]) (Ev.pos (by simp; omega) this)
    · rw [if_neg h2]
      exact Ev.pos (by simpa using h2) (Ev.pure _)
  · refine Ev.neg h1 (Ev.succ ?_)
    simp only [rampartref04_Union.j0]
    rw [if_neg (by simp [h1])]
    exact Ev.pos (by first | trivial | rfl | decide) (Ev.pure _)
theorem ref_Names_from (l : List S41) (hl : l.length ≤ 100000) : ∀ (d i : Nat) (out : List ByteArray), l.length = i + d → out.length = i → Ev (fun k => rampartref04_Names.l0 k l out (i : Int)) (out ++ (l.drop i).map (·.f0)) := by
  intro d
  induction d with
  | zero =>
    intro i out h ho
    refine Ev.succ ?_
    simp only [rampartref04_Names.l0]
    rw [List.drop_eq_nil_of_le (by omega)]
    exact Ev.neg (by omega) (by simpa using Ev.pure out)
  | succ d ih =>
    intro i out h ho
    refine Ev.succ ?_
    simp only [rampartref04_Names.l0]
    rw [w_up (by omega), rd41 (by omega), List.drop_eq_getElem_cons (by omega)]
    have := ih (i + 1) (out ++ [(l[i]'(by omega)).f0]) (by omega) (by simp; omega)
    rw [List.append_assoc, List.singleton_append] at this
    exact Ev.pos (by omega) (Ev.pos (by omega) (Ev.pos (by omega) this))
theorem ref_Names_ev (l : List S41) (hl : l.length ≤ 100000) : Ev (fun k => rampartref04_Names.f k l) (l.map (·.f0)) := by
  have := ref_Names_from l hl l.length 0 [] (by omega) rfl
  rwa [List.drop_zero, List.nil_append] at this

theorem ref_ValidPairs_from (l : List S41) (hl : l.length ≤ 100000) : ∀ (d i : Nat), l.length = i + d → (∀ j (h : j < l.length), j < i → l[j].f1.size ≤ 65535) → Ev (fun k => rampartref04_ValidPairs.l0 k l (i : Int)) (vpairs l) := by
  intro d
  induction d with
  | zero =>
    intro i h hs
    refine Ev.succ ?_
    simp only [rampartref04_ValidPairs.l0]
    refine Ev.neg (by omega) (Ev.bind (ref_Names_ev l hl) (Ev.bind (ref_Valid_ev _) ?_))
    have hb : (l.map pr41).any big = false := by
      rw [List.any_eq_false]
      intro p hp
      obtain ⟨x, hx, rfl⟩ := List.mem_map.1 hp
      obtain ⟨j, hj, rfl⟩ := List.getElem_of_mem hx
      have h6 := hs j hj (by omega)
      intro hb
      have hb : 65535 < l[j].f1.size := of_decide_eq_true hb
      omega
    rw [show vpairs l = valid (l.map (·.f0)) from by unfold vpairs; rw [hb]; simp]
    exact Ev.pure _
  | succ d ih =>
    intro i h hs
    refine Ev.succ ?_
    simp only [rampartref04_ValidPairs.l0]
    rw [w_up (by omega), rd41 (by omega)]
    refine Ev.pos (by omega) (Ev.pos (by omega) ?_)
    by_cases hz : ((l[i]'(by omega)).f1.size : Int) > 65535
    · refine Ev.pos hz ?_
      have hb : (l.map pr41).any big = true := by
        rw [List.any_eq_true]
        exact ⟨pr41 (l[i]'(by omega)), List.mem_map.2 ⟨_, List.getElem_mem _, rfl⟩, decide_eq_true (show 65535 < (l[i]'(by omega)).f1.size by omega)⟩
      rw [show vpairs l = false from by unfold vpairs; rw [hb]; simp]
      exact Ev.pure _
    · refine Ev.neg hz (ih (i + 1) (by omega) fun j hj hji => ?_)
      rcases Nat.lt_or_ge j i with h3 | h3
      · exact hs j hj h3
      · obtain rfl : j = i := by omega
        omega
theorem ref_ValidPairs_ev (l : List S41) (hl : l.length ≤ 100000) : Ev (fun k => rampartref04_ValidPairs.f k l) (vpairs l) :=
  ref_ValidPairs_from l hl l.length 0 (by omega) (fun j hj h => by omega)

def insAt (out : List S41) (x : S41) (i : Nat) : List S41 := out.take i ++ x :: out.drop i
def ins (out : List S41) (x : S41) : List S41 := insAt out x (cut (out.map (·.f0)) x.f0 out.length)
theorem ins_length (out : List S41) (x : S41) : (ins out x).length = out.length + 1 := by
  have := cut_le (out.map (·.f0)) x.f0 out.length
  simp [ins, insAt]
  omega
theorem ins_perm (l : List S41) (x : S41) : (ins l x).Perm (x :: l) := by
  unfold ins insAt
  refine List.perm_middle.trans ?_
  rw [List.take_append_drop]
theorem ins_keys (l : List S41) (x : S41) : (ins l x).map (·.f0) = put (l.map (·.f0)) x.f0 := by
  simp [ins, insAt, put, List.map_take, List.map_drop]
theorem inss_perm : ∀ (l out : List S41), (l.foldl ins out).Perm (out ++ l)
  | [], out => by simp
  | x :: l, out => by
    refine (inss_perm l (ins out x)).trans ?_
    refine ((ins_perm out x).append_right l).trans ?_
    simpa using List.perm_middle.symm
theorem inss_sorted : ∀ (l out : List S41), ((out.map (·.f0)).Pairwise fun a b => txt a ≤ txt b) → ((l.foldl ins out).map (·.f0)).Pairwise fun a b => txt a ≤ txt b
  | [], _, h => h
  | x :: l, out, h => inss_sorted l (ins out x) (by rw [ins_keys]; exact put_sorted _ _ h)
theorem inss_norm (l : List S41) (hn : (l.map (·.f0)).Nodup) : l.foldl ins [] = norm41 l := by
  have hp : ((l.foldl ins []).map pr41).Perm (l.map pr41) := by
    have := (inss_perm l []).map pr41
    simpa using this
  have hs := inss_sorted l [] List.Pairwise.nil
  have hs' : ((l.foldl ins []).map pr41).Pairwise fun a b => txt a.1 ≤ txt b.1 := by
    rw [List.pairwise_map] at hs ⊢
    exact hs
  have hn' : ((l.map pr41).map (·.1)).Nodup := by
    rw [List.map_map]
    exact hn
  have := sortedPairs_unique hn' hp hs'
  unfold norm41
  rw [← this, List.map_map]
  conv => lhs; rw [← List.map_id (l.foldl ins [])]
  rfl
theorem norm_l1 (l out : List S41) (j : Nat) (hl : l.length ≤ 100000) (ho : out.length ≤ 100000) (hj : j < l.length) (v : List S41 × Int) : ∀ i, i ≤ out.length →
    Ev (fun k => rampartref04_Norm.l0 k l (insAt out l[j] (cut (out.map (·.f0)) l[j].f0 i)) ((j + 1 : Nat) : Int)) v →
    Ev (fun k => rampartref04_Norm.l1 k l out (j : Int) (i : Int)) v := by
  intro i
  induction i with
  | zero =>
    intro _ h
    refine Ev.succ ?_
    simp only [rampartref04_Norm.l1, Option.bind_some, List.nil_append, List.append_assoc, List.singleton_append]
    rw [w_up (by omega), rd41 hj]
    exact Ev.neg (by omega) (Ev.pos (by omega) (Ev.pos (by omega) (Ev.pos (by simp) (Ev.pos (by omega) (Ev.pos (by omega) (Ev.pos (by simp) (Ev.pos (by simp; omega) h)))))))
  | succ i ih =>
    intro hi h
    refine Ev.succ ?_
    simp only [rampartref04_Norm.l1, Option.bind_some, List.nil_append, List.append_assoc, List.singleton_append]
    rw [w_up (by omega), w_dn (by omega), rd41 hj, rd41 (l := out) (i := i) (by omega), Int.toNat_natCast]
    have hg : (out.map (·.f0))[i]?.getD ByteArray.empty = (out[i]'(by omega)).f0 := by
      rw [List.getElem?_map, List.getElem?_eq_getElem (by omega)]
      rfl
    refine Ev.pos (by omega) (Ev.pos (by omega) (Ev.pos (by omega) (Ev.pos (by omega) (Ev.pos (by omega) ?_))))
    by_cases hc : Op.bytesLess (l[j].f0).toList ((out[i]'(by omega)).f0).toList = true
    · refine Ev.pos hc (ih (by omega) ?_)
      rw [show cut (out.map (·.f0)) l[j].f0 (i + 1) = cut (out.map (·.f0)) l[j].f0 i from by simp only [cut]; rw [hg, if_pos hc]] at h
      exact h
    · rw [show cut (out.map (·.f0)) l[j].f0 (i + 1) = i + 1 from by simp only [cut]; rw [hg, if_neg hc]] at h
      exact Ev.neg hc (Ev.pos (by omega) (Ev.pos (by omega) (Ev.pos (by simp; omega) (Ev.pos (by simp; omega) (Ev.pos (by simp; omega) h)))))
theorem norm_l0 (l : List S41) (hl : l.length ≤ 50000) : ∀ (d i : Nat) (out : List S41), l.length = i + d → out.length = i → Ev (fun k => rampartref04_Norm.l0 k l out (i : Int)) ((l.drop i).foldl ins out, 0) := by
  intro d
  induction d with
  | zero =>
    intro i out h ho
    refine Ev.succ ?_
    simp only [rampartref04_Norm.l0]
    rw [List.drop_eq_nil_of_le (by omega)]
    exact Ev.neg (by omega) (Ev.pure (out, (0 : Int)))
  | succ d ih =>
    intro i out h ho
    refine Ev.succ ?_
    simp only [rampartref04_Norm.l0]
    rw [List.drop_eq_getElem_cons (by omega)]
    exact Ev.pos (by omega) (norm_l1 l out i (by omega) (by omega) (by omega) _ out.length (Nat.le_refl _) (ih (i + 1) (ins out l[i]) (by omega) (by rw [ins_length]; omega)))
theorem ref_Norm_ev (l : List S41) (hl : l.length ≤ 50000) : Ev (fun k => rampartref04_Norm.f k l) (normOf l) := by
  simp only [rampartref04_Norm.f]
  refine Ev.bind (ref_ValidPairs_ev l (by omega)) ?_
  unfold normOf
  by_cases h : vpairs l = true
  · rw [if_pos h]
    have hn : (l.map (·.f0)).Nodup := by
      unfold vpairs at h
      rw [Bool.and_eq_true] at h
      exact valid_nodup h.1
    have := norm_l0 l hl l.length 0 [] (by omega) rfl
    rw [List.drop_zero, inss_norm l hn] at this
    exact Ev.pos h this
  · rw [if_neg h]
    exact Ev.neg h (Ev.pure _)

end Go.Proofs.Ytjahalkgjnnapaa.G
