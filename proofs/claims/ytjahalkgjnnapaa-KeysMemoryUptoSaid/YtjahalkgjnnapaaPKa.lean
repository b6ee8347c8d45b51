/- The plain law of the keys: what the printed functions of package keys answer, fuel aside; the chapter's examples. -/
import Derived.Test.YtjahalkgjnnapaaKb
namespace Go.Proofs.Ytjahalkgjnnapaa.G
open Go.RowKit Go.Proofs.YtjahalkgjnnapaaW.PrintWords Hand

instance decBA : DecidableEq ByteArray := fun a b => decidable_of_iff (a.data = b.data) ⟨fun h => by cases a; cases b; cases h; rfl, fun h => by rw [h]⟩
def memBA (x : ByteArray) : (l : List ByteArray) → Decidable (x ∈ l)
  | [] => isFalse (by simp)
  | y :: l => if h : x = y then isTrue (by rw [h]; exact List.mem_cons_self) else match memBA x l with
    | isTrue h2 => isTrue (List.mem_cons_of_mem _ h2)
    | isFalse h2 => isFalse (fun h3 => (List.mem_cons.1 h3).elim h h2)
instance memBA' (x : ByteArray) (l : List ByteArray) : Decidable (x ∈ l) := memBA x l
def Ev {α : Type} (f : Nat → Option α) (v : α) : Prop := ∃ K, ∀ k, K ≤ k → f k = some v
section
variable {α β : Type}
theorem Ev.pure (v : α) : Ev (fun _ => some v) v := ⟨0, fun _ _ => rfl⟩
theorem Ev.bind {f : Nat → Option α} {g : Nat → α → Option β} {a : α} {b : β} (h : Ev f a) (h2 : Ev (fun k => g k a) b) : Ev (fun k => (f k).bind (g k)) b := by
  obtain ⟨K, h⟩ := h
  obtain ⟨L, h2⟩ := h2
  exact ⟨max K L, fun k hk => by show (f k).bind (g k) = some b; rw [h k (by omega)]; exact h2 k (by omega)⟩
theorem Ev.succ {f : Nat → Option α} {v : α} (h : Ev (fun k => f (k + 1)) v) : Ev f v := by
  obtain ⟨K, h⟩ := h
  exact ⟨K + 1, fun k hk => by obtain ⟨m, rfl⟩ : ∃ m, k = m + 1 := ⟨k - 1, by omega⟩; exact h m (by omega)⟩
theorem Ev.pos {c : Prop} [Decidable c] {a b : Nat → Option α} {v : α} (hc : c) (h : Ev a v) : Ev (fun k => if c then a k else b k) v := by
  obtain ⟨K, h⟩ := h
  exact ⟨K, fun k hk => by show (if c then a k else b k) = some v; rw [if_pos hc]; exact h k hk⟩
theorem Ev.neg {c : Prop} [Decidable c] {a b : Nat → Option α} {v : α} (hc : ¬ c) (h : Ev b v) : Ev (fun k => if c then a k else b k) v := by
  obtain ⟨K, h⟩ := h
  exact ⟨K, fun k hk => by show (if c then a k else b k) = some v; rw [if_neg hc]; exact h k hk⟩
theorem Ev.get {f : Nat → Option α} {v : α} (h : Ev f v) : ∃ k, f k = some v := by
  obtain ⟨K, h⟩ := h
  exact ⟨K, h K (Nat.le_refl _)⟩
end
theorem w_up {i : Nat} (h : i ≤ 4611686018427387904) : wrap64 ((i : Int) + 1) = ((i + 1 : Nat) : Int) := by unfold wrap64; omega
theorem w_dn {i : Nat} (h : i ≤ 4611686018427387904) : wrap64 (((i + 1 : Nat) : Int) - 1) = (i : Int) := by unfold wrap64; omega
theorem rd_nat {l : List ByteArray} {i : Nat} (h : i < l.length) : rdOf ByteArray.empty l (i : Int) = l[i] := by simp [rdOf, h]
theorem toList_inj {a b : ByteArray} : a.toList = b.toList ↔ a = b := by
  constructor
  · intro h
    rw [ByteArray.toList_eq, ByteArray.toList_eq] at h
    exact txt_inj h
  · rintro rfl; rfl

theorem keys_Rising_ev (l : List ByteArray) (hl : l.length ≤ 4611686018427387904) : Ev (fun k => keys_Rising.f k l) (rising l) :=
  ⟨l.length + 1, fun k hk => rising_val l hl k (by omega)⟩
theorem less_txt (a b : ByteArray) : Op.bytesLess a.toList b.toList = true ↔ txt a < txt b := lt_iff a b
theorem keys_Valid_ev (l : List ByteArray) : Ev (fun k => keys_Valid.f k l) (valid l) := Ev.pure _
def sortOf (l : List ByteArray) : List ByteArray × Int := if valid l = true then (sorted l, 0) else ([], 40)
theorem keys_Sorted_ev (l : List ByteArray) : Ev (fun k => keys_Sorted.f k l) (sortOf l) := Ev.pure _
theorem same_from (l : List ByteArray) (hl : l.length ≤ 4611686018427387904) : ∀ (d i : Nat), l.length = i + d → Ev (fun k => rampartlaw04_same.l0 k l l (i : Int)) true := by
  intro d
  induction d with
  | zero =>
    intro i h
    refine Ev.succ ?_
    simp only [rampartlaw04_same.l0]
    exact Ev.neg (by omega) (Ev.pure _)
  | succ d ih =>
    intro i h
    refine Ev.succ ?_
    simp only [rampartlaw04_same.l0]
    rw [w_up (by omega)]
    exact Ev.pos (by omega) (Ev.pos (by omega) (Ev.pos (by omega) (Ev.pos (by first | trivial | rfl | decide) (ih (i + 1) (by omega)))))
theorem same_ev (l : List ByteArray) (hl : l.length ≤ 4611686018427387904) : Ev (fun k => rampartlaw04_same.f k l l) true := by
  simp only [rampartlaw04_same.f]
  exact Ev.pos (by first | trivial | rfl | decide) (same_from l hl l.length 0 (by omega))
theorem own_some (l : List ByteArray) (hl : l.length ≤ 100000) : rampartlaw04_own.f l = some l := by
  unfold rampartlaw04_own.f
  simp only [Option.bind_some, List.nil_append]
  rw [if_pos (by simp; omega)]
theorem own_ev (l : List ByteArray) (hl : l.length ≤ 100000) : Ev (fun _ => rampartlaw04_own.f l) l := ⟨0, fun _ _ => own_some l hl⟩

theorem less_ev (a b : ByteArray) : cmp_Less_string.f a b = some (Op.bytesLess a.toList b.toList) := by simp [cmp_Less_string.f, cmp_isNaN_string.f]
theorem search_from (l : List ByteArray) (x : ByteArray) (hl : l.length ≤ 100000) (hr : l.Pairwise fun a b => txt a < txt b) : ∀ (d i j : Nat), j ≤ i + d → i ≤ j → j ≤ l.length →
    (∀ t (h : t < l.length), t < i → txt l[t] < txt x) → (∀ t (h : t < l.length), j ≤ t → ¬ txt l[t] < txt x) →
    ∃ p, Ev (fun k => slices_BinarySearch_string_string.l0 k l x (l.length : Int) (i : Int) (j : Int)) (p, decide (x ∈ l)) := by
  intro d
  induction d with
  | zero =>
    intro i j h1 h2 h3 hlo hhi
    obtain rfl : i = j := by omega
    refine ⟨i, Ev.succ ?_⟩
    simp only [slices_BinarySearch_string_string.l0]
    refine Ev.neg (by omega) ?_
    rcases Nat.lt_or_ge i l.length with h | h
    · refine Ev.pos (by omega) (Ev.pos (by omega) (Ev.pos (by omega) ?_))
      rw [rd_nat h]
      by_cases he : l[i].toList = x.toList
      · refine Ev.pos he ?_
        rw [decide_eq_true (by rw [← toList_inj.1 he]; exact List.getElem_mem h)]
        exact Ev.pure _
      · refine Ev.neg he ?_
        have hnot : ¬ x ∈ l := by
          intro hm
          obtain ⟨t, ht, rfl⟩ := List.getElem_of_mem hm
          rcases Nat.lt_trichotomy t i with h4 | rfl | h4
          · exact List.lt_irrefl _ (hlo t ht h4)
          · exact he rfl
          · exact hhi i h (Nat.le_refl _) ((List.pairwise_iff_getElem.1 hr) i t h ht h4)
        rw [decide_eq_false hnot]
        exact ⟨0, fun k _ => by simp [slices_isNaN_string.f]⟩
    · refine Ev.neg (by omega) ?_
      have hnot : ¬ x ∈ l := by
        intro hm
        obtain ⟨t, ht, rfl⟩ := List.getElem_of_mem hm
        exact List.lt_irrefl _ (hlo t ht (by omega))
      rw [decide_eq_false hnot]
      exact Ev.pure _
  | succ d ih =>
    intro i j h1 h2 h3 hlo hhi
    rcases Nat.lt_or_ge i j with h | h
    · have wm : wrap64 ((IntKind.u64.wrap (wrap64 ((i : Int) + (j : Int)))) / 2) = (((i + j) / 2 : Nat) : Int) := by
        rw [show wrap64 ((i : Int) + (j : Int)) = ((i + j : Nat) : Int) from by unfold wrap64; omega]
        rw [show IntKind.u64.wrap (((i + j : Nat) : Int)) = ((i + j : Nat) : Int) from by simp [IntKind.wrap, IntKind.bits, IntKind.signed]; omega]
        unfold wrap64
        omega
      have hm1 : i ≤ (i + j) / 2 := by omega
      have hm2 : (i + j) / 2 < j := by omega
      by_cases hlt : Op.bytesLess (l[(i + j) / 2]'(by omega)).toList x.toList = true
      · obtain ⟨p, hp⟩ := ih ((i + j) / 2 + 1) j (by omega) (by omega) h3 (fun t ht hti => by
          rcases Nat.lt_or_ge t ((i + j) / 2) with h5 | h5
          · exact List.lt_trans ((List.pairwise_iff_getElem.1 hr) t ((i + j) / 2) ht (by omega) h5) ((less_txt _ _).1 hlt)
          · obtain rfl : t = (i + j) / 2 := by omega
            exact (less_txt _ _).1 hlt) hhi
        refine ⟨p, Ev.succ ?_⟩
        simp only [slices_BinarySearch_string_string.l0]
        rw [wm, rd_nat (by omega), w_up (by omega)]
        refine Ev.pos (by omega) (Ev.pos (by omega) (Ev.pos (by omega) ?_))
        simp only [less_ev, Option.bind_some]
        exact Ev.pos hlt hp
      · obtain ⟨p, hp⟩ := ih i ((i + j) / 2) (by omega) (by omega) (by omega) hlo (fun t ht hti hc => by
          rcases Nat.lt_or_ge ((i + j) / 2) t with h5 | h5
          · exact hlt ((less_txt _ _).2 (List.lt_trans ((List.pairwise_iff_getElem.1 hr) ((i + j) / 2) t (by omega) ht h5) hc))
          · obtain rfl : t = (i + j) / 2 := by omega
            exact hlt ((less_txt _ _).2 hc))
        refine ⟨p, Ev.succ ?_⟩
        simp only [slices_BinarySearch_string_string.l0]
        rw [wm, rd_nat (by omega), w_up (by omega)]
        refine Ev.pos (by omega) (Ev.pos (by omega) (Ev.pos (by omega) ?_))
        simp only [less_ev, Option.bind_some]
        exact Ev.neg hlt hp
    · exact ih i j (by omega) h2 h3 hlo hhi
theorem has_ev (l : List ByteArray) (x : ByteArray) (hl : l.length ≤ 100000) (hr : rising l = true) : Ev (fun k => keys_has.f k l x) (decide (x ∈ l)) := by
  obtain ⟨p, hp⟩ := search_from l x hl (rising_iff.1 hr) l.length 0 l.length (by omega) (by omega) (by omega) (fun t _ h => by omega) (fun t h1 h2 => by omega)
  simp only [keys_has.f]
  exact Ev.bind (a := (p, decide (x ∈ l))) hp (Ev.pure _)
def hasOf (l : List ByteArray) (x : ByteArray) : Bool := rising l && decide (x ∈ l)
theorem keys_Has_ev (l : List ByteArray) (x : ByteArray) (hl : l.length ≤ 100000) : Ev (fun k => keys_Has.f k l x) (hasOf l x) := by
  simp only [keys_Has.f]
  refine Ev.bind (keys_Rising_ev l (by omega)) ?_
  unfold hasOf
  by_cases h : rising l = true
  · rw [h, Bool.true_and]
    exact Ev.pos (by first | trivial | rfl | decide) (Ev.bind (has_ev l x hl h) (Ev.pure _))
  · rw [show rising l = false from by simpa using h, Bool.false_and]
    exact Ev.neg (by simp) (Ev.pure _)
def someOf (a b : List ByteArray) (f : Bool) : List ByteArray × Int := if (rising a && rising b) = true then (a.filter fun x => decide (x ∈ b) == f, 0) else ([], 40)
theorem keys_some_from (a b : List ByteArray) (f : Bool) (ha : a.length ≤ 50000) (hb : b.length ≤ 50000) (hr : rising b = true) : ∀ (d i : Nat) (out : List ByteArray), a.length = i + d → out.length ≤ i →
    Ev (fun k => keys_some.l0 k b f out a (a.length : Int) (i : Int)) (out ++ (a.drop i).filter (fun x => decide (x ∈ b) == f), 0) := by
  intro d
  induction d with
  | zero =>
    intro i out h ho
    refine Ev.succ ?_
    simp only [keys_some.l0]
    rw [List.drop_eq_nil_of_le (by omega)]
    exact Ev.neg (by omega) (by simpa using Ev.pure (out, (0 : Int)))
  | succ d ih =>
    intro i out h ho
    refine Ev.succ ?_
    simp only [keys_some.l0]
    rw [w_up (by omega), rd_nat (by omega), List.drop_eq_getElem_cons (by omega)]
    refine Ev.pos (by omega) (Ev.pos (by omega) (Ev.pos (by omega) (Ev.bind (has_ev b _ (by omega) hr) ?_)))
    by_cases hc : (decide ((a[i]'(by omega)) ∈ b) == f) = true
    · have := ih (i + 1) (out ++ [a[i]'(by omega)]) (by omega) (by simp; omega)
      rw [List.append_assoc, List.singleton_append] at this
      rw [List.filter_cons_of_pos (p := fun x => decide (x ∈ b) == f) hc]
      exact Ev.pos hc (Ev.pos (by omega) this)
    · rw [List.filter_cons_of_neg (p := fun x => decide (x ∈ b) == f) hc]
      exact Ev.neg hc (ih (i + 1) out (by omega) (by omega))
theorem keys_some_ev (a b : List ByteArray) (f : Bool) (ha : a.length ≤ 50000) (hb : b.length ≤ 50000) : Ev (fun k => keys_some.f k a b f) (someOf a b f) := by
  simp only [keys_some.f]
  refine Ev.bind (keys_Rising_ev a (by omega)) ?_
  unfold someOf
  by_cases h1 : rising a = true
  · refine Ev.pos h1 (Ev.bind (keys_Rising_ev b (by omega)) (Ev.succ ?_))
    simp only [keys_some.j0]
    rw [h1, Bool.true_and]
    by_cases h2 : rising b = true
    · rw [if_pos h2]
      have := keys_some_from a b f ha hb h2 a.length 0 [] (by omega) (by simp)
      rw [List.nil_append, List.drop_zero] at this
      exact Ev.neg (by simp [h2]) this
    · rw [if_neg h2]
      exact Ev.pos (by simpa using h2) (Ev.pure _)
  · refine Ev.neg h1 (Ev.succ ?_)
    simp only [keys_some.j0]
    rw [if_neg (by simp [h1])]
    exact Ev.pos (by first | trivial | rfl | decide) (Ev.pure _)
theorem keys_Common_ev (a b : List ByteArray) (ha : a.length ≤ 50000) (hb : b.length ≤ 50000) : Ev (fun k => keys_Common.f k a b) (someOf a b true) := by
  simp only [keys_Common.f]
  exact Ev.bind (keys_some_ev a b true ha hb) (Ev.pure _)
theorem keys_Minus_ev (a b : List ByteArray) (ha : a.length ≤ 50000) (hb : b.length ≤ 50000) : Ev (fun k => keys_Minus.f k a b) (someOf a b false) := by
  simp only [keys_Minus.f]
  exact Ev.bind (keys_some_ev a b false ha hb) (Ev.pure _)
def fresh (a b : List ByteArray) : List ByteArray := b.filter fun x => decide (x ∈ a) == false
def unionOf (a b : List ByteArray) : List ByteArray × Int := if (rising a && rising b) = true then (sorted (a ++ fresh a b), 0) else ([], 40)
theorem fresh_length (a b : List ByteArray) : (fresh a b).length ≤ b.length := List.length_filter_le _ _
theorem keys_Union_ev (a b : List ByteArray) (ha : a.length ≤ 50000) (hb : b.length ≤ 50000) : Ev (fun k => keys_Union.f k a b) (unionOf a b) := by
  simp only [keys_Union.f]
  refine Ev.bind (keys_Minus_ev b a hb ha) ?_
  unfold someOf unionOf
  have hf := fresh_length a b
  by_cases h : (rising b && rising a) = true
  · have h' : (rising a && rising b) = true := by rw [Bool.and_comm]; exact h
    rw [if_pos h, if_pos h']
    refine Ev.pos (by first | trivial | rfl | decide) (Ev.pos ?_ (Ev.pure _))
    show a.length + (fresh a b).length ≤ 1048576
    omega
  · have h' : ¬ (rising a && rising b) = true := by rw [Bool.and_comm]; exact h
    rw [if_neg h, if_neg h']
    exact Ev.neg (by show ¬ (40 : Int) = 0; decide) (Ev.pure _)

theorem rd41 {l : List S41} {i : Nat} (h : i < l.length) : rd_T41 l (i : Int) = l[i] := by simp [rd_T41, h]
theorem keys_Names_from (l : List S41) (hl : l.length ≤ 100000) : ∀ (d i : Nat) (out : List ByteArray), l.length = i + d → out.length = i → Ev (fun k => keys_Names.l0 k out l (l.length : Int) (i : Int)) (out ++ (l.drop i).map (·.f0)) := by
  intro d
  induction d with
  | zero =>
    intro i out h ho
    refine Ev.succ ?_
    simp only [keys_Names.l0]
    rw [List.drop_eq_nil_of_le (by omega)]
    exact Ev.neg (by omega) (by simpa using Ev.pure out)
  | succ d ih =>
    intro i out h ho
    refine Ev.succ ?_
    simp only [keys_Names.l0]
    rw [w_up (by omega), rd41 (by omega), List.drop_eq_getElem_cons (by omega)]
    have := ih (i + 1) (out ++ [(l[i]'(by omega)).f0]) (by omega) (by simp; omega)
    rw [List.append_assoc, List.singleton_append] at this
    exact Ev.pos (by omega) (Ev.pos (by omega) (Ev.pos (by omega) (Ev.pos (by omega) this)))
theorem keys_Names_ev (l : List S41) (hl : l.length ≤ 100000) : Ev (fun k => keys_Names.f k l) (l.map (·.f0)) := by
  have := keys_Names_from l hl l.length 0 [] (by omega) rfl
  rwa [List.drop_zero, List.nil_append] at this
def vpairs (l : List S41) : Bool := valid (l.map (·.f0)) && !(l.map pr41).any big
theorem keys_ValidPairs_ev (l : List S41) (hl : l.length ≤ 100000) : Ev (fun k => keys_ValidPairs.f k l) (vpairs l) := by
  simp only [keys_ValidPairs.f]
  exact Ev.bind (keys_Names_ev l hl) (Ev.pure _)
def normOf (l : List S41) : List S41 × Int := if vpairs l = true then (norm41 l, 0) else ([], 40)
theorem keys_Norm_ev (l : List S41) (hl : l.length ≤ 100000) : Ev (fun k => keys_Norm.f k l) (normOf l) := by
  simp only [keys_Norm.f]
  exact Ev.bind (keys_ValidPairs_ev l hl) (Ev.pure _)
theorem samePairs_from (l : List S41) (hl : l.length ≤ 4611686018427387904) : ∀ (d i : Nat), l.length = i + d → Ev (fun k => rampartlaw04_samePairs.l0 k l l (i : Int)) true := by
  intro d
  induction d with
  | zero =>
    intro i h
    refine Ev.succ ?_
    simp only [rampartlaw04_samePairs.l0]
    exact Ev.neg (by omega) (Ev.pure _)
  | succ d ih =>
    intro i h
    refine Ev.succ ?_
    simp only [rampartlaw04_samePairs.l0]
    rw [w_up (by omega)]
    exact Ev.pos (by omega) (Ev.pos (by omega) (Ev.pos (by omega) (Ev.neg (by simp) (ih (i + 1) (by omega)))))
theorem samePairs_ev (l : List S41) (hl : l.length ≤ 4611686018427387904) : Ev (fun k => rampartlaw04_samePairs.f k l l) true := by
  simp only [rampartlaw04_samePairs.f]
  exact Ev.pos (by first | trivial | rfl) (samePairs_from l hl l.length 0 (by omega))
def sA : ByteArray := ⟨#[97]⟩
def sB : ByteArray := ⟨#[98]⟩
def sC : ByteArray := ⟨#[99]⟩
def s0 : ByteArray := ⟨#[]⟩
def s1 : ByteArray := ⟨#[49]⟩
def s2 : ByteArray := ⟨#[50]⟩
theorem ex_sorted : sorted [sB, s0, sA] = [s0, sA, sB] :=
  (sorted_unique (List.perm_append_comm (l₁ := [s0, sA]) (l₂ := [sB])) (by decide)).symm
theorem ex_sortOf : sortOf [sB, s0, sA] = ([s0, sA, sB], 0) := by
  have : valid [sB, s0, sA] = true := valid_iff.2 ⟨by decide, by decide, by decide, by decide⟩
  unfold sortOf
  rw [if_pos this, ex_sorted]
theorem ex_twice : sortOf [sA, sA] = ([], 40) := by
  have : ¬ valid [sA, sA] = true := fun h => absurd (valid_iff.1 h).2.2.2 (by decide)
  unfold sortOf
  rw [if_neg this]
theorem ex_vpairs : vpairs [⟨sB, s1⟩, ⟨sA, s2⟩] = true := by
  have : valid [sB, sA] = true := valid_iff.2 ⟨by decide, by decide, by decide, by decide⟩
  unfold vpairs
  show (valid [sB, sA] && _) = true
  rw [this]
  decide
theorem ex_norm : normOf [⟨sB, s1⟩, ⟨sA, s2⟩] = ([⟨sA, s2⟩, ⟨sB, s1⟩], 0) := by
  have : sortedPairs [(sB, s1), (sA, s2)] = [(sA, s2), (sB, s1)] := (sortedPairs_unique (by decide) (List.perm_append_comm (l₁ := [(sA, s2)]) (l₂ := [(sB, s1)])) (by decide)).symm
  unfold normOf
  rw [if_pos ex_vpairs]
  show (((sortedPairs [(sB, s1), (sA, s2)]).map un41 : List S41), (0 : Int)) = _
  rw [this]
  rfl
theorem rAC : rising [sA, sC] = true := rising_iff.2 (by decide)
theorem rBC : rising [sB, sC] = true := rising_iff.2 (by decide)
theorem ex_union : unionOf [sA, sC] [sB, sC] = ([sA, sB, sC], 0) := by
  unfold unionOf
  rw [if_pos (by rw [rAC, rBC]; rfl), show fresh [sA, sC] [sB, sC] = [sB] from by decide]
  rw [show sorted ([sA, sC] ++ [sB]) = [sA, sB, sC] from (sorted_unique (List.Perm.cons sA (List.perm_append_comm (l₁ := [sB]) (l₂ := [sC]))) (by decide)).symm]
theorem ex_common : someOf [sA, sC] [sB, sC] true = ([sC], 0) := by
  unfold someOf
  rw [if_pos (by rw [rAC, rBC]; rfl), show ([sA, sC].filter fun x => decide (x ∈ [sB, sC]) == true) = [sC] from by decide]
theorem ex_minus : someOf [sA, sC] [sB, sC] false = ([sA], 0) := by
  unfold someOf
  rw [if_pos (by rw [rAC, rBC]; rfl), show ([sA, sC].filter fun x => decide (x ∈ [sB, sC]) == false) = [sA] from by decide]
theorem ex_valid : valid [s0, sA, sB] = true := valid_iff.2 ⟨by decide, by decide, by decide, by decide⟩
theorem ex_vpairs2 : vpairs [⟨sA, s2⟩, ⟨sB, s1⟩] = true := by
  have : valid [sA, sB] = true := valid_iff.2 ⟨by decide, by decide, by decide, by decide⟩
  unfold vpairs
  show (valid [sA, sB] && _) = true
  rw [this]
  decide
theorem ex_rising : rising [s0, sA, sB] = true := rising_iff.2 (by decide)
theorem ex_hasB : hasOf [s0, sA, sB] sB = true := by
  unfold hasOf
  rw [ex_rising]
  decide
theorem ex_hasC : hasOf [s0, sA, sB] sC = false := by
  unfold hasOf
  rw [ex_rising]
  decide
theorem alive_ev : Ev (fun k => rampartlaw04_alive.f k) true := by
  simp only [rampartlaw04_alive.f]
  refine Ev.bind (a := ([s0, sA, sB], 0)) (ex_sortOf ▸ keys_Sorted_ev [sB, s0, sA]) ?_
  refine Ev.bind (a := ([⟨sA, s2⟩, ⟨sB, s1⟩], 0)) (ex_norm ▸ keys_Norm_ev [⟨sB, s1⟩, ⟨sA, s2⟩] (by decide)) ?_
  refine Ev.bind (a := ([sA, sB, sC], 0)) (ex_union ▸ keys_Union_ev [sA, sC] [sB, sC] (by decide) (by decide)) ?_
  refine Ev.bind (a := ([sC], 0)) (ex_common ▸ keys_Common_ev [sA, sC] [sB, sC] (by decide) (by decide)) ?_
  refine Ev.bind (a := ([sA], 0)) (ex_minus ▸ keys_Minus_ev [sA, sC] [sB, sC] (by decide) (by decide)) ?_
  refine Ev.bind (a := ([], 40)) (ex_twice ▸ keys_Sorted_ev [sA, sA]) ?_
  refine Ev.pos rfl (Ev.pos rfl (Ev.pos rfl (Ev.pos rfl (Ev.pos rfl (Ev.pos rfl ?_)))))
  refine Ev.bind (same_ev [s0, sA, sB] (by decide)) (Ev.pos (by first | trivial | rfl) ?_)
  refine Ev.bind (same_ev [sA, sB, sC] (by decide)) (Ev.pos (by first | trivial | rfl) ?_)
  refine Ev.bind (same_ev [sC] (by decide)) (Ev.pos (by first | trivial | rfl) ?_)
  refine Ev.bind (same_ev [sA] (by decide)) (Ev.succ ?_)
  simp only [rampartlaw04_alive.j0]
  refine Ev.neg (by decide) ?_
  refine Ev.bind (samePairs_ev [⟨sA, s2⟩, ⟨sB, s1⟩] (by decide)) (Ev.pos (by first | trivial | rfl) ?_)
  refine Ev.bind (keys_Names_ev [⟨sA, s2⟩, ⟨sB, s1⟩] (by decide)) ?_
  refine Ev.bind (same_ev [sA, sB] (by decide)) (Ev.pos (by first | trivial | rfl) ?_)
  refine Ev.bind (a := true) (ex_valid ▸ keys_Valid_ev [s0, sA, sB]) (Ev.pos (by first | trivial | rfl) ?_)
  refine Ev.bind (a := true) (ex_vpairs2 ▸ keys_ValidPairs_ev [⟨sA, s2⟩, ⟨sB, s1⟩] (by decide)) (Ev.pos (by first | trivial | rfl) ?_)
  refine Ev.bind (a := true) (ex_rising ▸ keys_Rising_ev [s0, sA, sB] (by decide)) (Ev.pos (by first | trivial | rfl) ?_)
  refine Ev.bind (a := true) (ex_hasB ▸ keys_Has_ev [s0, sA, sB] sB (by decide)) (Ev.pos (by first | trivial | rfl) ?_)
  refine Ev.bind (a := false) (ex_hasC ▸ keys_Has_ev [s0, sA, sB] sC (by decide)) ?_
  exact Ev.pure true

theorem sortOf_length (l : List ByteArray) : (sortOf l).1.length ≤ l.length := by
  unfold sortOf
  split
  · rw [sorted_length]; exact Nat.le_refl _
  · exact Nat.zero_le _
theorem someOf_length (a b : List ByteArray) (f : Bool) : (someOf a b f).1.length ≤ a.length := by
  unfold someOf
  split
  · exact List.length_filter_le _ _
  · exact Nat.zero_le _
theorem unionOf_length (a b : List ByteArray) : (unionOf a b).1.length ≤ a.length + b.length := by
  have := fresh_length a b
  unfold unionOf
  split
  · rw [sorted_length, List.length_append]; omega
  · exact Nat.zero_le _
theorem norm41_len (l : List S41) : (normOf l).1.length ≤ l.length := by
  unfold normOf
  split
  · rw [norm41_length]; exact Nat.le_refl _
  · exact Nat.zero_le _
theorem ownPairs_some (l : List S41) (hl : l.length ≤ 100000) : rampartlaw04_ownPairs.f l = some l := by
  unfold rampartlaw04_ownPairs.f
  simp only [Option.bind_some, List.nil_append]
  rw [if_pos (by simp; omega)]

theorem ownPairs_ev (l : List S41) (hl : l.length ≤ 100000) : Ev (fun _ => rampartlaw04_ownPairs.f l) l := ⟨0, fun _ _ => ownPairs_some l hl⟩
end Go.Proofs.Ytjahalkgjnnapaa.G
