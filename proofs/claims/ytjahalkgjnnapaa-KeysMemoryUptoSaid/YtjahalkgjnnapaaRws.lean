/- Lists of texts, each in a row of its own, none in another's. -/
import Derived.Test.YtjahalkgjnnapaaGx0
namespace Go.Proofs.Ytjahalkgjnnapaa.Rws
open Go.RowKit Go.Proofs.YtjahalkgjnnapaaW.PrintWords

/-- a slice value, and the texts that its row holds -/
abbrev Rw := Value × List ByteArray
def strs (l : List ByteArray) : List Value := encs Value.string l
theorem strs_length (l : List ByteArray) : (strs l).length = l.length := encs_length l
def Own (W : World) (base : Nat) (r : Rw) : Prop := W.ownsRow base 9 1 r.1 r.2.length (strs r.2)
def Apart (a b : Value) : Prop := a.ownBlock = none ∨ a.ownBlock ≠ b.ownBlock
/-- each list in a row of its own, no two in one -/
def All (W : World) (base : Nat) (rs : List Rw) : Prop :=
  (∀ i, (h : i < rs.length) → Own W base rs[i]) ∧ ∀ i j, (hi : i < rs.length) → (hj : j < rs.length) → i ≠ j → Apart rs[i].1 rs[j].1
theorem Apart.symm {a b : Value} (h : Apart a b) : Apart b a := by
  unfold Apart at *
  rcases h with h | h
  · rcases hb : b.ownBlock with _ | k
    · exact .inl rfl
    · exact .inr (by rw [h]; simp)
  · exact .inr (Ne.symm h)
theorem Own.grown {W W1 : World} {base : Nat} {r : Rw} (h : Own W base r) {row : Option Nat} (hg : W.grownBy W1 row) (hne : r.1.ownBlock = none ∨ r.1.ownBlock ≠ row) : Own W1 base r := own_other h hg hne
theorem Own.below {W W1 : World} {base : Nat} {r : Rw} (h : Own W base r) (hb : Below W.heap.size W W1) : Own W1 base r := pw_own_below h hb
theorem All.below {W W1 : World} {base : Nat} {rs : List Rw} (h : All W base rs) (hb : Below W.heap.size W W1) : All W1 base rs := ⟨fun i hi => (h.1 i hi).below hb, h.2⟩
/-- what is written is a row of another kind -/
theorem All.other {W W1 : World} {base : Nat} {rs : List Rw} (h : All W base rs) {row : Option Nat} (hg : W.grownBy W1 row) (hne : ∀ i, (hi : i < rs.length) → rs[i].1.ownBlock = none ∨ rs[i].1.ownBlock ≠ row) : All W1 base rs :=
  ⟨fun i hi => (h.1 i hi).grown hg (hne i hi), h.2⟩
theorem All.nil (W : World) (base : Nat) : All W base [] := ⟨fun i h => by simp at h, fun i j h => by simp at h⟩
theorem All.snoc {W : World} {base : Nat} {rs : List Rw} {r : Rw} (h : All W base rs) (hr : Own W base r) (ha : ∀ i, (hi : i < rs.length) → Apart rs[i].1 r.1) : All W base (rs ++ [r]) := by
  constructor
  · intro i hi
    rcases Nat.lt_or_ge i rs.length with h1 | h1
    · rw [List.getElem_append_left h1]; exact h.1 i h1
    · have : i = rs.length := by simp at hi; omega
      subst this
      simpa using hr
  · intro i j hi hj hne
    rcases Nat.lt_or_ge i rs.length with h1 | h1 <;> rcases Nat.lt_or_ge j rs.length with h2 | h2
    · rw [List.getElem_append_left h1, List.getElem_append_left h2]; exact h.2 i j h1 h2 hne
    · have : j = rs.length := by simp at hj; omega
      subst this
      rw [List.getElem_append_left h1]
      simpa using ha i h1
    · have : i = rs.length := by simp at hi; omega
      subst this
      rw [List.getElem_append_left h2]
      simpa using (ha j h2).symm
    · have : i = rs.length := by simp at hi; omega
      have : j = rs.length := by simp at hj; omega
      omega
/-- a list that is newly made stands apart from all elder ones -/
theorem apart_new {W : World} {base b : Nat} {rs : List Rw} {v : Value} (h : All W base rs) (hb : W.heap.size ≤ b) (hv : ∀ k, v.ownBlock = some k → b ≤ k) : ∀ i, (hi : i < rs.length) → Apart rs[i].1 v := by
  intro i hi
  rcases he : rs[i].1.ownBlock with _ | k
  · exact .inl he
  · refine .inr ?_
    intro hq
    have := hv k (by rw [← hq, he])
    have := own_lt (h.1 i hi) k he
    omega
/-- one list's row, and with it its value, is written; the others stay -/
theorem All.put {W W1 : World} {base : Nat} {rs : List Rw} {i : Nat} {r' : Rw} (h : All W base rs) (hi : i < rs.length) (hg : W.grownBy W1 rs[i].1.ownBlock) (hr : Own W1 base r')
    (hat : r'.1.ownBlock = rs[i].1.ownBlock ∨ ∃ b, r'.1.ownBlock = some b ∧ W.heap.size ≤ b) : All W1 base (rs.set i r') := by
  have far : ∀ j, (hj : j < rs.length) → j ≠ i → Apart rs[j].1 r'.1 := by
    intro j hj hne
    rcases hat with hat | ⟨b, hb, hle⟩
    · have := h.2 j i hj hi hne
      unfold Apart at *
      rw [hat]; exact this
    · rcases he : rs[j].1.ownBlock with _ | k
      · exact .inl he
      · refine .inr ?_
        intro hq
        have := own_lt (h.1 j hj) k he
        rw [he, hb] at hq
        injection hq with hq
        omega
  constructor
  · intro j hj
    have hj' : j < rs.length := by simpa using hj
    by_cases e : j = i
    · subst e
      simpa using hr
    · rw [List.getElem_set_ne (by omega)]
      exact (h.1 j hj').grown hg (h.2 j i hj' hi e)
  · intro j k hj hk hne
    have hj' : j < rs.length := by simpa using hj
    have hk' : k < rs.length := by simpa using hk
    by_cases e : j = i
    · subst e
      rw [List.getElem_set_self, List.getElem_set_ne (by omega)]
      exact (far k hk' (by omega)).symm
    · by_cases e' : k = i
      · subst e'
        rw [List.getElem_set_self, List.getElem_set_ne (by omega)]
        exact far j hj' e
      · rw [List.getElem_set_ne (by omega), List.getElem_set_ne (by omega)]
        exact h.2 j k hj' hk' hne
/-- a text of a list: where it lies -/
theorem Own.at {W : World} {base : Nat} {r : Rw} (h : Own W base r) {k : Nat} (hk : k < r.2.length) : ∃ g c, r.1 = .slice (some ⟨g, 0, none⟩) r.2.length c ∧ r.2.length ≤ c ∧ base ≤ g ∧ g < W.heap.size ∧ W.cell? ⟨g, k, none⟩ = some (.string r.2[k]) ∧ W.frozen? ⟨g, k, none⟩ = false := by
  obtain ⟨v, l⟩ := r
  have hlt := own_lt h
  have hba := own_base h
  have h0 : W.ownsRow base 9 1 v l.length (encs Value.string l) := h
  rcases h.2 with ⟨_, h2⟩ | ⟨g, cap, cur, e, hb, hh, h3, _⟩
  · simp at h2; simp at hk; subst h2; simp at hk
  · have e : v = .slice (some ⟨g, 0, none⟩) l.length cap := e
    subst e
    obtain ⟨q1, q2⟩ := own_at_of (d := ByteArray.empty) h0 (k : Int) (by omega) (by simp at hk; omega)
    rw [Int.toNat_natCast] at q1 q2
    refine ⟨g, cap, rfl, h3, hb, hlt g rfl, ?_, q2⟩
    rw [q1]
    simp at hk
    simp [rdOf, hk]
theorem Own.len {W : World} {base : Nat} {r : Rw} (h : Own W base r) : ∃ A c, r.1 = .slice A r.2.length c ∧ r.2.length ≤ c := by
  obtain ⟨v, l⟩ := r
  rcases h.2 with ⟨e, h2⟩ | ⟨g, cap, cur, e, hb, hh, h3, _⟩
  · have e : v = .slice none 0 0 := e
    subst e
    have h2 : l.length = 0 := h2
    exact ⟨none, 0, by simp [h2], by simp [h2]⟩
  · have e : v = .slice (some ⟨g, 0, none⟩) l.length cap := e
    subst e
    exact ⟨_, cap, rfl, h3⟩
/-- a text of a list written over -/
theorem Own.store {W : World} {base g c : Nat} {v : Value} {l : List ByteArray} (h : Own W base (v, l)) (e : v = .slice (some ⟨g, 0, none⟩) l.length c) (k : Nat) (x : ByteArray) :
    Own (W.setCell ⟨g, k, none⟩ (.string x)) base (v, l.set k x) ∧ W.grownBy (W.setCell ⟨g, k, none⟩ (.string x)) v.ownBlock := by
  subst e
  have h0 : W.ownsRow base 9 1 (.slice (some ⟨g, 0, none⟩) l.length c) l.length (encs Value.string l) := h
  obtain ⟨h1, h2⟩ := own_store_of h0 (k : Int) x
  rw [Int.toNat_natCast] at h1 h2
  refine ⟨?_, h2⟩
  unfold Own
  simpa [strs] using h1
theorem All.store {W : World} {base g c : Nat} {rs : List Rw} {i : Nat} (h : All W base rs) (hi : i < rs.length) (e : rs[i].1 = .slice (some ⟨g, 0, none⟩) rs[i].2.length c) (k : Nat) (x : ByteArray) :
    All (W.setCell ⟨g, k, none⟩ (.string x)) base (rs.set i (rs[i].1, rs[i].2.set k x)) ∧ W.grownBy (W.setCell ⟨g, k, none⟩ (.string x)) rs[i].1.ownBlock := by
  obtain ⟨h1, h2⟩ := (show Own W base (rs[i].1, rs[i].2) from h.1 i hi).store e k x
  exact ⟨h.put hi h2 h1 (.inl rfl), h2⟩
end Go.Proofs.Ytjahalkgjnnapaa.Rws
