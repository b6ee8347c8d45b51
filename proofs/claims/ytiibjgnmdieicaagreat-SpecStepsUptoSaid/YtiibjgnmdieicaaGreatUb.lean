/- what a proper history is, place by place. -/
import Derived.Test.YtiibjgnmdieicaaGreatUa
namespace Go.Proofs.YtiibjgnmdieicaaGreat.Hist
open Go.RowKit Go.Proofs.YtiibjgnmdieicaaGreatW.PrintWords Go.Sort
/-- the clients behind the first j events -/
def stN (l : List Evt) : Nat → (Nat → Cl)
  | 0 => cl0
  | j + 1 => match l[j]? with
    | none => stN l j
    | some x => stepC (stN l j) x j
theorem stN_succ {l : List Evt} {j : Nat} (h : j < l.length) : stN l (j + 1) = stepC (stN l j) l[j] j := by
  show (match l[j]? with | none => stN l j | some x => stepC (stN l j) x j) = _
  rw [List.getElem?_eq_getElem h]
theorem proper_drp {l : List Evt} (h : properB l = true) : ∀ j, j ≤ l.length → properAt (l.drop j) j (stN l j) = true
  | 0, _ => h
  | j + 1, hj => by
    have h1 := proper_drp h j (by omega)
    rw [List.drop_eq_getElem_cons (by omega), properAt, Bool.and_eq_true] at h1
    rw [stN_succ (by omega)]
    exact h1.2
theorem proper_stp {l : List Evt} (h : properB l = true) {j : Nat} (hj : j < l.length) : stepB (stN l j) l[j] l[j + 1]? j = true := by
  have h1 := proper_drp h j (by omega)
  rw [List.drop_eq_getElem_cons hj, properAt, Bool.and_eq_true] at h1
  have h2 := h1.1
  rw [List.head?_drop] at h2
  exact h2
structure InvP (l : List Evt) (j : Nat) : Prop where
  r2 : ∀ (c t : Nat) (q : Rq), (stN l j c).rqs[t]? = some q → ∃ p, ∃ hp : p < l.length, p < j ∧ q.ev = l[p] ∧ l[p].f0 ≠ 3 ∧ l[p].f1.toNat = c ∧ l[p].f2 = t + 1
  r1 : ∀ i (hi : i < l.length), i < j → l[i].f0 ≠ 3 → l[i].f2 ≤ (stN l j l[i].f1.toNat).rqs.length
  la : ∀ i (hi : i < l.length), i < j → l[i].f0 = 1 → l[i].f3 ≠ 0 → l[i].f3 ≤ (stN l j l[i].f1.toNat).last
theorem ansC_get (c : Cl) (x : Evt) (t : Nat) : ((ansC c x).rqs[t]?).map Rq.ev = (c.rqs[t]?).map Rq.ev := by
  unfold ansC
  split
  · rfl
  · rename_i q hq
    show ((c.rqs.set _ _)[t]?).map Rq.ev = _
    rw [List.getElem?_set]
    split
    · rename_i e
      split
      · subst e
        rw [hq]
        rfl
      · rename_i e2
        subst e
        rw [hq]
        have := (List.getElem?_eq_some_iff.1 hq).1
        exact absurd this e2
    · rfl
theorem ansC_last (c : Cl) (x : Evt) : (ansC c x).last = c.last := by
  unfold ansC
  split <;> rfl
theorem inv_proper {l : List Evt} (h : properB l = true) : ∀ j, j ≤ l.length → InvP l j
  | 0, _ => ⟨fun c t q hq => by simp [stN, cl0] at hq, fun i _ hi => absurd hi (Nat.not_lt_zero i), fun i _ hi => absurd hi (Nat.not_lt_zero i)⟩
  | j + 1, hj => by
    have hi := inv_proper h j (by omega)
    have hl : j < l.length := by omega
    have hs := proper_stp h hl
    unfold stepB at hs
    rw [Bool.and_eq_true] at hs
    have he : stN l (j + 1) = stepC (stN l j) l[j] j := stN_succ hl
    by_cases k3 : l[j].f0 = 3
    · have hc : ∀ c, (∀ t : Nat, ((stN l (j + 1) c).rqs[t]?).map Rq.ev = ((stN l j c).rqs[t]?).map Rq.ev) ∧ (stN l (j + 1) c).rqs.length = (stN l j c).rqs.length ∧ (stN l (j + 1) c).last = (stN l j c).last := fun c => by
        rw [he]
        unfold stepC upd
        split
        · rename_i e
          subst e
          try rw [if_pos k3]
          exact ⟨ansC_get _ _, ansC_len _ _, ansC_last _ _⟩
        · exact ⟨fun _ => rfl, rfl, rfl⟩
      refine ⟨fun c t q hq => ?_, fun i hil hij hk => ?_, fun i hil hij h1 h3 => ?_⟩
      · have h1 := (hc c).1 t
        rw [hq] at h1
        cases hq2 : (stN l j c).rqs[t]? with
        | none => rw [hq2] at h1; cases h1
        | some q2 =>
          rw [hq2] at h1
          obtain ⟨p, hp, a1, a2, a3⟩ := hi.r2 c t q2 hq2
          exact ⟨p, hp, by omega, (Option.some.inj h1).trans a2, a3⟩
      · rw [(hc _).2.1]
        exact hi.r1 i hil (by rcases Nat.lt_or_eq_of_le (Nat.le_of_lt_succ hij) with e | e; exact e; subst e; exact absurd k3 hk) hk
      · rw [(hc _).2.2]
        exact hi.la i hil (by rcases Nat.lt_or_eq_of_le (Nat.le_of_lt_succ hij) with e | e; exact e; subst e; omega) h1 h3
    · rw [if_neg k3] at hs
      have ha := hs.2
      unfold asksB at ha
      split at ha
      · cases ha
      rename_i hf2
      have hf2 : l[j].f2 = ((stN l j l[j].f1.toNat).rqs.length : Int) + 1 := by omega
      have hc : ∀ c, stN l (j + 1) c = if c = l[j].f1.toNat then asksC (stN l j l[j].f1.toNat) l[j] j else stN l j c := fun c => by
        rw [he]
        unfold stepC upd
        rw [if_neg k3]
      have hup : ∀ c, (stN l j c).rqs.length ≤ (stN l (j + 1) c).rqs.length ∧ (stN l j c).last ≤ (stN l (j + 1) c).last := fun c => by
        rw [hc]
        split
        · rename_i e
          subst e
          refine ⟨by simp [asksC], ?_⟩
          show _ ≤ if l[j].f0 = 2 ∨ l[j].f3 = 0 then _ else _
          split
          · exact Int.le_refl _
          · rename_i e2
            rw [if_neg (fun e => e2 (.inl e)), if_neg (fun e => e2 (.inr e))] at ha
            unfold idB at ha
            simp only [Bool.and_eq_true, decide_eq_true_eq] at ha
            omega
        · exact ⟨Nat.le_refl _, Int.le_refl _⟩
      refine ⟨fun c t q hq => ?_, fun i hil hij hk => ?_, fun i hil hij h1 h3 => ?_⟩
      · rw [hc] at hq
        split at hq
        · rename_i e
          have hq' : ((stN l j l[j].f1.toNat).rqs ++ [(⟨l[j], j, false⟩ : Rq)])[t]? = some q := hq
          by_cases ht : t < (stN l j l[j].f1.toNat).rqs.length
          · rw [List.getElem?_append_left ht] at hq'
            obtain ⟨p, hp, a1, a2⟩ := hi.r2 _ t q hq'
            rw [← e] at a2
            exact ⟨p, hp, by omega, a2⟩
          · rw [List.getElem?_append_right (by omega)] at hq'
            have ht2 : t - (stN l j l[j].f1.toNat).rqs.length = 0 := by
              have := (List.getElem?_eq_some_iff.1 hq').1
              simp at this
              omega
            rw [ht2] at hq'
            simp at hq'
            subst hq'
            exact ⟨j, hl, Nat.lt_succ_self _, rfl, k3, e.symm, by omega⟩
        · obtain ⟨p, hp, a1, a2⟩ := hi.r2 c t q hq
          exact ⟨p, hp, by omega, a2⟩
      · rcases Nat.lt_or_eq_of_le (Nat.le_of_lt_succ hij) with e | e
        · have := hi.r1 i hil e hk
          have := (hup l[i].f1.toNat).1
          omega
        · subst e
          rw [hc, if_pos rfl]
          show _ ≤ (((stN l i l[i].f1.toNat).rqs ++ [(⟨l[i], i, false⟩ : Rq)]).length : Int)
          simp
          omega
      · rcases Nat.lt_or_eq_of_le (Nat.le_of_lt_succ hij) with e | e
        · have := hi.la i hil e h1 h3
          have := (hup l[i].f1.toNat).2
          omega
        · subst e
          rw [hc, if_pos rfl]
          show _ ≤ if l[i].f0 = 2 ∨ l[i].f3 = 0 then _ else l[i].f3
          rw [if_neg (by rintro (e | e) <;> omega)]
          exact Int.le_refl _
/-- is there a write that is not refused? -/
def IsW (e : Evt) : Prop := e.f0 = 1 ∧ e.f3 ≠ 0
instance (e : Evt) : Decidable (IsW e) := inferInstanceAs (Decidable (_ ∧ _))
/-- what a proper history is -/
structure Prp (l : List Evt) : Prop where
  kind : ∀ j (h : j < l.length), (l[j].f0 = 1 ∨ l[j].f0 = 2 ∨ l[j].f0 = 3) ∧ 0 ≤ l[j].f1 ∧ 1 ≤ l[j].f2
  rise : ∀ i k (hi : i < l.length) (hk : k < l.length), i < k → IsW l[i] → IsW l[k] → l[i].f1 = l[k].f1 → l[i].f3 < l[k].f3
  cli : ∀ j (h : j < l.length), IsW l[j] → cliOf l[j].f3 = l[j].f1 ∧ 65536 ≤ l[j].f3
  req : ∀ j (h : j < l.length), l[j].f0 = 3 → ∃ p, ∃ hp : p < l.length, p < j ∧ l[p].f0 ≠ 3 ∧ l[p].f1 = l[j].f1 ∧ l[p].f2 = l[j].f2 ∧ (l[p].f0 = 1 → writtenB l[p] l[j].f6 = true) ∧ (l[p].f0 = 2 → ∃ b, readB l[p] l[j].f6 b = true)
  one : ∀ i k (hi : i < l.length) (hk : k < l.length), i < k → l[i].f0 ≠ 3 → l[k].f0 ≠ 3 → l[i].f1 = l[k].f1 → l[i].f2 < l[k].f2
  ask : ∀ j (h : j < l.length), l[j].f0 ≠ 3 → l[j].f6.f3 = []
theorem prp {l : List Evt} (h : properB l = true) : Prp l := by
  have hin := fun j hj => proper_in h j hj
  refine ⟨fun j hj => ⟨(hin j hj).1, (hin j hj).2.1, (hin j hj).2.2.2.1⟩, ?_, ?_, ?_, ?_, ?_⟩
  · intro i k hi hk hik wi wk hc
    have hv := inv_proper h k (by omega)
    have h1 := hv.la i hi hik wi.1 wi.2
    have hs := proper_stp h hk
    unfold stepB at hs
    rw [Bool.and_eq_true, if_neg (by rw [wk.1]; decide)] at hs
    have ha := hs.2
    unfold asksB at ha
    split at ha
    · cases ha
    · rw [if_neg (by rw [wk.1]; decide), if_neg wk.2] at ha
      unfold idB at ha
      simp only [Bool.and_eq_true, decide_eq_true_eq] at ha
      rw [hc] at h1
      omega
  · intro j hj wj
    have hs := proper_stp h hj
    unfold stepB at hs
    rw [Bool.and_eq_true, if_neg (by rw [wj.1]; decide)] at hs
    have ha := hs.2
    unfold asksB at ha
    split at ha
    · cases ha
    · rw [if_neg (by rw [wj.1]; decide), if_neg wj.2] at ha
      unfold idB at ha
      simp only [Bool.and_eq_true, decide_eq_true_eq, beq_iff_eq] at ha
      exact ⟨ha.1.2, ha.1.1⟩
  · intro j hj k3
    have hv := inv_proper h j (by omega)
    have hs := proper_stp h hj
    unfold stepB at hs
    rw [Bool.and_eq_true, if_pos k3] at hs
    have ha := hs.2
    unfold ansB at ha
    split at ha
    · cases ha
    · split at ha
      · cases ha
      · rename_i q hq
        split at ha
        · cases ha
        · obtain ⟨p, hp, a1, a2, a3, a4, a5⟩ := hv.r2 _ _ q hq
          have g1 := (hin j hj).2.1
          have g2 := (hin j hj).2.2.2.1
          have g3 := (hin p hp).2.1
          refine ⟨p, hp, a1, a3, by omega, by omega, fun e1 => ?_, fun e2 => ?_⟩
          · rw [a2, if_pos e1] at ha
            exact ha
          · rw [a2, if_neg (by omega)] at ha
            exact ⟨_, ha⟩
  · intro i k hi hk hik k1 k2 hc
    have hv := inv_proper h k (by omega)
    have h1 := hv.r1 i hi hik k1
    have hs := proper_stp h hk
    unfold stepB at hs
    rw [Bool.and_eq_true, if_neg k2] at hs
    have ha := hs.2
    unfold asksB at ha
    split at ha
    · cases ha
    · rename_i e
      rw [hc] at h1
      omega
  · intro j hj k3
    have hs := proper_stp h hj
    unfold stepB at hs
    rw [Bool.and_eq_true] at hs
    have hm := hs.1
    have hk := (hin j hj).1
    unfold mayB at hm
    split at hm
    · cases hm
    · split at hm
      · simp only [Bool.and_eq_true, emptyB, beq_iff_eq] at hm
        exact List.eq_nil_of_length_eq_zero (by omega)
      · split at hm
        · simp only [Bool.and_eq_true, emptyB, beq_iff_eq] at hm
          exact List.eq_nil_of_length_eq_zero (by omega)
        · omega
/-- a name is one write's -/
theorem Prp.inj {l : List Evt} (h : Prp l) {i k : Nat} (hi : i < l.length) (hk : k < l.length) (wi : IsW l[i]) (wk : IsW l[k]) (he : l[i].f3 = l[k].f3) : i = k := by
  have hc : l[i].f1 = l[k].f1 := by rw [← (h.cli i hi wi).1, ← (h.cli k hk wk).1, he]
  rcases Nat.lt_trichotomy i k with e | e | e
  · have := h.rise i k hi hk e wi wk hc
    omega
  · exact e
  · have := h.rise k i hk hi e wk wi hc.symm
    omega
end Go.Proofs.YtiibjgnmdieicaaGreat.Hist
/- what a proper history is: answers. -/
namespace Go.Proofs.YtiibjgnmdieicaaGreat.Hist
open Go.RowKit Go.Proofs.YtiibjgnmdieicaaGreatW.PrintWords Go.Sort
theorem ansC_ans (c : Cl) (x : Evt) (t : Nat) (q : Rq) (h : c.rqs[t]? = some q) (hq : q.ans = true) : ∃ q', (ansC c x).rqs[t]? = some q' ∧ q'.ans = true := by
  unfold ansC
  split
  · exact ⟨q, h, hq⟩
  · rename_i r hr
    show ∃ q', (c.rqs.set _ _)[t]? = some q' ∧ _
    rw [List.getElem?_set]
    split
    · rename_i e
      have := (List.getElem?_eq_some_iff.1 hr).1
      rw [if_pos this]
      exact ⟨_, rfl, rfl⟩
    · exact ⟨q, h, hq⟩
/-- what is answered is marked -/
theorem inv_ans {l : List Evt} (h : properB l = true) : ∀ j, j ≤ l.length → ∀ i (hi : i < l.length), i < j → l[i].f0 = 3 → ∃ q, (stN l j l[i].f1.toNat).rqs[(l[i].f2 - 1).toNat]? = some q ∧ q.ans = true
  | 0, _ => fun i _ hi => absurd hi (Nat.not_lt_zero i)
  | j + 1, hj => fun i hi hij k3 => by
    have hl : j < l.length := by omega
    have he : stN l (j + 1) = stepC (stN l j) l[j] j := stN_succ hl
    have hs := proper_stp h hl
    unfold stepB at hs
    rw [Bool.and_eq_true] at hs
    rcases Nat.lt_or_eq_of_le (Nat.le_of_lt_succ hij) with e | e
    · obtain ⟨q, h1, h2⟩ := inv_ans h j (by omega) i hi e k3
      rw [he]
      unfold stepC upd
      split
      · rename_i ec
        rw [ec] at h1
        split
        · exact ansC_ans _ _ _ q h1 h2
        · refine ⟨q, ?_, h2⟩
          show ((stN l j l[j].f1.toNat).rqs ++ [_])[_]? = _
          rw [List.getElem?_append_left (List.getElem?_eq_some_iff.1 h1).1]
          exact h1
      · exact ⟨q, h1, h2⟩
    · subst e
      have ha := hs.2
      rw [if_pos k3] at ha
      unfold ansB at ha
      split at ha
      · cases ha
      · split at ha
        · cases ha
        · rename_i q hq
          rw [he]
          unfold stepC upd
          rw [if_pos rfl, if_pos k3]
          unfold ansC
          rw [hq]
          refine ⟨⟨q.ev, q.place, true⟩, ?_, rfl⟩
          show ((stN l i l[i].f1.toNat).rqs.set _ _)[_]? = _
          rw [List.getElem?_set_self (List.getElem?_eq_some_iff.1 hq).1]
/-- a request is answered once -/
theorem once {l : List Evt} (h : properB l = true) {i k : Nat} (hi : i < l.length) (hk : k < l.length) (hik : i < k) (a1 : l[i].f0 = 3) (a2 : l[k].f0 = 3) (hc : l[i].f1 = l[k].f1) (ht : l[i].f2 = l[k].f2) : False := by
  obtain ⟨q, h1, h2⟩ := inv_ans h k (by omega) i hi hik a1
  have hs := proper_stp h hk
  unfold stepB at hs
  rw [Bool.and_eq_true, if_pos a2] at hs
  have ha := hs.2
  unfold ansB at ha
  rw [← hc, ← ht] at ha
  split at ha
  · cases ha
  · rw [h1] at ha
    have ha' : (if q.ans = true then false else if q.ev.f0 = 1 then writtenB q.ev l[k].f6 else readB q.ev l[k].f6 ((k : Int) == IntKind.i64.wrap (q.place + 1))) = true := ha
    rw [if_pos h2] at ha'
    cases ha'
/-- whose request an answer answers -/
structure AnsOf (l : List Evt) (p j : Nat) (hp : p < l.length) (hj : j < l.length) : Prop where
  lt : p < j
  rq : l[p].f0 ≠ 3
  c : l[p].f1 = l[j].f1
  t : l[p].f2 = l[j].f2
theorem Prp.uniq {l : List Evt} (h : Prp l) {p q : Nat} (hp : p < l.length) (hq : q < l.length) (a1 : l[p].f0 ≠ 3) (a2 : l[q].f0 ≠ 3) (hc : l[p].f1 = l[q].f1) (ht : l[p].f2 = l[q].f2) : p = q := by
  rcases Nat.lt_trichotomy p q with e | e | e
  · have := h.one p q hp hq e a1 a2 hc
    omega
  · exact e
  · have := h.one q p hq hp e a2 a1 hc.symm
    omega
/-- versions are told by good answers to reads -/
theorem Prp.vers {l : List Evt} (h : Prp l) {j : Nat} (hj : j < l.length) (hv : l[j].f6.f3 ≠ []) : l[j].f0 = 3 ∧ l[j].f6.f1 = 1 ∧ l[j].f6.f2 = 0 := by
  have k3 : l[j].f0 = 3 := by
    refine Decidable.byContradiction fun e => hv (h.ask j hj e)
  obtain ⟨p, hp, hlt, hr, hc, ht, hw, hrd⟩ := h.req j hj k3
  have hpos : 0 < l[j].f6.f3.length := List.length_pos_iff.2 hv
  rcases (h.kind p hp).1 with e | e | e
  · have := hw e
    unfold writtenB at this
    rw [if_pos hpos] at this
    cases this
  · obtain ⟨b, this⟩ := hrd e
    unfold readB at this
    split at this
    · cases this
    · rename_i e2
      split at this
      · rename_i e1
        exact ⟨k3, e1, by omega⟩
      · split at this
        · simp only [Bool.and_eq_true, beq_iff_eq] at this
          omega
        · split at this
          · simp only [beq_iff_eq] at this
            omega
          · cases this
  · exact absurd e hr
/-- an answer that names a write is its own -/
theorem Prp.names {l : List Evt} (h : Prp l) {j w : Nat} (hj : j < l.length) (hw : w < l.length) (k3 : l[j].f0 = 3) (wr : IsW l[w]) (he : l[j].f6.f2 = l[w].f3) : w < j ∧ l[w].f1 = l[j].f1 ∧ l[w].f2 = l[j].f2 := by
  obtain ⟨p, hp, hlt, hr, hc, ht, hwr, hrd⟩ := h.req j hj k3
  rcases (h.kind p hp).1 with e | e | e
  · have hb := hwr e
    unfold writtenB at hb
    split at hb
    · cases hb
    · split at hb
      · cases hb
      · rename_i e2
        have e3 : l[p].f3 = l[w].f3 := by omega
        have wp : IsW l[p] := ⟨e, by rw [e3]; exact wr.2⟩
        obtain rfl := h.inj hp hw wp wr e3
        exact ⟨hlt, hc, ht⟩
  · obtain ⟨b, hb⟩ := hrd e
    unfold readB at hb
    split at hb
    · cases hb
    · rename_i e2
      have := wr.2
      omega
  · exact absurd e hr
/-- the answer to a write names it -/
theorem Prp.named {l : List Evt} (h : Prp l) {j w : Nat} (hj : j < l.length) (hw : w < l.length) (k3 : l[j].f0 = 3) (wr : IsW l[w]) (hc : l[w].f1 = l[j].f1) (ht : l[w].f2 = l[j].f2) : w < j ∧ l[j].f6.f2 = l[w].f3 := by
  obtain ⟨p, hp, hlt, hr, hc', ht', hwr, _⟩ := h.req j hj k3
  obtain rfl := h.uniq hp hw hr (by rw [wr.1]; decide) (hc'.trans hc.symm) (ht'.trans ht.symm)
  have hb := hwr wr.1
  unfold writtenB at hb
  split at hb
  · cases hb
  · split at hb
    · cases hb
    · rename_i e2
      exact ⟨hlt, by omega⟩
end Go.Proofs.YtiibjgnmdieicaaGreat.Hist
/- the order in the making: what ahead turns; how often a write is waited for. -/
namespace Go.Proofs.YtiibjgnmdieicaaGreat.Hist
open Go.RowKit Go.Proofs.YtiibjgnmdieicaaGreatW.PrintWords Go.Sort
/-- one write must be ahead of another -/
def Mem (ws : List Sw) (u v : Nat) : Prop := ∃ x, ws[u]? = some x ∧ v ∈ x.behind
inductive Rch (ws : List Sw) : Nat → Nat → Prop
  | one {u v : Nat} : Mem ws u v → Rch ws u v
  | more {u v w : Nat} : Rch ws u v → Mem ws v w → Rch ws u w
theorem Rch.mono {ws ws' : List Sw} (h : ∀ u v, Mem ws u v → Mem ws' u v) {u v : Nat} (r : Rch ws u v) : Rch ws' u v := by
  induction r with
  | one m => exact .one (h _ _ m)
  | more _ m ih => exact .more ih (h _ _ m)
/-- what of a write ahead never turns -/
def prS (x : Sw) : Evt × Int × Int × Bool := (x.ev, x.place, x.done, x.placed)
def SameD (ws ws' : List Sw) : Prop := ∀ i : Nat, (ws'[i]?).map prS = (ws[i]?).map prS
theorem SameD.refl (ws : List Sw) : SameD ws ws := fun _ => rfl
theorem SameD.trans {a b c : List Sw} (h : SameD a b) (k : SameD b c) : SameD a c := fun i => (k i).trans (h i)
theorem SameD.symm {a b : List Sw} (h : SameD a b) : SameD b a := fun i => (h i).symm
theorem SameD.get {ws ws' : List Sw} (h : SameD ws ws') {i : Nat} {x' : Sw} (hx : ws'[i]? = some x') : ∃ x, ws[i]? = some x ∧ x'.ev = x.ev ∧ x'.place = x.place ∧ x'.done = x.done ∧ x'.placed = x.placed := by
  have := h i
  rw [hx] at this
  cases hy : ws[i]? with
  | none => rw [hy] at this; cases this
  | some x =>
    rw [hy] at this
    simp only [Option.map_some, Option.some.injEq, prS, Prod.mk.injEq] at this
    exact ⟨x, rfl, this.1, this.2.1, this.2.2.1, this.2.2.2⟩
theorem SameD.len {ws ws' : List Sw} (h : SameD ws ws') : ws'.length = ws.length := by
  rcases Nat.lt_trichotomy ws'.length ws.length with e | e | e
  · obtain ⟨x, hx, _⟩ := h.symm.get (List.getElem?_eq_getElem e)
    have := (List.getElem?_eq_some_iff.1 hx).1
    omega
  · exact e
  · obtain ⟨x, hx, _⟩ := h.get (List.getElem?_eq_getElem e)
    have := (List.getElem?_eq_some_iff.1 hx).1
    omega
theorem get_aheadW (ws : List Sw) (u v i : Nat) : (aheadW ws u v)[i]? = (ws[i]?).map fun x => ⟨x.ev, x.place, x.done, if i = v then x.waits + 1 else x.waits, if i = u then x.behind ++ [v] else x.behind, x.placed⟩ := by
  unfold aheadW
  rw [List.getElem?_modify, List.getElem?_modify]
  cases ws[i]? with
  | none => rfl
  | some x =>
    by_cases h1 : u = i <;> by_cases h2 : v = i
    all_goals simp_all [behindW, waitsW, eq_comm]
theorem SameD.aheadW (ws : List Sw) (u v : Nat) : SameD ws (aheadW ws u v) := fun i => by
  rw [get_aheadW]
  cases ws[i]? <;> rfl
theorem SameD.aheadS (o : Os) (u : Nat) (id : Int) : SameD o.ws (aheadS o u id).ws := by
  unfold Hist.aheadS
  split
  · exact SameD.refl _
  · split
    · exact SameD.refl _
    · split
      · exact SameD.refl _
      · exact SameD.aheadW _ _ _
theorem mem_aheadW {ws : List Sw} {u : Nat} (hu : u < ws.length) (v a b : Nat) : Mem (aheadW ws u v) a b ↔ Mem ws a b ∨ (a = u ∧ b = v) := by
  unfold Mem
  rw [get_aheadW]
  constructor
  · rintro ⟨x, hx, hb⟩
    cases hy : ws[a]? with
    | none => rw [hy] at hx; cases hx
    | some y =>
      rw [hy] at hx
      simp only [Option.map_some, Option.some.injEq] at hx
      subst hx
      by_cases e : a = u
      · simp only [e, if_true, List.mem_append, List.mem_singleton] at hb
        rcases hb with hb | hb
        · exact .inl ⟨y, rfl, hb⟩
        · exact .inr ⟨e, hb⟩
      · simp only [if_neg e] at hb
        exact .inl ⟨y, rfl, hb⟩
  · rintro (⟨y, hy, hb⟩ | ⟨rfl, rfl⟩)
    · rw [hy]
      refine ⟨_, rfl, ?_⟩
      show b ∈ if a = u then y.behind ++ [v] else y.behind
      split
      · exact List.mem_append_left _ hb
      · exact hb
    · rw [List.getElem?_eq_getElem hu]
      refine ⟨_, rfl, ?_⟩
      show b ∈ if a = a then _ else _
      rw [if_pos rfl]
      simp
theorem mem_aheadS {o : Os} {u : Nat} (hu : u < o.ws.length) (id : Int) (a b : Nat) : Mem (aheadS o u id).ws a b ↔ Mem o.ws a b ∨ (a = u ∧ id ≠ 0 ∧ o.ids id = some b ∧ b ≠ u) := by
  unfold aheadS
  split
  · rename_i e
    exact ⟨.inl, fun h => h.elim (fun h => h) (fun h => absurd e h.2.1)⟩
  · rename_i e
    split
    · rename_i e2
      exact ⟨.inl, fun h => h.elim (fun h => h) (fun h => by rw [e2] at h; cases h.2.2.1)⟩
    · rename_i v e2
      split
      · rename_i e3
        exact ⟨.inl, fun h => h.elim (fun h => h) (fun h => by rw [e2] at h; have := Option.some.inj h.2.2.1; omega)⟩
      · rename_i e3
        rw [mem_aheadW hu]
        constructor
        · rintro (h | ⟨rfl, rfl⟩)
          · exact .inl h
          · exact .inr ⟨rfl, e, e2, e3⟩
        · rintro (h | ⟨rfl, _, h, _⟩)
          · exact .inl h
          · rw [e2] at h
            exact .inr ⟨rfl, (Option.some.inj h).symm⟩
theorem rnd_aheadS (o : Os) (u : Nat) (id : Int) : (aheadS o u id).rnd = true ↔ o.rnd = true ∨ id = 0 := by
  unfold aheadS
  split
  · rename_i e
    exact ⟨fun _ => .inr e, fun _ => rfl⟩
  · rename_i e
    split
    · exact ⟨.inl, fun h => h.elim (fun h => h) (fun h => absurd h e)⟩
    · split
      · exact ⟨.inl, fun h => h.elim (fun h => h) (fun h => absurd h e)⟩
      · exact ⟨.inl, fun h => h.elim (fun h => h) (fun h => absurd h e)⟩
theorem ids_aheadS (o : Os) (u : Nat) (id : Int) : (aheadS o u id).ids = o.ids := (SameE.ahead o u id).ids
/-- a sum over a list -/
def sumI {α : Type} (g : α → Int) : List α → Int
  | [] => 0
  | x :: r => g x + sumI g r
theorem sumI_app {α : Type} (g : α → Int) (a b : List α) : sumI g (a ++ b) = sumI g a + sumI g b := by
  induction a with
  | nil => simp [sumI]
  | cons x r ih => simp only [List.cons_append, sumI, ih]; omega
theorem sumI_modify {α : Type} (g : α → Int) (f : α → α) : ∀ (l : List α) (u : Nat) (x : α), l[u]? = some x → sumI g (l.modify u f) = sumI g l + (g (f x) - g x)
  | [], u, x, h => by simp at h
  | y :: r, 0, x, h => by
    simp only [List.getElem?_cons_zero, Option.some.injEq] at h
    subst h
    simp only [List.modify_zero_cons, sumI]
    omega
  | y :: r, u + 1, x, h => by
    simp only [List.getElem?_cons_succ] at h
    simp only [List.modify_succ_cons, sumI, sumI_modify g f r u x h]
    omega
/-- how often a write is named by writes that aren't placed -/
def named (v : Nat) (x : Sw) : Int := if x.placed = true then 0 else (x.behind.count v : Int)
def cntN (ws : List Sw) (v : Nat) : Int := sumI (named v) ws
def Kn (ws : List Sw) : Prop := ∀ (v : Nat) (x : Sw), ws[v]? = some x → x.waits = cntN ws v
theorem cnt_aheadW {ws : List Sw} {u : Nat} {x : Sw} (hx : ws[u]? = some x) (hp : x.placed = false) (v b : Nat) : cntN (aheadW ws u v) b = cntN ws b + if b = v then 1 else 0 := by
  unfold cntN aheadW
  have h1 := sumI_modify (named b) (fun x => behindW x v) ws u x hx
  have h2 : named b (behindW x v) - named b x = if b = v then 1 else 0 := by
    unfold named behindW
    simp only [hp, Bool.false_eq_true, if_false, List.count_append, List.count_singleton]
    by_cases e : b = v
    · subst e
      simp
      omega
    · have e' : ¬ (v = b) := fun h => e h.symm
      simp [e, e']
  rw [h2] at h1
  cases hy : (ws.modify u fun x => behindW x v)[v]? with
  | none =>
    have : (ws.modify u fun x => behindW x v).length ≤ v := List.getElem?_eq_none_iff.1 hy
    rw [List.modify_eq_self this]
    exact h1
  | some y =>
    rw [sumI_modify (named b) (fun x => waitsW x 1) _ v y hy, h1]
    have : named b (waitsW y 1) = named b y := rfl
    omega
theorem Kn.aheadW {ws : List Sw} (h : Kn ws) {u : Nat} {x : Sw} (hx : ws[u]? = some x) (hp : x.placed = false) (v : Nat) : Kn (aheadW ws u v) := fun b y hy => by
  rw [cnt_aheadW hx hp]
  rw [get_aheadW] at hy
  cases hz : ws[b]? with
  | none => rw [hz] at hy; cases hy
  | some z =>
    rw [hz] at hy
    simp only [Option.map_some, Option.some.injEq] at hy
    subst hy
    have := h b z hz
    show (if b = v then z.waits + 1 else z.waits) = _
    split <;> omega
theorem Kn.aheadS {o : Os} (h : Kn o.ws) {u : Nat} {x : Sw} (hx : o.ws[u]? = some x) (hp : x.placed = false) (id : Int) : Kn (aheadS o u id).ws := by
  unfold Hist.aheadS
  split
  · exact h
  · split
    · exact h
    · split
      · exact h
      · exact h.aheadW hx hp _
theorem cnt_none {ws : List Sw} {v : Nat} (h : ∀ u, ¬ Mem ws u v) : cntN ws v = 0 := by
  have key : ∀ (l : List Sw), (∀ x ∈ l, v ∉ x.behind) → sumI (named v) l = 0 := by
    intro l
    induction l with
    | nil => intro _; rfl
    | cons x r ih =>
      intro hl
      have h1 := hl x List.mem_cons_self
      have h2 := ih (fun y hy => hl y (List.mem_cons_of_mem _ hy))
      have h3 : named v x = 0 := by
        unfold named
        rw [List.count_eq_zero_of_not_mem h1]
        simp
      simp only [sumI, h2, h3]
      rfl
  refine key ws fun x hx hv => ?_
  obtain ⟨u, hu, rfl⟩ := List.getElem_of_mem hx
  exact h u ⟨_, List.getElem?_eq_getElem hu, hv⟩
end Go.Proofs.YtiibjgnmdieicaaGreat.Hist
/- what collect finds. -/
namespace Go.Proofs.YtiibjgnmdieicaaGreat.Hist
open Go.RowKit Go.Proofs.YtiibjgnmdieicaaGreatW.PrintWords Go.Sort
/-- an answer tells a write done -/
def Good (e w : Evt) : Prop := e.f0 = 3 ∧ e.f6.f1 = 1 ∧ e.f6.f2 = w.f3
structure IC (l : List Evt) (j : Nat) (s : Cs) : Prop where
  w1 : ∀ (u : Nat) x, s.o.ws[u]? = some x → ∃ p, ∃ hp : p < l.length, p < j ∧ x.place = (p : Int) ∧ x.ev = l[p] ∧ IsW l[p] ∧ x.placed = false
  w2 : ∀ p (hp : p < l.length), p < j → IsW l[p] → ∃ (u : Nat) (x : Sw), s.o.ws[u]? = some x ∧ x.place = (p : Int)
  w3 : ∀ (u v : Nat) x y, u < v → s.o.ws[u]? = some x → s.o.ws[v]? = some y → x.place < y.place
  id : ∀ q u, s.o.ids q = some u ↔ ∃ x, s.o.ws[u]? = some x ∧ x.ev.f3 = q
  la : ∀ c u, s.last c = some u → ∃ x, s.o.ws[u]? = some x ∧ x.ev.f1 = c
  lb : ∀ (u : Nat) x, s.o.ws[u]? = some x → ∃ v, s.last x.ev.f1 = some v ∧ u ≤ v
  me : ∀ u v, Mem s.o.ws u v → u < v ∧ ∃ x y, s.o.ws[u]? = some x ∧ s.o.ws[v]? = some y ∧ x.ev.f1 = y.ev.f1
  re : ∀ (u v : Nat) x y, u < v → s.o.ws[u]? = some x → s.o.ws[v]? = some y → x.ev.f1 = y.ev.f1 → Rch s.o.ws u v
  dn : ∀ (u : Nat) x, s.o.ws[u]? = some x → (x.done = -1 ∧ ∀ i (hi : i < l.length), i < j → ¬ Good l[i] x.ev) ∨ ∃ i, ∃ hi : i < l.length, i < j ∧ x.done = (i : Int) ∧ Good l[i] x.ev
  kn : Kn s.o.ws
  rd : s.o.rnd = false
/-- nothing is turned -/
theorem IC.same {l : List Evt} {j : Nat} {s : Cs} (h : IC l j s) (hj : j < l.length) (hw : ¬ IsW l[j]) (hg : ∀ (u : Nat) x, s.o.ws[u]? = some x → ¬ Good l[j] x.ev) : IC l (j + 1) s := by
  refine ⟨fun u x hx => ?_, fun p hp hpj wp => ?_, h.w3, h.id, h.la, h.lb, h.me, h.re, fun u x hx => ?_, h.kn, h.rd⟩
  · obtain ⟨p, hp, a, b⟩ := h.w1 u x hx
    exact ⟨p, hp, by omega, b⟩
  · rcases Nat.lt_or_eq_of_le (Nat.le_of_lt_succ hpj) with e | e
    · exact h.w2 p hp e wp
    · subst e
      exact absurd wp hw
  · rcases h.dn u x hx with ⟨a, b⟩ | ⟨i, hi, a, b⟩
    · refine .inl ⟨a, fun i hi hij => ?_⟩
      rcases Nat.lt_or_eq_of_le (Nat.le_of_lt_succ hij) with e | e
      · exact b i hi e
      · subst e
        exact hg u x hx
    · exact .inr ⟨i, hi, by omega, b⟩
theorem get_done (ws : List Sw) (m : Nat) (q : Int) (i : Nat) : (ws.modify m fun x => doneW x q)[i]? = (ws[i]?).map fun x => ⟨x.ev, x.place, if i = m then q else x.done, x.waits, x.behind, x.placed⟩ := by
  rw [List.getElem?_modify]
  cases ws[i]? with
  | none => rfl
  | some x => by_cases h1 : m = i <;> simp_all [doneW, eq_comm]
theorem IC.done {l : List Evt} {j : Nat} {s : Cs} (h : IC l j s) (hj : j < l.length) (k3 : l[j].f0 = 3) (h1 : l[j].f6.f1 = 1) {m : Nat} (hm : s.o.ids l[j].f6.f2 = some m) :
    IC l (j + 1) ⟨⟨s.o.ws.modify m fun x => doneW x j, s.o.ids, s.o.rnd⟩, s.last⟩ := by
  obtain ⟨xm, hxm, hid⟩ := (h.id _ _).1 hm
  have hget := get_done s.o.ws m j
  have hback : ∀ (u : Nat) x, (s.o.ws.modify m fun x => doneW x j)[u]? = some x → ∃ y, s.o.ws[u]? = some y ∧ x = ⟨y.ev, y.place, if u = m then (j : Int) else y.done, y.waits, y.behind, y.placed⟩ := fun u x hx => by
    rw [hget] at hx
    cases hy : s.o.ws[u]? with
    | none => rw [hy] at hx; cases hx
    | some y =>
      rw [hy] at hx
      exact ⟨y, rfl, (Option.some.inj hx).symm⟩
  have hfwd : ∀ (u : Nat) y, s.o.ws[u]? = some y → (s.o.ws.modify m fun x => doneW x j)[u]? = some ⟨y.ev, y.place, if u = m then (j : Int) else y.done, y.waits, y.behind, y.placed⟩ := fun u y hy => by rw [hget, hy]; rfl
  have hmem : ∀ u v, Mem (s.o.ws.modify m fun x => doneW x j) u v ↔ Mem s.o.ws u v := fun u v => by
    constructor
    · rintro ⟨x, hx, hv⟩
      obtain ⟨y, hy, rfl⟩ := hback u x hx
      exact ⟨y, hy, hv⟩
    · rintro ⟨y, hy, hv⟩
      exact ⟨_, hfwd u y hy, hv⟩
  refine ⟨fun u x hx => ?_, fun p hp hpj wp => ?_, fun u v x y huv hx hy => ?_, fun q u => ?_, fun c u hc => ?_, fun u x hx => ?_, fun u v m => ?_, fun u v x y huv hx hy hc => ?_, fun u x hx => ?_, fun v x hx => ?_, h.rd⟩
  · obtain ⟨y, hy, rfl⟩ := hback u x hx
    obtain ⟨p, hp, a, b⟩ := h.w1 u y hy
    exact ⟨p, hp, by omega, b⟩
  · rcases Nat.lt_or_eq_of_le (Nat.le_of_lt_succ hpj) with e | e
    · obtain ⟨u, x, hx, hpl⟩ := h.w2 p hp e wp
      exact ⟨u, _, hfwd u x hx, hpl⟩
    · subst e
      have := wp.1
      omega
  · obtain ⟨x', hx', rfl⟩ := hback u x hx
    obtain ⟨y', hy', rfl⟩ := hback v y hy
    exact h.w3 u v x' y' huv hx' hy'
  · constructor
    · intro hq
      obtain ⟨x, hx, e⟩ := (h.id q u).1 hq
      exact ⟨_, hfwd u x hx, e⟩
    · rintro ⟨x, hx, e⟩
      obtain ⟨y, hy, rfl⟩ := hback u x hx
      exact (h.id q u).2 ⟨y, hy, e⟩
  · obtain ⟨x, hx, e⟩ := h.la c u hc
    exact ⟨_, hfwd u x hx, e⟩
  · obtain ⟨y, hy, rfl⟩ := hback u x hx
    exact h.lb u y hy
  · obtain ⟨a, x, y, hx, hy, e⟩ := h.me u v ((hmem u v).1 m)
    exact ⟨a, _, _, hfwd u x hx, hfwd v y hy, e⟩
  · obtain ⟨x', hx', rfl⟩ := hback u x hx
    obtain ⟨y', hy', rfl⟩ := hback v y hy
    exact (h.re u v x' y' huv hx' hy' hc).mono fun a b m => (hmem a b).2 m
  · obtain ⟨y, hy, rfl⟩ := hback u x hx
    by_cases e : u = m
    · subst e
      rw [hxm] at hy
      obtain rfl := Option.some.inj hy
      refine .inr ⟨j, hj, Nat.lt_succ_self _, if_pos rfl, k3, h1, hid.symm⟩
    · have hng : ¬ Good l[j] y.ev := fun hg => e (by
        have : s.o.ids l[j].f6.f2 = some u := (h.id _ _).2 ⟨y, hy, hg.2.2.symm⟩
        rw [hm] at this
        exact (Option.some.inj this).symm)
      rcases h.dn u y hy with ⟨a, b⟩ | ⟨i, hi, a, b, c⟩
      · refine .inl ⟨by show (if u = m then _ else _) = _; rw [if_neg e]; exact a, fun i hi hij => ?_⟩
        rcases Nat.lt_or_eq_of_le (Nat.le_of_lt_succ hij) with e2 | e2
        · exact b i hi e2
        · subst e2
          exact hng
      · exact .inr ⟨i, hi, by omega, by show (if u = m then _ else _) = _; rw [if_neg e]; exact b, c⟩
  · obtain ⟨y, hy, rfl⟩ := hback v x hx
    have h2 := h.kn v y hy
    show y.waits = _
    rw [h2]
    unfold cntN
    rw [sumI_modify (named v) _ s.o.ws m xm hxm]
    have : named v (doneW xm j) = named v xm := rfl
    omega
/-- a write more -/
theorem IC.push {l : List Evt} {j : Nat} {s : Cs} (h : IC l j s) (H : Prp l) (hj : j < l.length) (wj : IsW l[j]) : IC l (j + 1) (collS s j l[j]) := by
  have hcs : collS s j l[j] = ⟨match s.last l[j].f1 with
      | none => pushS s.o j l[j]
      | some u => aheadS (pushS s.o j l[j]) u l[j].f3, putF s.last l[j].f1 s.o.ws.length⟩ := by
    unfold collS
    exact if_pos wj
  rw [hcs]
  obtain ⟨n, hn⟩ : ∃ n, s.o.ws.length = n := ⟨_, rfl⟩
  have hg1 : ∀ (u : Nat) x, (s.o.ws ++ [newSw j l[j]])[u]? = some x → (u < n ∧ s.o.ws[u]? = some x) ∨ (u = n ∧ x = newSw j l[j]) := fun u x hx => by
    by_cases hu : u < n
    · rw [List.getElem?_append_left (by omega)] at hx
      exact .inl ⟨hu, hx⟩
    · rw [List.getElem?_append_right (by omega)] at hx
      have := (List.getElem?_eq_some_iff.1 hx).1
      simp at this
      have e : u = n := by omega
      subst e
      rw [hn, Nat.sub_self] at hx
      exact .inr ⟨rfl, (Option.some.inj hx).symm⟩
  have hgo : ∀ (u : Nat) x, s.o.ws[u]? = some x → u < n ∧ (s.o.ws ++ [newSw j l[j]])[u]? = some x := fun u x hx => by
    have := (List.getElem?_eq_some_iff.1 hx).1
    exact ⟨by omega, by rw [List.getElem?_append_left this]; exact hx⟩
  have hgn : (s.o.ws ++ [newSw j l[j]])[n]? = some (newSw j l[j]) := by rw [← hn]; simp
  have hm1 : ∀ a b, Mem (s.o.ws ++ [newSw j l[j]]) a b ↔ Mem s.o.ws a b := fun a b => by
    constructor
    · rintro ⟨x, hx, hb⟩
      rcases hg1 a x hx with ⟨_, hx⟩ | ⟨_, rfl⟩
      · exact ⟨x, hx, hb⟩
      · cases hb
    · rintro ⟨x, hx, hb⟩
      exact ⟨x, (hgo a x hx).2, hb⟩
  have hk1 : Kn (s.o.ws ++ [newSw j l[j]]) := fun v x hx => by
    have hc : cntN (s.o.ws ++ [newSw j l[j]]) v = cntN s.o.ws v := by
      unfold cntN
      rw [sumI_app]
      simp [sumI, named, newSw]
    rw [hc]
    rcases hg1 v x hx with ⟨_, hx⟩ | ⟨e, rfl⟩
    · exact h.kn v x hx
    · rw [cnt_none (fun u m => by
        obtain ⟨_, _, y, _, hy, _⟩ := h.me u v m
        have := (List.getElem?_eq_some_iff.1 hy).1
        omega)]
      rfl
  obtain ⟨o2, ho2, hD, hM, hids, hk, hr⟩ : ∃ o2 : Os, (match s.last l[j].f1 with
      | none => pushS s.o j l[j]
      | some u => aheadS (pushS s.o j l[j]) u l[j].f3) = o2 ∧ SameD (s.o.ws ++ [newSw j l[j]]) o2.ws ∧ (∀ a b, Mem o2.ws a b ↔ Mem s.o.ws a b ∨ (s.last l[j].f1 = some a ∧ b = n)) ∧ o2.ids = putF s.o.ids l[j].f3 n ∧ Kn o2.ws ∧ o2.rnd = false := by
    cases hl : s.last l[j].f1 with
    | none => exact ⟨_, rfl, SameD.refl _, fun a b => by rw [show (pushS s.o j l[j]).ws = s.o.ws ++ [newSw j l[j]] from rfl, hm1]; exact ⟨.inl, fun h => h.elim (fun h => h) (fun h => by cases h.1)⟩, by rw [← hn]; rfl, hk1, h.rd⟩
    | some u0 =>
      obtain ⟨x0, hx0, hc0⟩ := h.la _ _ hl
      have hu0 := hgo u0 x0 hx0
      obtain ⟨_, _, _, _, _, _, hpl⟩ := h.w1 u0 x0 hx0
      have hi1 : (pushS s.o j l[j]).ids l[j].f3 = some n := by
        show (if l[j].f3 = l[j].f3 then some s.o.ws.length else _) = _
        rw [if_pos rfl, hn]
      refine ⟨_, rfl, SameD.aheadS (pushS s.o j l[j]) u0 l[j].f3, fun a b => ?_, ?_, Kn.aheadS (o := pushS s.o j l[j]) hk1 hu0.2 hpl _, ?_⟩
      · rw [mem_aheadS (o := pushS s.o j l[j]) (List.getElem?_eq_some_iff.1 hu0.2).1]
        rw [show (pushS s.o j l[j]).ws = s.o.ws ++ [newSw j l[j]] from rfl, hm1, hi1]
        constructor
        · rintro (m | ⟨rfl, _, e, _⟩)
          · exact .inl m
          · exact .inr ⟨rfl, (Option.some.inj e).symm⟩
        · rintro (m | ⟨e, rfl⟩)
          · exact .inl m
          · have := Option.some.inj e
            exact .inr ⟨this.symm, wj.2, rfl, by omega⟩
      · rw [ids_aheadS, ← hn]
        rfl
      · cases hb : (aheadS (pushS s.o j l[j]) u0 l[j].f3).rnd with
        | false => rfl
        | true =>
          rcases (rnd_aheadS _ _ _).1 hb with e | e
          · rw [show (pushS s.o j l[j]).rnd = s.o.rnd from rfl, h.rd] at e
            cases e
          · exact absurd e wj.2
  rw [ho2, hn]
  have hget : ∀ (u : Nat) x, o2.ws[u]? = some x → (u < n ∧ ∃ y, s.o.ws[u]? = some y ∧ x.ev = y.ev ∧ x.place = y.place ∧ x.done = y.done ∧ x.placed = y.placed) ∨ (u = n ∧ x.ev = l[j] ∧ x.place = (j : Int) ∧ x.done = -1 ∧ x.placed = false) := fun u x hx => by
    obtain ⟨y, hy, e⟩ := hD.get hx
    rcases hg1 u y hy with ⟨hu, hy⟩ | ⟨hu, rfl⟩
    · exact .inl ⟨hu, y, hy, e⟩
    · exact .inr ⟨hu, e⟩
  have hfwd : ∀ (u : Nat) y, s.o.ws[u]? = some y → ∃ x, o2.ws[u]? = some x ∧ x.ev = y.ev ∧ x.place = y.place ∧ x.done = y.done := fun u y hy => by
    obtain ⟨x, hx, e1, e2, e3, _⟩ := hD.symm.get (hgo u y hy).2
    exact ⟨x, hx, e1.symm, e2.symm, e3.symm⟩
  obtain ⟨xn, hxn, en1, en2, _⟩ := hD.symm.get hgn
  have en1 : xn.ev = l[j] := en1.symm
  have en2 : xn.place = (j : Int) := en2.symm
  refine ⟨fun u x hx => ?_, fun p hp hpj wp => ?_, fun u v x y huv hx hy => ?_, fun q u => ?_, fun c u hc => ?_, fun u x hx => ?_, fun u v m => ?_, fun u v x y huv hx hy hc => ?_, fun u x hx => ?_, hk, hr⟩
  · rcases hget u x hx with ⟨_, y, hy, e1, e2, _, e4⟩ | ⟨_, e1, e2, _, e4⟩
    · obtain ⟨p, hp, a, b1, b2, b3, b4⟩ := h.w1 u y hy
      exact ⟨p, hp, by omega, by omega, by rw [e1, b2], b3, by rw [e4, b4]⟩
    · exact ⟨j, hj, Nat.lt_succ_self _, e2, e1, wj, e4⟩
  · rcases Nat.lt_or_eq_of_le (Nat.le_of_lt_succ hpj) with e | e
    · obtain ⟨u, y, hy, hpl⟩ := h.w2 p hp e wp
      obtain ⟨x, hx, _, e2, _⟩ := hfwd u y hy
      exact ⟨u, x, hx, by omega⟩
    · subst e
      exact ⟨n, xn, hxn, en2⟩
  · rcases hget u x hx with ⟨hu, x', hx', _, e2, _⟩ | ⟨hu, _⟩
    · rcases hget v y hy with ⟨hv, y', hy', _, e4, _⟩ | ⟨hv, _, e4, _⟩
      · have := h.w3 u v x' y' huv hx' hy'
        omega
      · obtain ⟨p, hp, a, b1, _⟩ := h.w1 u x' hx'
        omega
    · have := (List.getElem?_eq_some_iff.1 hy).1
      rw [hD.len, List.length_append, List.length_singleton] at this
      omega
  · rw [hids]
    unfold putF
    by_cases hq : q = l[j].f3
    · rw [if_pos hq]
      constructor
      · intro e
        obtain rfl := Option.some.inj e
        exact ⟨xn, hxn, by rw [en1, hq]⟩
      · rintro ⟨x, hx, e⟩
        rcases hget u x hx with ⟨hu, y, hy, e1, _⟩ | ⟨hu, _⟩
        · obtain ⟨p, hp, a, _, b2, b3, _⟩ := h.w1 u y hy
          have := H.inj hp hj b3 wj (by rw [← b2, ← e1, e, hq])
          omega
        · rw [hu]
    · rw [if_neg hq]
      constructor
      · intro e
        obtain ⟨y, hy, e2⟩ := (h.id q u).1 e
        obtain ⟨x, hx, e1, _⟩ := hfwd u y hy
        exact ⟨x, hx, by rw [e1, e2]⟩
      · rintro ⟨x, hx, e⟩
        rcases hget u x hx with ⟨hu, y, hy, e1, _⟩ | ⟨hu, e1, _⟩
        · exact (h.id q u).2 ⟨y, hy, by rw [← e1, e]⟩
        · rw [e1] at e
          exact absurd e.symm hq
  · have hc' : (if c = l[j].f1 then some n else s.last c) = some u := hc
    split at hc'
    · rename_i e
      obtain rfl := Option.some.inj hc'
      exact ⟨xn, hxn, by rw [en1, e]⟩
    · obtain ⟨y, hy, e⟩ := h.la c u hc'
      obtain ⟨x, hx, e1, _⟩ := hfwd u y hy
      exact ⟨x, hx, by rw [e1, e]⟩
  · show ∃ v, (if x.ev.f1 = l[j].f1 then some n else s.last x.ev.f1) = some v ∧ u ≤ v
    have hun : u ≤ n := by
      have := (List.getElem?_eq_some_iff.1 hx).1
      rw [hD.len, List.length_append, List.length_singleton] at this
      omega
    split
    · exact ⟨n, rfl, hun⟩
    · rename_i e
      rcases hget u x hx with ⟨hu, y, hy, e1, _⟩ | ⟨hu, e1, _⟩
      · rw [e1]
        exact h.lb u y hy
      · rw [e1] at e
        exact absurd rfl e
  · rcases (hM u v).1 m with m | ⟨e, rfl⟩
    · obtain ⟨a, x, y, hx, hy, e⟩ := h.me u v m
      obtain ⟨x', hx', e1, _⟩ := hfwd u x hx
      obtain ⟨y', hy', e2, _⟩ := hfwd v y hy
      exact ⟨a, x', y', hx', hy', by rw [e1, e2, e]⟩
    · obtain ⟨y, hy, e2⟩ := h.la _ _ e
      obtain ⟨y', hy', e3, _⟩ := hfwd u y hy
      exact ⟨(hgo u y hy).1, y', xn, hy', hxn, by rw [e3, e2, en1]⟩
  · have hup : ∀ a b, Mem s.o.ws a b → Mem o2.ws a b := fun a b m => (hM a b).2 (.inl m)
    rcases hget u x hx with ⟨hu, x', hx', e1, _⟩ | ⟨hu, _⟩
    · rcases hget v y hy with ⟨hv, y', hy', e2, _⟩ | ⟨hv, e2, _⟩
      · exact (h.re u v x' y' huv hx' hy' (by rw [← e1, ← e2, hc])).mono hup
      · obtain ⟨v0, hv0, hle⟩ := h.lb u x' hx'
        have hcl : x'.ev.f1 = l[j].f1 := by rw [← e1, hc, e2]
        rw [hcl] at hv0
        have hlast : Mem o2.ws v0 v := (hM v0 v).2 (.inr ⟨hv0, hv⟩)
        obtain ⟨y0, hy0, e0⟩ := h.la _ _ hv0
        rcases Nat.lt_or_eq_of_le hle with e | e
        · exact .more ((h.re u v0 x' y0 e hx' hy0 (by rw [hcl, e0])).mono hup) hlast
        · subst e
          exact .one hlast
    · have := (List.getElem?_eq_some_iff.1 hy).1
      rw [hD.len, List.length_append, List.length_singleton] at this
      omega
  · rcases hget u x hx with ⟨hu, y, hy, e1, _, e3, _⟩ | ⟨hu, e1, _, e3, _⟩
    · rw [e1, e3]
      rcases h.dn u y hy with ⟨a, b⟩ | ⟨i, hi, a, b⟩
      · refine .inl ⟨a, fun i hi hij => ?_⟩
        rcases Nat.lt_or_eq_of_le (Nat.le_of_lt_succ hij) with e | e
        · exact b i hi e
        · subst e
          intro g
          have := g.1
          have := wj.1
          omega
      · exact .inr ⟨i, hi, by omega, b⟩
    · refine .inl ⟨e3, fun i hi hij g => ?_⟩
      rw [e1] at g
      have := (H.names hi hj g.1 wj g.2.2).1
      omega
end Go.Proofs.YtiibjgnmdieicaaGreat.Hist
/- lay: an order, as far as it goes. -/
namespace Go.Proofs.YtiibjgnmdieicaaGreat.Hist
open Go.RowKit Go.Proofs.YtiibjgnmdieicaaGreatW.PrintWords Go.Sort
theorem get_lower : ∀ (bh : List Nat) (ws : List Sw) (i : Nat), (bh.foldl lowerW ws)[i]? = (ws[i]?).map fun x => ⟨x.ev, x.place, x.done, x.waits - (bh.count i : Int), x.behind, x.placed⟩
  | [], ws, i => by
    show ws[i]? = _
    cases ws[i]? with
    | none => rfl
    | some x => simp
  | v :: r, ws, i => by
    show (r.foldl lowerW (lowerW ws v))[i]? = _
    rw [get_lower r, lowerW, List.getElem?_modify]
    cases ws[i]? with
    | none => rfl
    | some x =>
      by_cases e : v = i
      · subst e
        simp [waitsW]
        omega
      · simp [e]
theorem cnt_lower (ws : List Sw) (k v : Nat) : cntN (lowerW ws k) v = cntN ws v := by
  unfold cntN lowerW
  cases hy : ws[k]? with
  | none => rw [List.modify_eq_self (List.getElem?_eq_none_iff.1 hy)]
  | some y =>
    rw [sumI_modify (named v) _ ws k y hy]
    have : named v (waitsW y (-1)) = named v y := rfl
    omega
theorem cnt_fold : ∀ (bh : List Nat) (ws : List Sw) (v : Nat), cntN (bh.foldl lowerW ws) v = cntN ws v
  | [], _, _ => rfl
  | k :: r, ws, v => by
    show cntN (r.foldl lowerW (lowerW ws k)) v = _
    rw [cnt_fold r, cnt_lower]
theorem get_layW {ws : List Sw} {j : Nat} {xj : Sw} (hj : ws[j]? = some xj) (i : Nat) : (layW ws j)[i]? = (ws[i]?).map fun x => ⟨x.ev, x.place, x.done, x.waits - (xj.behind.count i : Int), x.behind, if i = j then true else x.placed⟩ := by
  unfold layW
  rw [hj]
  show (xj.behind.foldl lowerW (ws.modify j placeW))[i]? = _
  rw [get_lower, List.getElem?_modify]
  cases ws[i]? with
  | none => rfl
  | some x => by_cases e : j = i <;> simp_all [placeW, eq_comm]
theorem cnt_layW {ws : List Sw} {j : Nat} {xj : Sw} (hj : ws[j]? = some xj) (hp : xj.placed = false) (v : Nat) : cntN (layW ws j) v = cntN ws v - (xj.behind.count v : Int) := by
  unfold layW
  rw [hj]
  show cntN (xj.behind.foldl lowerW (ws.modify j placeW)) v = _
  rw [cnt_fold]
  unfold cntN
  rw [sumI_modify (named v) _ ws j xj hj]
  have h1 : named v (placeW xj) = 0 := by simp [named, placeW]
  have h2 : named v xj = (xj.behind.count v : Int) := by simp [named, hp]
  omega
theorem sumI_nonneg {α : Type} {g : α → Int} : ∀ {l : List α}, (∀ x ∈ l, 0 ≤ g x) → 0 ≤ sumI g l
  | [], _ => Int.le_refl _
  | x :: r, h => by
    have := sumI_nonneg (l := r) fun y hy => h y (List.mem_cons_of_mem _ hy)
    have := h x List.mem_cons_self
    simp only [sumI]
    omega
theorem sumI_zero {α : Type} {g : α → Int} : ∀ {l : List α}, (∀ x ∈ l, 0 ≤ g x) → sumI g l = 0 → ∀ x ∈ l, g x = 0
  | [], _, _ => fun x hx => (by cases hx)
  | x :: r, h, hs => fun y hy => by
    have h1 := sumI_nonneg (l := r) fun y hy => h y (List.mem_cons_of_mem _ hy)
    have h2 := h x List.mem_cons_self
    simp only [sumI] at hs
    rcases List.mem_cons.1 hy with rfl | hy
    · omega
    · exact sumI_zero (fun y hy => h y (List.mem_cons_of_mem _ hy)) (by omega) y hy
theorem named_nonneg (v : Nat) (x : Sw) : 0 ≤ named v x := by
  unfold named
  split <;> omega
/-- the writes of π are placed, in this order -/
structure KI (ws0 ws : List Sw) (pi : List Nat) : Prop where
  same : SameB ws0 ws
  kn : Kn ws
  plac : ∀ (u : Nat) x, ws[u]? = some x → (x.placed = true ↔ u ∈ pi)
  nd : pi.Nodup
  lt : ∀ u ∈ pi, u < ws.length
  ord : ∀ v ∈ pi, ∀ u, Mem ws0 u v → u ∈ pi ∧ pi.idxOf u < pi.idxOf v
theorem SameB.mem {ws0 ws : List Sw} (h : SameB ws0 ws) (u v : Nat) : Mem ws u v ↔ Mem ws0 u v := by
  have he := h.ev u
  constructor
  · rintro ⟨x, hx, hv⟩
    rw [hx] at he
    cases hy : ws0[u]? with
    | none => rw [hy] at he; cases he
    | some y =>
      rw [hy] at he
      simp only [Option.map_some, Option.some.injEq, Prod.mk.injEq] at he
      exact ⟨y, hy, by rw [← he.2]; exact hv⟩
  · rintro ⟨y, hy, hv⟩
    rw [hy] at he
    cases hx : ws[u]? with
    | none => rw [hx] at he; cases he
    | some x =>
      rw [hx] at he
      simp only [Option.map_some, Option.some.injEq, Prod.mk.injEq] at he
      exact ⟨x, hx, by rw [he.2]; exact hv⟩
theorem free_at {ws : List Sw} {j : Nat} (h : fidx freeB ws = (j : Int)) : ∃ x, ws[j]? = some x ∧ x.placed = false ∧ x.waits = 0 := by
  rcases fidx_find freeB ws with ⟨_, e⟩ | ⟨k, hk, hf, e⟩
  · rw [e] at h
    omega
  · have : k = j := by rw [e] at h; omega
    subst this
    have hb := List.find?_some hf
    unfold freeB at hb
    simp only [Bool.and_eq_true, Bool.not_eq_true', beq_iff_eq] at hb
    exact ⟨_, List.getElem?_eq_getElem hk, hb.1, hb.2⟩
theorem KI.step {ws0 ws : List Sw} {pi : List Nat} (h : KI ws0 ws pi) {j : Nat} (hf : fidx freeB ws = (j : Int)) : KI ws0 (layW ws j) (pi ++ [j]) := by
  obtain ⟨xj, hj, hp, hw⟩ := free_at hf
  have hjl := (List.getElem?_eq_some_iff.1 hj).1
  have hnj : j ∉ pi := fun e => by
    have := (h.plac j xj hj).2 e
    rw [hp] at this
    cases this
  have hget := fun i => get_layW hj i
  have hlen : (layW ws j).length = ws.length := by
    have hz : ∀ i : Nat, (layW ws j)[i]? = none ↔ ws[i]? = none := fun i => by rw [hget]; cases ws[i]? <;> simp
    have h1 := (hz ws.length).2 (List.getElem?_eq_none_iff.2 (Nat.le_refl _))
    have h2 := (hz (layW ws j).length).1 (List.getElem?_eq_none_iff.2 (Nat.le_refl _))
    have h1 := List.getElem?_eq_none_iff.1 h1
    have h2 := List.getElem?_eq_none_iff.1 h2
    omega
  refine ⟨⟨by rw [hlen]; exact h.same.len, fun i => ?_⟩, fun v x hx => ?_, fun u x hx => ?_, ?_, fun u hu => ?_, fun v hv u m => ?_⟩
  · rw [hget, ← h.same.ev i]
    cases ws[i]? <;> rfl
  · rw [hget] at hx
    cases hy : ws[v]? with
    | none => rw [hy] at hx; cases hx
    | some y =>
      rw [hy] at hx
      obtain rfl := Option.some.inj hx
      rw [cnt_layW hj hp]
      have := h.kn v y hy
      show y.waits - _ = _
      omega
  · rw [hget] at hx
    cases hy : ws[u]? with
    | none => rw [hy] at hx; cases hx
    | some y =>
      rw [hy] at hx
      obtain rfl := Option.some.inj hx
      show (if u = j then true else y.placed) = true ↔ _
      rw [List.mem_append, List.mem_singleton]
      by_cases e : u = j
      · simp [e]
      · rw [if_neg e]
        have := h.plac u y hy
        exact this.trans ⟨.inl, fun h => h.elim (fun h => h) (fun h => absurd h e)⟩
  · rw [List.nodup_append]
    exact ⟨h.nd, by simp, fun a ha b hb e => by
      simp only [List.mem_singleton] at hb
      subst hb
      subst e
      exact hnj ha⟩
  · rw [hlen]
    rcases List.mem_append.1 hu with hu | hu
    · exact h.lt u hu
    · simp only [List.mem_singleton] at hu
      omega
  · rcases List.mem_append.1 hv with hv | hv
    · obtain ⟨a, b⟩ := h.ord v hv u m
      refine ⟨List.mem_append_left _ a, ?_⟩
      rw [List.idxOf_append, if_pos a, List.idxOf_append, if_pos hv]
      exact b
    · simp only [List.mem_singleton] at hv
      subst hv
      obtain ⟨xu, hxu, hvu⟩ := (h.same.mem u v).2 m
      have hz := sumI_zero (g := named v) (l := ws) (fun x _ => named_nonneg v x) (by rw [← hw]; exact (h.kn v xj hj).symm) xu (List.mem_of_getElem? hxu)
      have hup : u ∈ pi := by
        refine (h.plac u xu hxu).1 ?_
        unfold named at hz
        split at hz
        · rename_i e
          exact e
        · have := List.count_pos_iff.2 hvu
          omega
      refine ⟨List.mem_append_left _ hup, ?_⟩
      rw [List.idxOf_append, if_pos hup, List.idxOf_append, if_neg hnj]
      have := List.idxOf_lt_length_of_mem hup
      omega
end Go.Proofs.YtiibjgnmdieicaaGreat.Hist
/- what the reads add to the order. -/
namespace Go.Proofs.YtiibjgnmdieicaaGreat.Hist
open Go.RowKit Go.Proofs.YtiibjgnmdieicaaGreatW.PrintWords Go.Sort
/-- no write is placed -/
def Unp (ws : List Sw) : Prop := ∀ (u : Nat) x, ws[u]? = some x → x.placed = false
theorem Unp.same {ws ws' : List Sw} (h : Unp ws) (k : SameD ws ws') : Unp ws' := fun u x hx => by
  obtain ⟨y, hy, _, _, _, e⟩ := k.get hx
  rw [e]
  exact h u y hy
/-- o' is o with constraints more, and maybe none any more -/
structure Rd (o o' : Os) (add : Nat → Nat → Prop) (bad : Prop) : Prop where
  same : SameD o.ws o'.ws
  ids : o'.ids = o.ids
  mem : ∀ a b, Mem o'.ws a b ↔ Mem o.ws a b ∨ add a b
  rnd : o'.rnd = true ↔ o.rnd = true ∨ bad
  kn : Kn o.ws → Unp o.ws → Kn o'.ws
theorem Rd.refl (o : Os) : Rd o o (fun _ _ => False) False := ⟨SameD.refl _, rfl, fun _ _ => by simp, by simp, fun h _ => h⟩
theorem Rd.trans {o o1 o2 : Os} {a1 a2 : Nat → Nat → Prop} {b1 b2 : Prop} (h : Rd o o1 a1 b1) (k : Rd o1 o2 a2 b2) : Rd o o2 (fun a b => a1 a b ∨ a2 a b) (b1 ∨ b2) :=
  ⟨h.same.trans k.same, k.ids.trans h.ids, fun a b => by rw [k.mem, h.mem]; exact or_assoc, by rw [k.rnd, h.rnd]; exact or_assoc, fun x y => k.kn (h.kn x y) (y.same h.same)⟩
theorem Rd.congr {o o' : Os} {a1 a2 : Nat → Nat → Prop} {b1 b2 : Prop} (h : Rd o o' a1 b1) (ha : ∀ a b, a1 a b ↔ a2 a b) (hb : b1 ↔ b2) : Rd o o' a2 b2 :=
  ⟨h.same, h.ids, fun a b => by rw [h.mem, ha], by rw [h.rnd, hb], h.kn⟩
theorem Rd.ahead {o : Os} {u : Nat} (hu : u < o.ws.length) (id : Int) : Rd o (aheadS o u id) (fun a b => a = u ∧ id ≠ 0 ∧ o.ids id = some b ∧ b ≠ u) (id = 0) :=
  ⟨SameD.aheadS _ _ _, ids_aheadS _ _ _, fun a b => mem_aheadS hu id a b, rnd_aheadS _ _ _, fun h1 h2 => h1.aheadS (List.getElem?_eq_getElem hu) (h2 u _ (List.getElem?_eq_getElem hu)) id⟩
/-- what a told list adds at a write -/
def AddU (ids : Int → Option Nat) (ws : List Sw) (vs : List Ver) (asked : Int) (a b : Nat) : Prop := ∃ x, ws[a]? = some x ∧ skipB x vs asked = false ∧ ∃ k ∈ vs, wroteB x.ev k.f0 = true ∧ k.f1 ≠ 0 ∧ ids k.f1 = some b ∧ b ≠ a
def BadU (ws : List Sw) (vs : List Ver) (asked : Int) (a : Nat) : Prop := ∃ x, ws[a]? = some x ∧ skipB x vs asked = false ∧ ∃ k ∈ vs, wroteB x.ev k.f0 = true ∧ k.f1 = 0
theorem skip_same {x y : Sw} (h1 : x.ev = y.ev) (h2 : x.done = y.done) (vs : List Ver) (asked : Int) : skipB x vs asked = skipB y vs asked := by
  unfold skipB
  rw [h1, h2]
theorem AddU.same {ids : Int → Option Nat} {ws ws' : List Sw} (h : SameD ws ws') (vs : List Ver) (asked : Int) (a b : Nat) : AddU ids ws' vs asked a b ↔ AddU ids ws vs asked a b := by
  constructor
  · rintro ⟨x, hx, hs, r⟩
    obtain ⟨y, hy, e1, _, e3, _⟩ := h.get hx
    exact ⟨y, hy, by rw [← skip_same e1 e3]; exact hs, by rw [← e1]; exact r⟩
  · rintro ⟨x, hx, hs, r⟩
    obtain ⟨y, hy, e1, _, e3, _⟩ := h.symm.get hx
    exact ⟨y, hy, by rw [← skip_same e1 e3]; exact hs, by rw [← e1]; exact r⟩
theorem BadU.same {ws ws' : List Sw} (h : SameD ws ws') (vs : List Ver) (asked : Int) (a : Nat) : BadU ws' vs asked a ↔ BadU ws vs asked a := by
  constructor
  · rintro ⟨x, hx, hs, r⟩
    obtain ⟨y, hy, e1, _, e3, _⟩ := h.get hx
    exact ⟨y, hy, by rw [← skip_same e1 e3]; exact hs, by rw [← e1]; exact r⟩
  · rintro ⟨x, hx, hs, r⟩
    obtain ⟨y, hy, e1, _, e3, _⟩ := h.symm.get hx
    exact ⟨y, hy, by rw [← skip_same e1 e3]; exact hs, by rw [← e1]; exact r⟩
end Go.Proofs.YtiibjgnmdieicaaGreat.Hist
/- what the judge hears of a proper history. -/
namespace Go.Proofs.YtiibjgnmdieicaaGreat.Hist
open Go.RowKit Go.Proofs.YtiibjgnmdieicaaGreatW.PrintWords Go.Sort
def heN (l : List Evt) : Nat → Hs
  | 0 => hs0
  | j + 1 => match l[j]? with
    | none => heN l j
    | some x => hearS (heN l j) j x
theorem heN_succ {l : List Evt} {j : Nat} (h : j < l.length) : heN l (j + 1) = hearS (heN l j) j l[j] := by
  show (match l[j]? with | none => heN l j | some x => hearS (heN l j) j x) = _
  rw [List.getElem?_eq_getElem h]
theorem heN_all (l : List Evt) : hearAll l 0 hs0 = heN l l.length := by
  have key : ∀ j, j ≤ l.length → hearAll l 0 hs0 = hearAll (l.drop j) j (heN l j) := by
    intro j
    induction j with
    | zero => intro _; rfl
    | succ j ih =>
      intro hj
      rw [heN_succ (by omega)]
      exact hear_step (by omega) (ih (by omega))
  rw [key l.length (Nat.le_refl _), List.drop_of_length_le (Nat.le_refl _)]
  rfl
/-- a good answer to a write -/
def Okd (l : List Evt) (w k : Nat) (hw : w < l.length) (hk : k < l.length) : Prop := l[k].f0 = 3 ∧ l[k].f1 = l[w].f1 ∧ l[k].f2 = l[w].f2 ∧ l[k].f6.f1 = 1
structure HC (l : List Evt) (j : Nat) (s : Hs) : Prop where
  h1 : ∀ w (hw : w < l.length), w < j → IsW l[w] → ∃ (n : Nat) (y : Wr), s.by_ (qOf l[w]) = some n ∧ s.ws[n]? = some y ∧ y.place = (w : Int) ∧ ∀ k (hk : k < l.length), k < j → Okd l w k hw hk → y.res = 1 ∧ y.done = (k : Int)
  h2 : ∀ (n : Nat) y, s.ws[n]? = some y → ∃ w, ∃ hw : w < l.length, w < j ∧ IsW l[w] ∧ y.id = l[w].f3 ∧ y.place = (w : Int) ∧ y.keys = normK l[w]
  h3 : ∀ p (hp : p < l.length), p < j → l[p].f0 ≠ 3 → s.at_ (qOf l[p]) = some (p : Int)
  h4 : ∀ q n, s.by_ q = some n → ∃ w, ∃ hw : w < l.length, w < j ∧ IsW l[w] ∧ qOf l[w] = q ∧ ∃ y, s.ws[n]? = some y ∧ y.place = (w : Int)
theorem q_eq {a b : Evt} (h : qOf a = qOf b) : a.f1 = b.f1 ∧ a.f2 = b.f2 := by
  unfold qOf at h
  exact ⟨congrArg Prod.fst h, congrArg Prod.snd h⟩
theorem q_mk {a b : Evt} (h1 : a.f1 = b.f1) (h2 : a.f2 = b.f2) : qOf a = qOf b := by
  unfold qOf
  rw [h1, h2]
theorem hear_inv {l : List Evt} (H : Prp l) (hpb : properB l = true) : ∀ j, j ≤ l.length → HC l j (heN l j)
  | 0, _ => ⟨fun w _ hw => absurd hw (Nat.not_lt_zero _), fun n y hy => by simp [heN, hs0] at hy, fun p _ hp => absurd hp (Nat.not_lt_zero _), fun q n h => by cases h⟩
  | j + 1, hj => by
    have h := hear_inv H hpb j (by omega)
    have hl : j < l.length := by omega
    rw [heN_succ hl]
    have hat : ∀ f : Int × Int → Option Int, (∀ p (hp : p < l.length), p < j → l[p].f0 ≠ 3 → f (qOf l[p]) = some (p : Int)) → l[j].f0 ≠ 3 → ∀ p (hp : p < l.length), p < j + 1 → l[p].f0 ≠ 3 → putF f (qOf l[j]) (j : Int) (qOf l[p]) = some (p : Int) := fun f hf k3 p hp hpj hk => by
      unfold putF
      split
      · rename_i e
        obtain ⟨e1, e2⟩ := q_eq e
        rw [H.uniq hp hl hk k3 e1 e2]
      · rename_i e
        rcases Nat.lt_or_eq_of_le (Nat.le_of_lt_succ hpj) with e2 | e2
        · exact hf p hp e2 hk
        · subst e2
          exact absurd rfl e
    unfold hearS
    by_cases k1 : l[j].f0 = 1
    · rw [if_pos k1]
      have k3 : l[j].f0 ≠ 3 := by omega
      have hno : ∀ w (hw : w < l.length), w < j → ¬ Okd l w j hw hl := fun w hw _ o => k3 o.1
      by_cases k0 : l[j].f3 = 0
      · rw [if_pos k0]
        refine ⟨fun w hw hwj iw => ?_, fun n y hy => ?_, hat _ h.h3 k3, fun q n hq => ?_⟩
        · rcases Nat.lt_or_eq_of_le (Nat.le_of_lt_succ hwj) with e | e
          · obtain ⟨n, y, a1, a2, a3, a4⟩ := h.h1 w hw e iw
            refine ⟨n, y, a1, a2, a3, fun k hk hkj o => ?_⟩
            rcases Nat.lt_or_eq_of_le (Nat.le_of_lt_succ hkj) with e2 | e2
            · exact a4 k hk e2 o
            · subst e2
              exact absurd o (hno w hw e)
          · subst e
            exact absurd k0 iw.2
        · obtain ⟨w, hw, a, b⟩ := h.h2 n y hy
          exact ⟨w, hw, by omega, b⟩
        · obtain ⟨w, hw, a, b⟩ := h.h4 q n hq
          exact ⟨w, hw, by omega, b⟩
      · rw [if_neg k0]
        have iwj : IsW l[j] := ⟨k1, k0⟩
        have hgl : ∀ (n : Nat) (y : Wr), (heN l j).ws[n]? = some y → ((heN l j).ws ++ [newW j l[j]])[n]? = some y := fun n y hy => by
          rw [List.getElem?_append_left (List.getElem?_eq_some_iff.1 hy).1]
          exact hy
        have hgn : ((heN l j).ws ++ [newW j l[j]])[(heN l j).ws.length]? = some (newW j l[j]) := by simp
        have hne : ∀ w (hw : w < l.length), w < j → IsW l[w] → qOf l[w] ≠ qOf l[j] := fun w hw hwj iw e => by
          obtain ⟨e1, e2⟩ := q_eq e
          have := H.uniq hw hl (by rw [iw.1]; decide) k3 e1 e2
          omega
        refine ⟨fun w hw hwj iw => ?_, fun n y hy => ?_, hat _ h.h3 k3, fun q n hq => ?_⟩
        · rcases Nat.lt_or_eq_of_le (Nat.le_of_lt_succ hwj) with e | e
          · obtain ⟨n, y, a1, a2, a3, a4⟩ := h.h1 w hw e iw
            refine ⟨n, y, ?_, hgl n y a2, a3, fun k hk hkj o => ?_⟩
            · show putF _ _ _ _ = _
              unfold putF
              rw [if_neg (hne w hw e iw)]
              exact a1
            · rcases Nat.lt_or_eq_of_le (Nat.le_of_lt_succ hkj) with e2 | e2
              · exact a4 k hk e2 o
              · subst e2
                exact absurd o (hno w hw e)
          · subst e
            refine ⟨_, newW w l[w], ?_, hgn, rfl, fun k hk hkj o => ?_⟩
            · show putF _ _ _ _ = _
              unfold putF
              rw [if_pos rfl]
            · obtain ⟨p, hp, hlt, hr, hc, ht, _⟩ := H.req k hk o.1
              have := H.uniq hp hl hr k3 (hc.trans o.2.1) (ht.trans o.2.2.1)
              omega
        · have hy' : ((heN l j).ws ++ [newW j l[j]])[n]? = some y := hy
          by_cases hn : n < (heN l j).ws.length
          · rw [List.getElem?_append_left hn] at hy'
            obtain ⟨w, hw, a, b⟩ := h.h2 n y hy'
            exact ⟨w, hw, by omega, b⟩
          · rw [List.getElem?_append_right (by omega)] at hy'
            have := (List.getElem?_eq_some_iff.1 hy').1
            simp at this
            have e0 : n - (heN l j).ws.length = 0 := by omega
            rw [e0] at hy'
            obtain rfl := Option.some.inj hy'
            exact ⟨j, hl, Nat.lt_succ_self _, iwj, rfl, rfl, rfl⟩
        · have hq' : (if q = qOf l[j] then some (heN l j).ws.length else (heN l j).by_ q) = some n := hq
          split at hq'
          · rename_i e
            obtain rfl := Option.some.inj hq'
            exact ⟨j, hl, Nat.lt_succ_self _, iwj, e.symm, _, hgn, rfl⟩
          · obtain ⟨w, hw, a, b1, b2, y, b3, b4⟩ := h.h4 q n hq'
            exact ⟨w, hw, by omega, b1, b2, y, hgl n y b3, b4⟩
    · rw [if_neg k1]
      by_cases k2 : l[j].f0 = 2
      · rw [if_pos k2]
        have k3 : l[j].f0 ≠ 3 := by omega
        refine ⟨fun w hw hwj iw => ?_, fun n y hy => ?_, hat _ h.h3 k3, fun q n hq => ?_⟩
        · rcases Nat.lt_or_eq_of_le (Nat.le_of_lt_succ hwj) with e | e
          · obtain ⟨n, y, a1, a2, a3, a4⟩ := h.h1 w hw e iw
            refine ⟨n, y, a1, a2, a3, fun k hk hkj o => ?_⟩
            rcases Nat.lt_or_eq_of_le (Nat.le_of_lt_succ hkj) with e2 | e2
            · exact a4 k hk e2 o
            · subst e2
              exact absurd o.1 k3
          · subst e
            exact absurd iw.1 k1
        · obtain ⟨w, hw, a, b⟩ := h.h2 n y hy
          exact ⟨w, hw, by omega, b⟩
        · obtain ⟨w, hw, a, b⟩ := h.h4 q n hq
          exact ⟨w, hw, by omega, b⟩
      · rw [if_neg k2]
        have k3 : l[j].f0 = 3 := by
          rcases (H.kind j hl).1 with e | e | e
          · exact absurd e k1
          · exact absurd e k2
          · exact e
        have h3' : ∀ p (hp : p < l.length), p < j + 1 → l[p].f0 ≠ 3 → (heN l j).at_ (qOf l[p]) = some (p : Int) := fun p hp hpj hk => by
          rcases Nat.lt_or_eq_of_le (Nat.le_of_lt_succ hpj) with e | e
          · exact h.h3 p hp e hk
          · subst e
            exact absurd k3 hk
        cases hby : (heN l j).by_ (qOf l[j]) with
        | none =>
          show HC l (j + 1) (heN l j)
          refine ⟨fun w hw hwj iw => ?_, fun n y hy => ?_, h3', fun q n hq => ?_⟩
          · rcases Nat.lt_or_eq_of_le (Nat.le_of_lt_succ hwj) with e | e
            · obtain ⟨n, y, a1, a2, a3, a4⟩ := h.h1 w hw e iw
              refine ⟨n, y, a1, a2, a3, fun k hk hkj o => ?_⟩
              rcases Nat.lt_or_eq_of_le (Nat.le_of_lt_succ hkj) with e2 | e2
              · exact a4 k hk e2 o
              · subst e2
                rw [← q_mk o.2.1 o.2.2.1, hby] at a1
                cases a1
            · subst e
              exact absurd iw.1 k1
          · obtain ⟨w, hw, a, b⟩ := h.h2 n y hy
            exact ⟨w, hw, by omega, b⟩
          · obtain ⟨w, hw, a, b⟩ := h.h4 q n hq
            exact ⟨w, hw, by omega, b⟩
        | some m =>
          show HC l (j + 1) ⟨(heN l j).ws.modify m fun w => ⟨w.place, w.id, w.pairs, w.keys, l[j].f6.f1, j⟩, (heN l j).at_, (heN l j).by_⟩
          have hget : ∀ n : Nat, ((heN l j).ws.modify m fun w => ⟨w.place, w.id, w.pairs, w.keys, l[j].f6.f1, j⟩)[n]? = ((heN l j).ws[n]?).map fun w : Wr => if n = m then ⟨w.place, w.id, w.pairs, w.keys, l[j].f6.f1, j⟩ else w := fun n => by
            rw [List.getElem?_modify]
            cases (heN l j).ws[n]? with
            | none => rfl
            | some y =>
              by_cases e : m = n
              · subst e
                simp
              · have e' : ¬ n = m := fun h => e h.symm
                simp [e, e']
          refine ⟨fun w hw hwj iw => ?_, fun n y hy => ?_, h3', fun q n hq => ?_⟩
          · rcases Nat.lt_or_eq_of_le (Nat.le_of_lt_succ hwj) with e | e
            · obtain ⟨n, y, a1, a2, a3, a4⟩ := h.h1 w hw e iw
              by_cases em : n = m
              · subst em
                refine ⟨n, ⟨y.place, y.id, y.pairs, y.keys, l[j].f6.f1, j⟩, a1, ?_, a3, fun k hk hkj o => ?_⟩
                · show ((heN l j).ws.modify n _)[n]? = _
                  rw [hget, a2]
                  show some (if n = n then _ else _) = _
                  rw [if_pos rfl]
                · obtain ⟨w', hw', a, iw', b2, y', b3, b4⟩ := h.h4 _ _ hby
                  rw [a2] at b3
                  obtain rfl := Option.some.inj b3
                  have ew : w' = w := by omega
                  subst ew
                  obtain ⟨e1, e2⟩ := q_eq b2
                  rcases Nat.lt_trichotomy k j with ek | ek | ek
                  · exact (once hpb hk hl ek o.1 k3 (o.2.1.trans e1) (o.2.2.1.trans e2)).elim
                  · subst ek
                    exact ⟨o.2.2.2, rfl⟩
                  · omega
              · refine ⟨n, y, a1, ?_, a3, fun k hk hkj o => ?_⟩
                · show ((heN l j).ws.modify m _)[n]? = _
                  rw [hget, a2]
                  show some (if n = m then _ else _) = _
                  rw [if_neg em]
                · rcases Nat.lt_or_eq_of_le (Nat.le_of_lt_succ hkj) with e2 | e2
                  · exact a4 k hk e2 o
                  · subst e2
                    rw [← q_mk o.2.1 o.2.2.1, hby] at a1
                    exact absurd (Option.some.inj a1).symm em
            · subst e
              exact absurd iw.1 k1
          · have hy' : ((heN l j).ws.modify m fun w => ⟨w.place, w.id, w.pairs, w.keys, l[j].f6.f1, j⟩)[n]? = some y := hy
            rw [hget] at hy'
            cases hz : (heN l j).ws[n]? with
            | none => rw [hz] at hy'; cases hy'
            | some z =>
              rw [hz] at hy'
              obtain rfl := Option.some.inj hy'
              obtain ⟨w, hw, a, b1, b2, b3, b4⟩ := h.h2 n z hz
              refine ⟨w, hw, by omega, b1, ?_, ?_, ?_⟩
              · split <;> exact b2
              · split <;> exact b3
              · split <;> exact b4
          · obtain ⟨w, hw, a, b1, b2, y, b3, b4⟩ := h.h4 q n hq
            refine ⟨w, hw, by omega, b1, b2, if n = m then ⟨y.place, y.id, y.pairs, y.keys, l[j].f6.f1, j⟩ else y, ?_, ?_⟩
            · show ((heN l j).ws.modify m _)[n]? = _
              rw [hget, b3]
              rfl
            · split <;> exact b4
theorem compact_all {α : Type} [Inhabited α] [DecidableEq α] (d : Array α) : ∀ m, ∀ j, j < m → d[j]! ∈ Lib.compactUpTo d m
  | 0, j, h => absurd h (Nat.not_lt_zero j)
  | m + 1, j, h => by
    rw [Lib.compactUpTo_succ]
    rcases Nat.lt_or_eq_of_le (Nat.le_of_lt_succ h) with e | e
    · exact List.mem_append_left _ (compact_all d m j e)
    · subst e
      cases hk : Lib.keeps d j with
      | true => simp
      | false =>
        unfold Lib.keeps at hk
        cases j with
        | zero => simp at hk
        | succ i =>
          have : d[i + 1]! = d[i]! := by simpa using hk
          rw [this]
          exact List.mem_append_left _ (compact_all d (i + 1) i (Nat.lt_succ_self _))
theorem mem_comp {z : List (List UInt8)} {t : List UInt8} (h : t ∈ z) : t ∈ Lib.compact z := by
  obtain ⟨j, hj, rfl⟩ := List.getElem_of_mem h
  have := compact_all z.toArray z.length j hj
  have e : z.toArray[j]! = z[j] := by simp [hj]
  rw [e] at this
  exact this
theorem mem_norm {e : Evt} {k : ByteArray} (h : wroteB e k = true) : ((normK e).any fun y => eqS k y) = true := by
  unfold wroteB at h
  obtain ⟨p, hp, he⟩ := List.any_eq_true.1 h
  refine List.any_eq_true.2 ⟨p.f0, ?_, by unfold eqS at he ⊢; rw [beq_iff_eq] at he ⊢; exact he.symm⟩
  unfold normK compS sortS
  have hm : (txt p.f0) ∈ (((e.f4.map fun p => p.f0).map txt).mergeSort fun x y => decide (x ≤ y)) := by
    rw [List.mem_mergeSort]
    exact List.mem_map.2 ⟨p.f0, List.mem_map.2 ⟨p, hp, rfl⟩, rfl⟩
  have h2 : ((((e.f4.map fun p => p.f0).map txt).mergeSort fun x y => decide (x ≤ y)).map strOf).map txt = ((e.f4.map fun p => p.f0).map txt).mergeSort fun x y => decide (x ≤ y) := by
    rw [List.map_map]
    exact (List.map_congr_left (fun x _ => txt_strOf x)).trans (List.map_id _)
  rw [h2]
  refine List.mem_map.2 ⟨txt p.f0, ?_, strOf_txt _⟩
  exact mem_comp hm
end Go.Proofs.YtiibjgnmdieicaaGreat.Hist
/- constraints: what the order's are, and that they go up where the judge finds nothing. -/
namespace Go.Proofs.YtiibjgnmdieicaaGreat.Hist
open Go.RowKit Go.Proofs.YtiibjgnmdieicaaGreatW.PrintWords Go.Sort
def firstI (l : List Evt) (e : Evt) : Nat := l.findIdx fun x => x.f1 == e.f1 && x.f2 == e.f2
def BelowP (l : List Evt) (w i q : Nat) (hw : w < l.length) (hi : i < l.length) : Prop := (∃ k ∈ l[i].f6.f3, k.f1 = l[w].f3) ∨ ∃ k, ∃ hk : k < l.length, w ≤ k ∧ k < q ∧ Okd l w k hw hk
/-- a constraint of a read -/
def TieR (l : List Evt) (a b : Int) : Prop := ∃ i, ∃ hi : i < l.length, ∃ w, ∃ hw : w < l.length, w < i ∧ IsW l[w] ∧ BelowP l w i (firstI l l[i]) hw hi ∧ ∃ k ∈ l[i].f6.f3, k.f1 ≠ l[w].f3 ∧ wroteB l[w] k.f0 = true ∧ a = l[w].f3 ∧ b = k.f1
section
variable {l : List Evt} {s : Cs}
end
def tornC (ws : List Wr) (key : ByteArray) (place : Int) (u : Ver) : Bool := match findW ws u.f1 with
  | none => false
  | some x => decide (x.place < place) && (x.keys.any fun y => eqS key y)
theorem tornS_eq (ws : List Wr) (key : ByteArray) (place o : Int) (u : Ver) : tornS ws key place o u = if (decide (o < u.f1) && tornC ws key place u) = true then u.f1 else o := rfl
end Go.Proofs.YtiibjgnmdieicaaGreat.Hist
/- Order: what it tells, in plain words. -/
namespace Go.Proofs.YtiibjgnmdieicaaGreat.Hist
open Go.RowKit Go.Proofs.YtiibjgnmdieicaaGreatW.PrintWords Go.Sort
section
variable {l : List Evt}
/-- all about the order in the making behind the reads -/
structure OF (l : List Evt) (s : Cs) (o : Os) : Prop where
  same : SameD s.o.ws o.ws
  me : ∀ a b, Mem o.ws a b → Mem s.o.ws a b ∨ ∃ x y, s.o.ws[a]? = some x ∧ s.o.ws[b]? = some y ∧ TieR l x.ev.f3 y.ev.f3
  up : ∀ a b, Mem s.o.ws a b → Mem o.ws a b
  tie : ∀ a b, TieR l a b → o.rnd = false → ∃ (u v : Nat) (x y : Sw), s.o.ws[u]? = some x ∧ s.o.ws[v]? = some y ∧ x.ev.f3 = a ∧ y.ev.f3 = b ∧ Mem o.ws u v
  bad : o.rnd = true → ∃ a, TieR l a 0
  kn : Kn o.ws
end
end Go.Proofs.YtiibjgnmdieicaaGreat.Hist
