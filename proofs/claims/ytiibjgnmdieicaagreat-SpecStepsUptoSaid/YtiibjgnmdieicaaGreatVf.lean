/- a proper history, as the document has it: place by place. -/
import Derived.Test.YtiibjgnmdieicaaGreatUb
import Derived.Test.YtiibjgnmdieicaaGreatVa
import Derived.Test.YtiibjgnmdieicaaGreatVb
import Derived.Test.YtiibjgnmdieicaaGreatVc
namespace Go.Proofs.YtiibjgnmdieicaaGreat.Hist
open Go.RowKit Go.Proofs.YtiibjgnmdieicaaGreatW.PrintWords Go.Sort
theorem may_facts {x : Evt} (h : mayB x = true) : 0 ≤ x.f1 ∧ 1 ≤ x.f2 ∧ (x.f0 = 1 ∨ x.f0 = 2 ∨ x.f0 = 3) ∧ (x.f0 = 2 → x.f3 = 0) ∧ (x.f0 = 3 → 1 ≤ x.f6.f1 ∧ x.f6.f1 ≤ 6) := by
  unfold mayB at h
  split at h
  · cases h
  · rename_i g
    refine ⟨by omega, by omega, ?_, ?_, ?_⟩
    · split at h
      · exact .inl (by assumption)
      · split at h
        · exact .inr (.inl (by assumption))
        · split at h
          · exact .inr (.inr (by assumption))
          · cases h
    · intro e
      rw [if_neg (by omega), if_pos e] at h
      simp only [Bool.and_eq_true, beq_iff_eq] at h
      exact h.1.1
    · intro e
      rw [if_neg (by omega), if_neg (by omega), if_pos e] at h
      unfold may3 at h
      split at h
      · cases h
      · omega
theorem rw_eq {q : Evt} {a : Ans} (h1 : 1 ≤ a.f1) (h6 : a.f1 ≤ 6) : rwB q a = writtenB q a := by
  unfold rwB writtenB
  by_cases e : 0 < a.f3.length
  · rw [if_pos e, show ((a.f3.length : Int) == 0) = false from by rw [beq_eq_false_iff_ne]; omega, Bool.and_false]
  · rw [if_neg e, show ((a.f3.length : Int) == 0) = true from by rw [beq_iff_eq]; omega, Bool.and_true]
    by_cases g : a.f2 = q.f3
    · rw [if_neg (by simp [g]), g]
      obtain k | k | k | k | k | k : a.f1 = 1 ∨ a.f1 = 2 ∨ a.f1 = 3 ∨ a.f1 = 4 ∨ a.f1 = 5 ∨ a.f1 = 6 := by omega
      all_goals
        rw [k]
        cases d : (q.f3 == 0) <;> simp [d, bne]
    · rw [if_pos g, show (a.f2 == q.f3) = false from by rw [beq_eq_false_iff_ne]; exact g]
      rfl
theorem rr_eq {q : Evt} {a : Ans} {b : Bool} (h1 : 1 ≤ a.f1) (h6 : a.f1 ≤ 6) : rrB q a b = readB q a b := by
  unfold rrB readB
  by_cases g : a.f2 = 0
  · rw [if_neg (by simp [g] : ¬ a.f2 ≠ 0)]
    obtain k | k | k | k | k | k : a.f1 = 1 ∨ a.f1 = 2 ∨ a.f1 = 3 ∨ a.f1 = 4 ∨ a.f1 = 5 ∨ a.f1 = 6 := by omega
    all_goals
      rw [k]
      cases b <;> simp [g]
  · rw [if_pos (by simp [g]), if_pos g]
theorem rqC_iff {c : Int} {y : Evt} : rqC c y = true ↔ y.f0 ≠ 3 ∧ y.f1 = c := by
  unfold rqC
  simp only [Bool.and_eq_true, bne_iff_ne, beq_iff_eq, ne_eq]
structure InvR (l : List Evt) (j : Nat) : Prop where
  len : ∀ c : Nat, (stN l j c).rqs.length = cntR l c j
  las : ∀ c : Nat, (stN l j c).last = lastR l c j
  get : ∀ (c t : Nat) (q : Rq), (stN l j c).rqs[t]? = some q → ∃ p, ∃ hp : p < l.length, p < j ∧ q.ev = l[p] ∧ q.place = p ∧ l[p].f0 ≠ 3 ∧ l[p].f1 = c ∧ l[p].f2 = t + 1 ∧ (∀ u (hu : u < l.length), u < j → l[u].f0 ≠ 3 → l[u].f1 = c → l[u].f2 = t + 1 → u = p) ∧
    (q.ans = true ↔ ∃ i, ∃ hi : i < l.length, i < j ∧ l[i].f0 = 3 ∧ l[i].f1 = c ∧ l[i].f2 = t + 1)
  has : ∀ p (hp : p < l.length), p < j → l[p].f0 ≠ 3 → l[p].f2 ≤ (stN l j l[p].f1.toNat).rqs.length
  an : ∀ i (hi : i < l.length), i < j → l[i].f0 = 3 → ∃ p, ∃ hp : p < l.length, p < i ∧ reqB l[i] l[p] = true
  nn : ∀ c : Int, 0 ≤ lastR l c j
theorem wrap_next {l : List Evt} {p j : Nat} (hn : l.length ≤ 9223372036854775807) (hp : p < l.length) : ((j : Int) == IntKind.i64.wrap ((p : Int) + 1)) = decide (p + 1 = j) := by
  rw [IntWalk.i64_in _ (by omega), Bool.eq_iff_iff, beq_iff_eq, decide_eq_true_eq]
  omega
/-- one step of Proper, as the document has it -/
theorem step_iff {l : List Evt} {j : Nat} (hn : l.length ≤ 9223372036854775807) (hj : j < l.length) (hv : InvR l j) (hm : mayB l[j] = true) : stepB (stN l j) l[j] l[j + 1]? j = true ↔ RStep l j l[j] l[j + 1]? := by
  obtain ⟨m1, m2, m3, m4, m5⟩ := may_facts hm
  have hc : ((l[j].f1.toNat : Nat) : Int) = l[j].f1 := by omega
  have hT : l[j].f2 = (((l[j].f2 - 1).toNat : Nat) : Int) + 1 := by omega
  unfold stepB RStep
  rw [hm, Bool.true_and]
  by_cases k3 : l[j].f0 = 3
  · rw [if_pos k3, if_pos k3]
    obtain ⟨a1, a6⟩ := m5 k3
    unfold ansB
    have e1 := hv.len l[j].f1.toNat
    constructor
    · intro h
      split at h
      · cases h
      · split at h
        · cases h
        · rename_i q hq
          split at h
          · cases h
          · rename_i hna
            obtain ⟨p, hp, b1, b2, b3, b4, b5, b6, b7, b8⟩ := hv.get _ _ q hq
            have b6' : l[p].f2 = l[j].f2 := by omega
            have b5' : l[p].f1 = l[j].f1 := by omega
            refine ⟨p, hp, b1, reqB_iff.2 ⟨b4, b5', b6'⟩, ?_, ?_, ?_⟩
            · intro t ht htp
              rw [← Bool.not_eq_true, reqB_iff]
              rintro ⟨c1, c2, c3⟩
              have := b7 t ht (by omega) c1 (by omega) (by omega)
              omega
            · intro i hi _ hij
              rw [← Bool.not_eq_true, okA_iff]
              rintro ⟨c1, c2, c3⟩
              exact hna (b8.2 ⟨i, hi, hij, c1, c2.trans hc.symm, c3.trans hT⟩)
            · rw [rw_eq a1 a6, rr_eq a1 a6]
              rw [b2, b3] at h
              have e := wrap_next hn hp (j := j)
              rw [e] at h
              exact h
    · rintro ⟨k, hk, b1, b2, b3, b4, b5⟩
      obtain ⟨c1, c2, c3⟩ := reqB_iff.1 b2
      have hh := hv.has k hk b1 c1
      rw [c2, c3] at hh
      rw [if_neg (by omega)]
      split
      · rename_i hq
        rw [List.getElem?_eq_none_iff] at hq
        omega
      · rename_i q hq
        obtain ⟨p, hp, d1, d2, d3, d4, d5, d6, d7, d8⟩ := hv.get _ _ q hq
        obtain rfl := d7 k hk b1 c1 (c2.trans hc.symm) (c3.trans hT)
        rw [if_neg]
        · rw [rw_eq a1 a6, rr_eq a1 a6] at b5
          rw [d2, d3]
          have e := wrap_next hn hk (j := j)
          rw [e]
          exact b5
        · intro ha
          obtain ⟨i, hi, g1, g2, g3, g4⟩ := d8.1 ha
          obtain ⟨u, hu, u1, u2⟩ := hv.an i hi g1 g2
          obtain ⟨v1, v2, v3⟩ := reqB_iff.1 u2
          obtain rfl := d7 u hu (Nat.lt_trans u1 g1) v1 (v2.trans g3) (v3.trans g4)
          have := b4 i hi (Nat.le_of_lt u1) g1
          rw [okA_iff.2 ⟨g2, g3.trans hc, g4.trans hT.symm⟩] at this
          cases this
  · rw [if_neg k3, if_neg k3]
    unfold asksB raskB idB
    rw [hv.len, hv.las, hc]
theorem inv_r {l : List Evt} (hn : l.length ≤ 9223372036854775807) : ∀ j, j ≤ l.length → (∀ i (hi : i < l.length), i < j → stepB (stN l i) l[i] l[i + 1]? i = true) → InvR l j
  | 0, _, _ => ⟨fun _ => rfl, fun _ => rfl, fun c t q hq => by simp [stN, cl0] at hq, fun p _ hp => absurd hp (Nat.not_lt_zero p), fun p _ hp => absurd hp (Nat.not_lt_zero p), fun _ => Int.le_refl _⟩
  | j + 1, hj, hs => by
    have hl : j < l.length := by omega
    have hv := inv_r hn j (by omega) fun i hi hij => hs i hi (by omega)
    have h1 := hs j hl (Nat.lt_succ_self j)
    have hm : mayB l[j] = true := by
      unfold stepB at h1
      rw [Bool.and_eq_true] at h1
      exact h1.1
    have h2 := (step_iff hn hl hv hm).1 h1
    obtain ⟨m1, m2, m3, m4, m5⟩ := may_facts hm
    have hc : ((l[j].f1.toNat : Nat) : Int) = l[j].f1 := by omega
    have he : stN l (j + 1) = stepC (stN l j) l[j] j := stN_succ hl
    have hlt : ∀ {i : Nat}, i < j + 1 → i < j ∨ i = j := fun h => Nat.lt_or_eq_of_le (Nat.le_of_lt_succ h)
    unfold RStep at h2
    by_cases k3 : l[j].f0 = 3
    · rw [if_pos k3] at h2
      obtain ⟨k, hk, b1, b2, b3, b4, b5⟩ := h2
      obtain ⟨c1, c2, c3⟩ := reqB_iff.1 b2
      have hr : ∀ c, rqC c l[j] = false := fun c => by
        rw [← Bool.not_eq_true, rqC_iff]
        exact fun h => h.1 k3
      have hl1 : ∀ c, (stN l (j + 1) c).rqs.length = (stN l j c).rqs.length := fun c => by
        rw [he]
        unfold stepC upd
        split
        · rename_i e
          subst e
          try rw [if_pos k3]
          exact ansC_len _ _
        · rfl
      refine ⟨fun c => ?_, fun c => ?_, ?_, ?_, ?_, fun c => ?_⟩
      · rw [hl1, cntR_succ hl, hr, if_neg (by decide)]
        exact hv.len c
      · rw [lastR_succ hl, hr, if_neg (by decide), he]
        unfold stepC upd
        split
        · rename_i e
          subst e
          try rw [if_pos k3]
          rw [ansC_last]
          exact hv.las _
        · exact hv.las c
      · intro c t q hq
        have hx : ∃ q0 : Rq, (stN l j c).rqs[t]? = some q0 ∧ q.ev = q0.ev ∧ q.place = q0.place ∧ (q.ans = true ↔ q0.ans = true ∨ (l[j].f1 = c ∧ l[j].f2 = t + 1)) := by
          rw [he] at hq
          unfold stepC upd at hq
          split at hq
          · rename_i e
            try rw [if_pos k3] at hq
            have hT : l[j].f2 = (((l[j].f2 - 1).toNat : Nat) : Int) + 1 := by omega
            generalize (l[j].f2 - 1).toNat = T at *
            unfold ansC at hq
            rw [show (l[j].f2 - 1).toNat = T from by omega] at hq
            rw [← e] at hq
            split at hq
            · rename_i g
              refine ⟨q, hq, rfl, rfl, ⟨.inl, fun h => h.elim id fun h => ?_⟩⟩
              obtain rfl : T = t := by omega
              rw [g] at hq
              cases hq
            · rename_i q1 g
              rw [List.getElem?_set] at hq
              split at hq
              · rename_i g2
                subst g2
                rw [if_pos (List.getElem?_eq_some_iff.1 g).1] at hq
                cases hq
                exact ⟨q1, g, rfl, rfl, ⟨fun _ => .inr ⟨by omega, hT⟩, fun _ => rfl⟩⟩
              · rename_i g2
                exact ⟨q, hq, rfl, rfl, ⟨.inl, fun h => h.elim id fun h => absurd (by omega) g2⟩⟩
          · rename_i e
            exact ⟨q, hq, rfl, rfl, ⟨.inl, fun h => h.elim id fun h => absurd (by omega) e⟩⟩
        obtain ⟨q0, x1, x2, x3, x4⟩ := hx
        obtain ⟨p, hp, d1, d2, d3, d4, d5, d6, d7, d8⟩ := hv.get c t q0 x1
        refine ⟨p, hp, by omega, x2.trans d2, x3.trans d3, d4, d5, d6, fun u hu huj g1 g2 g3 => ?_, x4.trans ⟨fun h => ?_, fun h => ?_⟩⟩
        · rcases hlt huj with e | e
          · exact d7 u hu e g1 g2 g3
          · subst e
            exact absurd k3 g1
        · rcases h with h | h
          · obtain ⟨i, hi, g1, g2⟩ := d8.1 h
            exact ⟨i, hi, Nat.lt_succ_of_lt g1, g2⟩
          · exact ⟨j, hl, Nat.lt_succ_self j, k3, h⟩
        · obtain ⟨i, hi, g1, g2, g3⟩ := h
          rcases hlt g1 with e | e
          · exact .inl (d8.2 ⟨i, hi, e, g2, g3⟩)
          · subst e
            exact .inr g3
      · intro p hp hpj hk3
        rw [hl1]
        rcases hlt hpj with e | e
        · exact hv.has p hp e hk3
        · subst e
          exact absurd k3 hk3
      · intro i hi hij h3
        rcases hlt hij with e | e
        · exact hv.an i hi e h3
        · subst e
          exact ⟨k, hk, b1, b2⟩
      · rw [lastR_succ hl, hr, if_neg (by decide)]
        exact hv.nn c
    · rw [if_neg k3] at h2
      have hc2 : ∀ c, stN l (j + 1) c = if c = l[j].f1.toNat then asksC (stN l j l[j].f1.toNat) l[j] j else stN l j c := fun c => by
        rw [he]
        unfold stepC upd
        rw [if_neg k3]
      have hrq : ∀ c : Nat, (rqC c l[j] = true ↔ c = l[j].f1.toNat) := fun c => by
        rw [rqC_iff]
        constructor
        · rintro ⟨_, g⟩
          omega
        · intro g
          exact ⟨k3, by omega⟩
      have hf2 : l[j].f2 = (cntR l l[j].f1 j : Int) + 1 := by
        unfold raskB at h2
        split at h2
        · cases h2
        · omega
      refine ⟨fun c => ?_, fun c => ?_, ?_, ?_, ?_, fun c => ?_⟩
      · rw [hc2, cntR_succ hl]
        by_cases e : c = l[j].f1.toNat
        · rw [if_pos e, if_pos ((hrq c).2 e), asksC_len, ← e, hv.len c]
        · rw [if_neg e, if_neg (fun g => e ((hrq c).1 g)), hv.len c]
          rfl
      · rw [hc2, lastR_succ hl]
        by_cases e : c = l[j].f1.toNat
        · rw [if_pos e, if_pos ((hrq c).2 e), ← e]
          show (if l[j].f0 = 2 ∨ l[j].f3 = 0 then (stN l j c).last else l[j].f3) = _
          have g1 := hv.nn c
          rw [hv.las]
          split
          · rename_i g
            have : l[j].f3 = 0 := g.elim m4 id
            rw [this]
            omega
          · rename_i g
            unfold raskB at h2
            rw [if_neg (by omega), if_neg (fun e => g (.inl e)), if_neg (fun e => g (.inr e))] at h2
            simp only [Bool.and_eq_true, decide_eq_true_eq] at h2
            have h3 := h2.2
            rw [← hc, ← e] at h3
            omega
        · rw [if_neg e, if_neg (fun g => e ((hrq c).1 g)), hv.las c]
      · intro c t q hq
        have old : (stN l j c).rqs[t]? = some q → (l[j].f1 = c → l[j].f2 ≠ t + 1) → ∃ p, ∃ hp : p < l.length, p < j + 1 ∧ q.ev = l[p] ∧ q.place = p ∧ l[p].f0 ≠ 3 ∧ l[p].f1 = c ∧ l[p].f2 = t + 1 ∧ (∀ u (hu : u < l.length), u < j + 1 → l[u].f0 ≠ 3 → l[u].f1 = c → l[u].f2 = t + 1 → u = p) ∧
            (q.ans = true ↔ ∃ i, ∃ hi : i < l.length, i < j + 1 ∧ l[i].f0 = 3 ∧ l[i].f1 = c ∧ l[i].f2 = t + 1) := by
          intro hq hne
          obtain ⟨p, hp, d1, d2, d3, d4, d5, d6, d7, d8⟩ := hv.get c t q hq
          refine ⟨p, hp, by omega, d2, d3, d4, d5, d6, fun u hu huj g1 g2 g3 => ?_, d8.trans ⟨fun h => ?_, fun h => ?_⟩⟩
          · rcases hlt huj with e | e
            · exact d7 u hu e g1 g2 g3
            · subst e
              exact absurd g3 (hne g2)
          · obtain ⟨i, hi, g1, g2⟩ := h
            exact ⟨i, hi, Nat.lt_succ_of_lt g1, g2⟩
          · obtain ⟨i, hi, g1, g2, g3⟩ := h
            rcases hlt g1 with e | e
            · exact ⟨i, hi, e, g2, g3⟩
            · subst e
              exact absurd g2 k3
        rw [hc2] at hq
        split at hq
        · rename_i e
          have hlc := hv.len l[j].f1.toNat
          rw [hc] at hlc
          have hq' : ((stN l j l[j].f1.toNat).rqs ++ [(⟨l[j], j, false⟩ : Rq)])[t]? = some q := hq
          by_cases ht : t < (stN l j l[j].f1.toNat).rqs.length
          · rw [List.getElem?_append_left ht, ← e] at hq'
            exact old hq' fun _ => by omega
          · rw [List.getElem?_append_right (by omega)] at hq'
            have ht2 : t - (stN l j l[j].f1.toNat).rqs.length = 0 := by
              have := (List.getElem?_eq_some_iff.1 hq').1
              simp at this
              omega
            rw [ht2] at hq'
            simp at hq'
            subst hq'
            refine ⟨j, hl, Nat.lt_succ_self _, rfl, rfl, k3, by omega, by omega, fun u hu huj g1 g2 g3 => ?_, ⟨fun h => (by cases h), ?_⟩⟩
            · rcases hlt huj with e2 | e2
              · have := hv.has u hu e2 g1
                rw [show l[u].f1.toNat = l[j].f1.toNat from by omega] at this
                omega
              · exact e2
            · rintro ⟨i, hi, g1, g2, g3, g4⟩
              rcases hlt g1 with e2 | e2
              · obtain ⟨u, hu, u1, u2⟩ := hv.an i hi e2 g2
                obtain ⟨v1, v2, v3⟩ := reqB_iff.1 u2
                have := hv.has u hu (by omega) v1
                rw [show l[u].f1.toNat = l[j].f1.toNat from by omega] at this
                omega
              · subst e2
                exact absurd g2 k3
        · rename_i e
          exact old hq fun g => absurd (by omega) e
      · intro p hp hpj hk3
        rw [hc2]
        rcases hlt hpj with e | e
        · have := hv.has p hp e hk3
          split
          · rename_i g
            rw [asksC_len, ← g]
            omega
          · exact this
        · subst e
          rw [if_pos rfl, asksC_len, hv.len, hc]
          omega
      · intro i hi hij h3
        rcases hlt hij with e | e
        · exact hv.an i hi e h3
        · subst e
          exact absurd h3 k3
      · rw [lastR_succ hl]
        split
        · have := hv.nn c
          omega
        · exact hv.nn c
theorem proper_of {l : List Evt} (h : ∀ j (hj : j < l.length), stepB (stN l j) l[j] l[j + 1]? j = true) : ∀ (n j : Nat), j + n = l.length → properAt (l.drop j) j (stN l j) = true
  | 0, j, e => by
    rw [List.drop_eq_nil_of_le (by omega)]
    rfl
  | n + 1, j, e => by
    have hj : j < l.length := by omega
    rw [List.drop_eq_getElem_cons hj, properAt, List.head?_drop, h j hj, Bool.true_and]
    have := proper_of h n (j + 1) (by omega)
    rw [stN_succ hj] at this
    exact this
/-- Proper, as the document has it -/
theorem proper_iff {l : List Evt} (hn : l.length ≤ 9223372036854775807) : properB l = true ↔ ∀ j (hj : j < l.length), mayB l[j] = true ∧ RStep l j l[j] l[j + 1]? := by
  constructor
  · intro h j hj
    have hs := fun i hi => proper_stp h (j := i) hi
    have h1 := hs j hj
    have hm : mayB l[j] = true := by
      unfold stepB at h1
      rw [Bool.and_eq_true] at h1
      exact h1.1
    exact ⟨hm, (step_iff hn hj (inv_r hn j (by omega) fun i hi _ => hs i hi) hm).1 h1⟩
  · intro h
    have hs : ∀ j, j ≤ l.length → ∀ i (hi : i < l.length), i < j → stepB (stN l i) l[i] l[i + 1]? i = true := by
      intro j
      induction j with
      | zero => exact fun _ i _ hi => absurd hi (Nat.not_lt_zero i)
      | succ j ih =>
        intro hj i hi hij
        rcases Nat.lt_or_eq_of_le (Nat.le_of_lt_succ hij) with e | e
        · exact ih (by omega) i hi e
        · subst e
          exact (step_iff hn hi (inv_r hn i (by omega) (ih (by omega))) (h i hi).1).2 (h i hi).2
    exact proper_of (fun j hj => hs l.length (Nat.le_refl _) j hj hj) l.length 0 (Nat.zero_add _)
end Go.Proofs.YtiibjgnmdieicaaGreat.Hist
/- the document's history: Proper, walked. -/
namespace Go.Proofs.YtiibjgnmdieicaaGreat.Hist
open Go.RowKit Go.Proofs.YtiibjgnmdieicaaGreatW.PrintWords Go.Sort
def RelPr1 (w : World) (l : List Evt) (s : Value) (wr : World) : Prop := ∃ j : Nat, j ≤ l.length ∧ s = .int .i64 j ∧ (∀ t (ht : t < l.length), t < j → mayB l[t] = true) ∧ Below w.heap.size w wr
def RelPr2 (w : World) (l : List Evt) (s : Value) (wr : World) : Prop := ∃ j : Nat, j ≤ l.length ∧ s = .int .i64 j ∧ (∀ t (ht : t < l.length), t < j → RStep l t l[t] l[t + 1]?) ∧ Below w.heap.size w wr
set_option maxHeartbeats 8000000 in
set_option maxRecDepth 100000 in
theorem rproper_any (A : Option Addr) (c : Nat) (l : List Evt) (w : World) (hC : kEvt.C w A l.length l) :
    Calls Tryz.prog 26 #[.slice A l.length c] w fun e w' => e = .returned (.bool (properB l)) ∧ Below w.heap.size w w' := by
  have hm : l.length ≤ 9223372036854775807 := hC.2.1
  have hpi := @proper_iff l hm
  generalize properB l = r at *
  have hn1 : ∀ j (hj : j < l.length), mayB l[j] = false → r = false := fun j hj h => by
    rw [← Bool.not_eq_true, hpi]
    intro g
    rw [(g j hj).1] at h
    cases h
  have hn2 : ∀ j (hj : j < l.length), ¬ RStep l j l[j] l[j + 1]? → r = false := fun j hj h => by
    rw [← Bool.not_eq_true, hpi]
    exact fun g => h (g j hj).2
  have hy : (∀ t (ht : t < l.length), mayB l[t] = true) → (∀ t (ht : t < l.length), RStep l t l[t] l[t + 1]?) → r = true := fun h1 h2 => hpi.2 fun j hj => ⟨h1 j hj, h2 j hj⟩
  clear hpi
  have han := Lib.hid fun W (hb : Below w.heap.size w W) i hi b h => ranswered_any A c l i hi W (Kd.C_below hC hb) b h
  have has := Lib.hid fun W (hb : Below w.heap.size w W) i hi => rasked_any A c l i hi W (Kd.C_below hC hb)
  replace hC := Lib.hid hC
  replace hn1 := Lib.hid hn1
  replace hn2 := Lib.hid hn2
  replace hy := Lib.hid hy
  go_enter Tryz.func26, Tryz.ntmps26
  go_wp2
  go_loopw [3] (fun s wr => RelPr1 w l s wr) (fun s _ => l.length - (intOf s).toNat)
  case atStart => exact ⟨0, Nat.zero_le _, rfl, (fun t _ h => absurd h (Nat.not_lt_zero t)), Below.refl _ _⟩
  case round =>
    obtain ⟨j, hj, rfl, hp, hB⟩ := hrel
    by_cases hlt : j < l.length
    · obtain ⟨ad, A4, c4, A5, c5, A9, c9, rfl, q0, q1, q2, q3, q4, q5, q6, q7, q8, q9, hK, hl9, hk9⟩ := evt_at (Kd.C_below hC.out hB) hlt
      have hca := rmay_any l[j] A4 c4 A5 c5 A9 c9 wr hk9
      have hno := hn1.out j hlt
      have hnx : mayB l[j] = true → ∀ t (ht : t < l.length), t < j + 1 → mayB l[t] = true := fun h t ht h1 => by
        by_cases e : t = j
        · subst e; exact h
        · exact hp t ht (by omega)
      have a1 : IntKind.i64.wrap ((j : Int) + 1) = (j : Int) + 1 := IntWalk.i64_in _ (by omega)
      clear hK hl9 hk9
      generalize mayB l[j] = b at *
      generalize l[j] = x at *
      replace hca := Lib.hid hca
      replace hno := Lib.hid hno
      replace hnx := Lib.hid hnx
      replace hp := Lib.hid hp
      replace hB := Lib.hid hB
      cases b with
      | true =>
        have hn5 := Lib.hid (hnx.out rfl)
        go_wp2_with (first | (go_at_call 43; refine hca.out.mono ?_; rintro e W3 ⟨rfl, hb3⟩; have hB3 := Lib.hid (below_then hB.out hB.out.size hb3); clear hb3) | go_in)
        go_roundw
        case rel => exact ⟨j + 1, by omega, by go_num, hn5.out, hB3.out⟩
        case measure => simp [intOf]; omega
      | false =>
        obtain rfl := hno.out rfl
        go_wp2_with (first | (go_at_call 43; refine hca.out.mono ?_; rintro e W3 ⟨rfl, hb3⟩; have hB3 := Lib.hid (below_then hB.out hB.out.size hb3); clear hb3) | go_in)
        go_ret
        exact ⟨rfl, hB3.out⟩
    · have hy2 := Lib.hid (hy.out fun t ht => hp t ht (by omega))
      replace hB := Lib.hid hB
      clear hp hy hn1
      go_wp2
      go_loopw [4] (fun s wr => RelPr2 w l s wr) (fun s _ => l.length - (intOf s).toNat)
      case atStart => exact ⟨0, Nat.zero_le _, rfl, (fun t _ h => absurd h (Nat.not_lt_zero t)), hB.out⟩
      case round =>
        clear hB hlt hj
        obtain ⟨m, hj, rfl, hp, hB⟩ := hrel
        by_cases hlt : m < l.length
        · obtain ⟨ad, A4, c4, A5, c5, A9, c9, rfl, q0, q1, q2, q3, q4, q5, q6, q7, q8, q9, hK, hl9, hk9⟩ := evt_at (Kd.C_below hC.out hB) hlt
          clear q1 q2 q3 q4 q5 q6 q7 q8 q9 hK hl9 hk9
          have hno := hn2.out m hlt
          have hnx : RStep l m l[m] l[m + 1]? → ∀ t (ht : t < l.length), t < m + 1 → RStep l t l[t] l[t + 1]? := fun h t ht h1 => by
            by_cases e : t = m
            · subst e; exact h
            · exact hp t ht (by omega)
          have a1 : IntKind.i64.wrap ((m : Int) + 1) = (m : Int) + 1 := IntWalk.i64_in _ (by omega)
          unfold RStep at hno
          have hnx0 : (if l[m].f0 = 3 then RAns l m l[m] else raskB l m l[m] l[m + 1]? = true) → ∀ t (ht : t < l.length), t < m + 1 → RStep l t l[t] l[t + 1]? := fun h => hnx (by unfold RStep; exact h)
          clear hnx
          by_cases k3 : l[m].f0 = 3
          · rw [if_pos k3] at hno hnx0
            obtain ⟨b, hb⟩ : ∃ b : Bool, (b = true ↔ RAns l m l[m]) := by
              rcases Classical.em (RAns l m l[m]) with h | h
              · exact ⟨true, by simp [h]⟩
              · exact ⟨false, by simp [h]⟩
            have hca := han.out wr hB m hlt b hb
            rw [← hb] at hno hnx0
            clear hb
            generalize l[m] = x at *
            have c0 : (x.f0 == 3) = true := beq_iff_eq.2 k3
            have c1 : (x.f0 != 3) = false := by rw [k3]; rfl
            replace hca := Lib.hid hca
            replace hno := Lib.hid hno
            replace hnx0 := Lib.hid hnx0
            replace hp := Lib.hid hp
            replace hB := Lib.hid hB
            have hq0 := Lib.hid fun (W : World) (hb : Below wr.heap.size wr W) => pw_cell_below hb q0
            replace k3 := Lib.hid k3
            cases b with
            | true =>
              have hn5 := Lib.hid (hnx0.out rfl)
              go_wp2_with (first | (go_at_call 44; refine hca.out.mono ?_; rintro e W3 ⟨rfl, hb3⟩; have hB3 := Lib.hid (below_then hB.out hB.out.size hb3); have z0 := hq0.out W3 hb3; clear hb3) | go_in)
              go_roundw
              case rel => exact ⟨m + 1, by omega, by go_num, hn5.out, hB3.out⟩
              case measure => simp [intOf]; omega
            | false =>
              obtain rfl := hno.out (by decide)
              go_wp2_with (first | (go_at_call 44; refine hca.out.mono ?_; rintro e W3 ⟨rfl, hb3⟩; have hB3 := Lib.hid (below_then hB.out hB.out.size hb3); have z0 := hq0.out W3 hb3; clear hb3) | go_in)
              go_ret
              exact ⟨rfl, hB3.out⟩
          · rw [if_neg k3] at hno hnx0
            have hca := has.out wr hB m hlt
            generalize raskB l m l[m] l[m + 1]? = b at *
            generalize l[m] = x at *
            have c0 : (x.f0 == 3) = false := beq_eq_false_iff_ne.2 k3
            have c1 : (x.f0 != 3) = true := by rw [bne_iff_ne]; exact k3
            replace hca := Lib.hid hca
            replace hno := Lib.hid hno
            replace hnx0 := Lib.hid hnx0
            replace hp := Lib.hid hp
            replace hB := Lib.hid hB
            replace k3 := Lib.hid k3
            cases b with
            | true =>
              have hn5 := Lib.hid (hnx0.out rfl)
              go_wp2_with (first | (go_at_call 45; refine hca.out.mono ?_; rintro e W3 ⟨rfl, hb3⟩; have hB3 := Lib.hid (below_then hB.out hB.out.size hb3); clear hb3) | go_in)
              go_roundw
              case rel => exact ⟨m + 1, by omega, by go_num, hn5.out, hB3.out⟩
              case measure => simp [intOf]; omega
            | false =>
              obtain rfl := hno.out (by decide)
              go_wp2_with (first | (go_at_call 45; refine hca.out.mono ?_; rintro e W3 ⟨rfl, hb3⟩; have hB3 := Lib.hid (below_then hB.out hB.out.size hb3); clear hb3) | go_in)
              go_ret
              exact ⟨rfl, hB3.out⟩
        · obtain rfl := hy2.out (fun t ht => hp t ht (by omega))
          replace hB := Lib.hid hB
          clear hp
          go_wp2
          go_ret
          exact ⟨rfl, hB.out⟩
end Go.Proofs.YtiibjgnmdieicaaGreat.Hist
