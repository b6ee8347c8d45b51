/- spec's laws: has, below, in plain words. -/
import Derived.Test.YtiibjgnmdieicaaGreatQm
import Derived.Test.YtiibjgnmdieicaaGreatUb
namespace Go.Proofs.YtiibjgnmdieicaaGreat.Hist
open Go.RowKit Go.Proofs.YtiibjgnmdieicaaGreatW.PrintWords Go.Sort
theorem any_at {α : Type} {p : α → Bool} {l : List α} {j : Nat} (h : j < l.length) (hp : p l[j] = true) : l.any p = true := List.any_eq_true.2 ⟨_, List.getElem_mem h, hp⟩
theorem any_no {α : Type} {p : α → Bool} {l : List α} (h : ∀ t, (ht : t < l.length) → p l[t] = false) : l.any p = false := by
  rw [List.any_eq_false]
  intro x hx
  obtain ⟨t, ht, rfl⟩ := List.getElem_of_mem hx
  rw [h t ht]
  decide
def okB (y e : Evt) : Bool := e.f0 == 3 && e.f1 == y.f1 && e.f2 == y.f2 && e.f6.f1 == 1
def okAt (l : List Evt) (y : Evt) (k : Nat) : Bool := match l[k]? with
  | some e => okB y e
  | none => false
theorem okAt_lt {l : List Evt} {y : Evt} {k : Nat} (h : k < l.length) : okAt l y k = okB y l[k] := by
  unfold okAt
  rw [List.getElem?_eq_getElem h]
def belowB (l : List Evt) (w q : Nat) (x y : Evt) : Bool := (x.f6.f3.any fun v => v.f1 == y.f3) || (List.range q).any fun k => decide (w ≤ k) && okAt l y k
end Go.Proofs.YtiibjgnmdieicaaGreat.Hist
/- spec's laws: all constraints, in plain words. -/
namespace Go.Proofs.YtiibjgnmdieicaaGreat.Hist
open Go.RowKit Go.Proofs.YtiibjgnmdieicaaGreatW.PrintWords Go.Sort
def tcB (x y : Evt) : Bool := x.f0 == 1 && y.f0 == 1 && x.f3 != 0 && y.f3 != 0 && x.f1 == y.f1
def tcP (x y : Evt) : List (Int × Int) := if tcB x y = true then [(x.f3, y.f3)] else []
def at2 (f : Evt → Evt → List (Int × Int)) (l : List Evt) (i k : Nat) : List (Int × Int) := match l[i]?, l[k]? with
  | some x, some y => f x y
  | _, _ => []
theorem at2_lt {f : Evt → Evt → List (Int × Int)} {l : List Evt} {i k : Nat} (hi : i < l.length) (hk : k < l.length) : at2 f l i k = f l[i] l[k] := by
  unfold at2
  rw [List.getElem?_eq_getElem hi, List.getElem?_eq_getElem hk]
theorem mem_at2 {f : Evt → Evt → List (Int × Int)} {l : List Evt} {i k : Nat} {p : Int × Int} : p ∈ at2 f l i k ↔ ∃ hi : i < l.length, ∃ hk : k < l.length, p ∈ f l[i] l[k] := by
  by_cases hi : i < l.length
  · by_cases hk : k < l.length
    · rw [at2_lt hi hk]
      exact ⟨fun h => ⟨hi, hk, h⟩, fun ⟨_, _, h⟩ => h⟩
    · unfold at2
      rw [List.getElem?_eq_none (by omega : l.length ≤ k)]
      refine ⟨fun h => ?_, fun ⟨_, h, _⟩ => absurd h hk⟩
      split at h
      · rename_i h2
        cases h2
      · cases h
  · unfold at2
    rw [List.getElem?_eq_none (by omega : l.length ≤ i)]
    refine ⟨fun h => ?_, fun ⟨h, _⟩ => absurd h hi⟩
    split at h
    · rename_i h2 _
      cases h2
    · cases h
def upTo (f : Nat → List (Int × Int)) (n : Nat) : List (Int × Int) := (List.range n).flatMap f
theorem mem_upTo {f : Nat → List (Int × Int)} {n : Nat} {p : Int × Int} : p ∈ upTo f n ↔ ∃ i, i < n ∧ p ∈ f i := by
  unfold upTo
  simp only [List.mem_flatMap, List.mem_range]
/-- of a client's own order: the writes behind the one at i, n of them -/
def tieC (l : List Evt) (i n : Nat) : List (Int × Int) := upTo (fun t => at2 tcP l i (i + 1 + t)) n
def tieCn (l : List Evt) (n : Nat) : List (Int × Int) := upTo (fun i => tieC l i (l.length - (i + 1))) n
/-- of a read: a write and what was told -/
def rB (y : Evt) (v : Ver) : Bool := v.f1 != y.f3 && wroteB y v.f0
def rP (y : Evt) (vs : List Ver) : List (Int × Int) := (vs.filter (rB y)).map fun v => (y.f3, v.f1)
def rqB (l : List Evt) (w : Nat) (x y : Evt) : Bool := y.f0 == 1 && y.f3 != 0 && belowB l w (firstI l x) x y
def tieE (l : List Evt) (w : Nat) (x y : Evt) : List (Int × Int) := if rqB l w x y = true then rP y x.f6.f3 else []
def rW (l : List Evt) (i n : Nat) : List (Int × Int) := upTo (fun w => at2 (tieE l w) l i w) n
def rN (l : List Evt) (n : Nat) : List (Int × Int) := upTo (fun i => rW l i i) n
def tiesL (l : List Evt) : List (Int × Int) := tieCn l l.length ++ rN l l.length
theorem firstI_spec {l : List Evt} {i : Nat} (hi : i < l.length) : firstI l l[i] ≤ i ∧ ∀ t, (ht : t < l.length) → t < firstI l l[i] → (l[t].f1 == l[i].f1 && l[t].f2 == l[i].f2) = false := by
  unfold firstI
  constructor
  · refine Nat.le_of_not_lt fun h => ?_
    have := List.not_of_lt_findIdx h
    simp at this
  · intro t ht h
    have := List.not_of_lt_findIdx h
    simpa using this
theorem tcB_iff (x y : Evt) : tcB x y = true ↔ IsW x ∧ IsW y ∧ x.f1 = y.f1 := by
  unfold tcB IsW
  simp only [Bool.and_eq_true, beq_iff_eq, bne_iff_ne]
  omega
theorem mem_tCn {l : List Evt} {a b : Int} : (a, b) ∈ tieCn l l.length ↔ TieC l a b := by
  unfold tieCn tieC TieC
  rw [mem_upTo]
  constructor
  · rintro ⟨i, _, h⟩
    obtain ⟨t, _, h⟩ := mem_upTo.1 h
    obtain ⟨hi, hk, h⟩ := mem_at2.1 h
    unfold tcP at h
    split at h
    · rename_i hb
      obtain ⟨h1, h2, h3⟩ := (tcB_iff _ _).1 hb
      rw [List.mem_singleton, Prod.mk.injEq] at h
      exact ⟨i, _, hi, hk, by omega, h1, h2, h3, h.1, h.2⟩
    · cases h
  · rintro ⟨i, k, hi, hk, hik, h1, h2, h3, rfl, rfl⟩
    refine ⟨i, hi, mem_upTo.2 ⟨k - (i + 1), by omega, mem_at2.2 ⟨hi, by omega, ?_⟩⟩⟩
    have e : i + 1 + (k - (i + 1)) = k := by omega
    simp only [e]
    unfold tcP
    rw [if_pos ((tcB_iff _ _).2 ⟨h1, h2, h3⟩)]
    exact List.mem_singleton.2 rfl
theorem belowB_iff {l : List Evt} {w i q : Nat} (hw : w < l.length) (hi : i < l.length) (hq : q ≤ l.length) : belowB l w q l[i] l[w] = true ↔ BelowP l w i q hw hi := by
  unfold belowB BelowP
  rw [Bool.or_eq_true, List.any_eq_true, List.any_eq_true]
  constructor
  · rintro (⟨k, hk, h⟩ | ⟨k, hk, h⟩)
    · exact .inl ⟨k, hk, beq_iff_eq.1 h⟩
    · have hk := List.mem_range.1 hk
      have hkl : k < l.length := by omega
      rw [okAt_lt hkl] at h
      unfold okB at h
      simp only [Bool.and_eq_true, beq_iff_eq, decide_eq_true_eq] at h
      exact .inr ⟨k, hkl, h.1, hk, h.2.1.1.1, h.2.1.1.2, h.2.1.2, h.2.2⟩
  · rintro (⟨k, hk, h⟩ | ⟨k, hkl, h1, h2, h3, h4, h5, h6⟩)
    · exact .inl ⟨k, hk, beq_iff_eq.2 h⟩
    · refine .inr ⟨k, List.mem_range.2 h2, ?_⟩
      rw [okAt_lt hkl]
      unfold okB
      simp only [Bool.and_eq_true, beq_iff_eq, decide_eq_true_eq]
      exact ⟨h1, ⟨⟨h3, h4⟩, h5⟩, h6⟩
theorem mem_rN {l : List Evt} {a b : Int} : (a, b) ∈ rN l l.length ↔ TieR l a b := by
  unfold rN rW TieR
  rw [mem_upTo]
  constructor
  · rintro ⟨i, hi, h⟩
    obtain ⟨w, hwi, h⟩ := mem_upTo.1 h
    obtain ⟨hi, hw, h⟩ := mem_at2.1 h
    have hq := (firstI_spec hi).1
    unfold tieE at h
    split at h
    · rename_i hb
      unfold rqB at hb
      simp only [Bool.and_eq_true, beq_iff_eq, bne_iff_ne] at hb
      obtain ⟨v, hv, he⟩ := List.mem_map.1 h
      obtain ⟨hv, hr⟩ := List.mem_filter.1 hv
      unfold rB at hr
      simp only [Bool.and_eq_true, bne_iff_ne] at hr
      rw [Prod.mk.injEq] at he
      exact ⟨i, hi, w, hw, hwi, ⟨hb.1.1, hb.1.2⟩, (belowB_iff hw hi (by omega)).1 hb.2, v, hv, hr.1, hr.2, he.1.symm, he.2.symm⟩
    · cases h
  · rintro ⟨i, hi, w, hw, hwi, iw, hb, v, hv, hne, hwr, rfl, rfl⟩
    have hq := (firstI_spec hi).1
    refine ⟨i, hi, mem_upTo.2 ⟨w, hwi, mem_at2.2 ⟨hi, hw, ?_⟩⟩⟩
    unfold tieE rqB
    rw [if_pos (by
      simp only [Bool.and_eq_true, beq_iff_eq, bne_iff_ne]
      exact ⟨⟨iw.1, iw.2⟩, (belowB_iff hw hi (by omega)).2 hb⟩)]
    refine List.mem_map.2 ⟨v, List.mem_filter.2 ⟨hv, ?_⟩, rfl⟩
    unfold rB
    simp only [Bool.and_eq_true, bne_iff_ne]
    exact ⟨hne, hwr⟩
theorem mem_ties {l : List Evt} {a b : Int} : (a, b) ∈ tiesL l ↔ TieC l a b ∨ TieR l a b := by
  unfold tiesL
  rw [List.mem_append, mem_tCn, mem_rN]
end Go.Proofs.YtiibjgnmdieicaaGreat.Hist
/- spec's laws: what meets tells, in plain words. -/
namespace Go.Proofs.YtiibjgnmdieicaaGreat.Hist
open Go.RowKit Go.Proofs.YtiibjgnmdieicaaGreatW.PrintWords Go.Sort
def metB (L : List Int) (p : Int × Int) : Bool := !(decide (placeI L p.1 < 0) || decide (placeI L p.2 < 0) || decide (placeI L p.2 ≤ placeI L p.1))
def meetsB (L : List Int) (T : List (Int × Int)) : Bool := T.all (metB L)
/-- the constraints are met -/
theorem meets_of {L : List Int} {T : List (Int × Int)} (h : ∀ a b, (a, b) ∈ T → 0 ≤ placeI L a ∧ 0 ≤ placeI L b ∧ placeI L a < placeI L b) : meetsB L T = true := by
  unfold meetsB
  rw [List.all_eq_true]
  rintro ⟨a, b⟩ hp
  obtain ⟨h1, h2, h3⟩ := h a b hp
  unfold metB
  simp only [Bool.not_eq_true', Bool.or_eq_false_iff, decide_eq_false_iff_not]
  omega
theorem of_meets {L : List Int} {T : List (Int × Int)} (h : meetsB L T = true) {a b : Int} (hp : (a, b) ∈ T) : 0 ≤ placeI L a ∧ 0 ≤ placeI L b ∧ placeI L a < placeI L b := by
  unfold meetsB at h
  have := List.all_eq_true.1 h _ hp
  unfold metB at this
  simp only [Bool.not_eq_true', Bool.or_eq_false_iff, decide_eq_false_iff_not] at this
  omega
end Go.Proofs.YtiibjgnmdieicaaGreat.Hist
/- The least order, in plain words: search's first and lay's are one. -/
namespace Go.Proofs.YtiibjgnmdieicaaGreat.Hist
open Go.RowKit Go.Proofs.YtiibjgnmdieicaaGreatW.PrintWords Go.Sort
/-- the names of the writes, by their places -/
def idsL (l : List Evt) : List Int := (l.filter isWB).map fun e => e.f3
theorem evs_same {ws ws' : List Sw} (h : SameD ws ws') : ws'.map (fun x : Sw => x.ev.f3) = ws.map fun x : Sw => x.ev.f3 := by
  refine List.ext_getElem? fun i => ?_
  have := h i
  rw [List.getElem?_map, List.getElem?_map]
  cases hx : ws[i]? with
  | none =>
    cases hy : ws'[i]? with
    | none => rfl
    | some y => rw [hx, hy] at this; cases this
  | some x =>
    cases hy : ws'[i]? with
    | none => rw [hx, hy] at this; cases this
    | some y =>
      rw [hx, hy] at this
      simp only [Option.map_some, Option.some.injEq, prS, Prod.mk.injEq] at this
      show some y.ev.f3 = some x.ev.f3
      rw [this.1]
theorem evs_done (ws : List Sw) (n : Nat) (i : Int) : (ws.modify n fun x => doneW x i).map (fun x : Sw => x.ev.f3) = ws.map fun x : Sw => x.ev.f3 := by
  refine List.ext_getElem? fun k => ?_
  rw [List.getElem?_map, List.getElem?_map, List.getElem?_modify]
  cases ws[k]? with
  | none => rfl
  | some x =>
    show some _ = some _
    split <;> rfl
theorem coN_ids (l : List Evt) : ∀ j, j ≤ l.length → (coN l j).o.ws.map (fun x : Sw => x.ev.f3) = idsL (l.take j)
  | 0, _ => by simp [coN, cs0, idsL]
  | j + 1, hj => by
    have ih := coN_ids l j (by omega)
    have hl : j < l.length := by omega
    have hs : idsL (l.take (j + 1)) = idsL (l.take j) ++ if isWB l[j] = true then [l[j].f3] else [] := by
      unfold idsL
      rw [← List.take_append_getElem hl, List.filter_append, List.map_append]
      congr 1
      simp only [List.filter_cons, List.filter_nil]
      split <;> rfl
    rw [coN_succ hl, hs, ← ih]
    unfold collS
    by_cases w : l[j].f0 = 1 ∧ l[j].f3 ≠ 0
    · rw [if_pos w, if_pos ((isWB_iff _).2 w)]
      show (match (coN l j).last l[j].f1 with | none => pushS (coN l j).o j l[j] | some u => aheadS (pushS (coN l j).o j l[j]) u l[j].f3).ws.map (fun x : Sw => x.ev.f3) = _
      split
      · simp [pushS, newSw]
      · rw [evs_same (SameD.aheadS _ _ _)]
        simp [pushS, newSw]
    · rw [if_neg w, if_neg (fun e => w ((isWB_iff _).1 e)), List.append_nil]
      split
      · split
        · rfl
        · exact evs_done _ _ _
      · rfl
/-- search, in plain words -/
def srch (ids : List Int) (T : List (Int × Int)) : Nat → List Int → Option (List Int)
  | 0, so => if meetsB so T = true then some so else none
  | n + 1, so => ids.findSome? fun id => if 0 ≤ placeI so id then none else srch ids T n (so ++ [id])
theorem fidx_spec {α : Type} (p : α → Bool) (l : List α) : (fidx p l = -1 ∧ ∀ t, (ht : t < l.length) → p l[t] = false) ∨ ∃ j, ∃ h : j < l.length, fidx p l = (j : Int) ∧ p l[j] = true ∧ ∀ t, (ht : t < l.length) → t < j → p l[t] = false := by
  unfold fidx
  by_cases h : l.any p = true
  · right
    have hlt : l.findIdx p < l.length := List.findIdx_lt_length.2 (by simpa using h)
    exact ⟨l.findIdx p, hlt, if_pos h, List.findIdx_getElem (w := hlt), fun t ht h2 => by simpa using List.not_of_lt_findIdx h2⟩
  · left
    refine ⟨if_neg h, fun t ht => ?_⟩
    cases hb : p l[t] with
    | false => rfl
    | true => exact absurd (List.any_eq_true.2 ⟨_, List.getElem_mem ht, hb⟩) h
theorem place_lt {L : List Int} {a : Int} (h : a ∈ L) : 0 ≤ placeI L a ∧ placeI L a < L.length := by
  unfold placeI
  rcases fidx_spec (fun x => x == a) L with ⟨_, e⟩ | ⟨j, hj, e, _⟩
  · obtain ⟨t, ht, rfl⟩ := List.getElem_of_mem h
    have := e t ht
    simp at this
  · rw [e]
    omega
theorem place_none {L : List Int} {a : Int} (h : a ∉ L) : placeI L a = -1 := by
  unfold placeI
  refine fidx_none fun t ht => ?_
  cases hb : (L[t] == a) with
  | false => rfl
  | true =>
    rw [beq_iff_eq] at hb
    subst hb
    exact absurd (List.getElem_mem ht) h
theorem place_app {L : List Int} {a : Int} (r : List Int) (h : a ∈ L) : placeI (L ++ r) a = placeI L a := by
  unfold placeI
  rcases fidx_spec (fun x => x == a) L with ⟨_, e⟩ | ⟨j, hj, e, hb, hm⟩
  · obtain ⟨t, ht, rfl⟩ := List.getElem_of_mem h
    have := e t ht
    simp at this
  · rw [e]
    refine fidx_at (by rw [List.length_append]; omega) (fun t ht htj => ?_) ?_
    · have htl : t < L.length := by omega
      rw [List.getElem_append_left htl]
      exact hm t htl htj
    · rw [List.getElem_append_left hj]
      exact hb
theorem place_new {L : List Int} {a : Int} (r : List Int) (h : a ∉ L) : placeI (L ++ r) a = -1 ∨ (L.length : Int) ≤ placeI (L ++ r) a := by
  unfold placeI
  rcases fidx_spec (fun x => x == a) (L ++ r) with ⟨e, _⟩ | ⟨j, hj, e, hb, _⟩
  · exact .inl e
  · refine .inr ?_
    rw [e]
    by_cases hjl : j < L.length
    · rw [List.getElem_append_left hjl, beq_iff_eq] at hb
      exact absurd (hb ▸ List.getElem_mem hjl) h
    · omega
theorem srch_ext {ids : List Int} {T : List (Int × Int)} : ∀ (n : Nat) (so x : List Int), srch ids T n so = some x → (∃ r, x = so ++ r) ∧ meetsB x T = true
  | 0, so, x, h => by
    unfold srch at h
    split at h
    · obtain rfl := Option.some.inj h
      exact ⟨⟨[], (List.append_nil _).symm⟩, by assumption⟩
    · cases h
  | n + 1, so, x, h => by
    unfold srch at h
    obtain ⟨id, _, h⟩ := List.exists_of_findSome?_eq_some h
    split at h
    · cases h
    · obtain ⟨⟨r, hr⟩, hm⟩ := srch_ext n _ _ h
      exact ⟨⟨[id] ++ r, by rw [hr, List.append_assoc]⟩, hm⟩
/-- nothing goes on from a beginning that has broken a constraint -/
theorem srch_bad {ids : List Int} {T : List (Int × Int)} {n : Nat} {so : List Int} {a b : Int} (hT : (a, b) ∈ T) (hb : b ∈ so) (ha : a ∉ so) : srch ids T n so = none := by
  cases h : srch ids T n so with
  | none => rfl
  | some x =>
    exfalso
    obtain ⟨⟨r, rfl⟩, hm⟩ := srch_ext n so x h
    obtain ⟨h1, h2, h3⟩ := of_meets hm hT
    rw [place_app r hb] at h3
    have := (place_lt hb).2
    rcases place_new r ha with e | e <;> omega
/-- each is the first that may come -/
def Grd (ws0 : List Sw) (pi : List Nat) : Prop := ∀ pre x suf, pi = pre ++ x :: suf → ∀ u, u < x → u ∈ pre ∨ ∃ v, Mem ws0 v u ∧ v ∉ pre
theorem sumI_all0 (a : Nat) (l : List Sw) (h : ∀ x ∈ l, named a x = 0) : sumI (named a) l = 0 := by
  induction l with
  | nil => rfl
  | cons x t ih =>
    simp only [sumI, h x List.mem_cons_self, ih fun y hy => h y (List.mem_cons_of_mem _ hy)]
    rfl
theorem KI.first {ws0 ws : List Sw} {pi : List Nat} (h : KI ws0 ws pi) {j : Nat} (hf : fidx freeB ws = (j : Int)) {u : Nat} (hu : u < j) : u ∈ pi ∨ ∃ v, Mem ws0 v u ∧ v ∉ pi := by
  by_cases hp : u ∈ pi
  · exact .inl hp
  · refine .inr (Classical.byContradiction fun hn => ?_)
    rcases fidx_spec freeB ws with ⟨e, _⟩ | ⟨k, hk, e, _, hmin⟩
    · rw [e] at hf
      omega
    · have : k = j := by rw [e] at hf; omega
      subst this
      have hul : u < ws.length := by omega
      have hx := List.getElem?_eq_getElem hul
      have hpl : ws[u].placed = false := by
        cases hb : ws[u].placed with
        | false => rfl
        | true => exact absurd ((h.plac u _ hx).1 hb) hp
      have hw : ws[u].waits = 0 := by
        rw [h.kn u _ hx]
        refine sumI_all0 u ws fun x hxm => ?_
        unfold named
        split
        · rfl
        · rename_i hpx
          obtain ⟨v, hv, rfl⟩ := List.getElem_of_mem hxm
          by_cases hc : u ∈ ws[v].behind
          · have hm : Mem ws0 v u := (h.same.mem v u).1 ⟨_, List.getElem?_eq_getElem hv, hc⟩
            exact absurd ⟨v, hm, fun e => hpx ((h.plac v _ (List.getElem?_eq_getElem hv)).2 e)⟩ hn
          · rw [List.count_eq_zero_of_not_mem hc]
            rfl
      have hfree : freeB ws[u] = true := by
        unfold freeB
        rw [hpl, hw]
        rfl
      have := hmin u hul hu
      rw [hfree] at this
      cases this
theorem Grd.snoc {ws0 : List Sw} {pi : List Nat} (h : Grd ws0 pi) {j : Nat} (hj : ∀ u, u < j → u ∈ pi ∨ ∃ v, Mem ws0 v u ∧ v ∉ pi) : Grd ws0 (pi ++ [j]) := by
  intro pre x suf he u hu
  rcases List.eq_nil_or_concat suf with rfl | ⟨s, y, rfl⟩
  · obtain ⟨rfl, e⟩ := List.append_inj' he rfl
    obtain rfl : j = x := by simpa using e
    exact hj u hu
  · rw [List.concat_eq_append, ← List.cons_append, ← List.append_assoc] at he
    obtain ⟨rfl, _⟩ := List.append_inj' he rfl
    exact h pre x s rfl u hu
/-- lay's run, and that it is greedy -/
theorem lay_grd {ws0 : List Sw} : ∀ (k : Nat) (ws : List Sw) (pi : List Nat), KI ws0 ws pi → Grd ws0 pi → ∃ pi' ws', layN k ws (pi.map (idAt ws0)) = pi'.map (idAt ws0) ∧ KI ws0 ws' pi' ∧ (pi'.length = pi.length + k ∨ fidx freeB ws' = -1) ∧ Grd ws0 pi'
  | 0, ws, pi, h, g => ⟨pi, ws, rfl, h, .inl rfl, g⟩
  | k + 1, ws, pi, h, g => by
    rcases fidx_find freeB ws with ⟨_, e⟩ | ⟨j, hj, _, e⟩
    · exact ⟨pi, ws, layN_stop _ _ e, h, .inr e, g⟩
    · obtain ⟨pi', ws', h1, h2, h3, h4⟩ := lay_grd k _ _ (h.step e) (g.snoc fun u hu => h.first e hu)
      refine ⟨pi', ws', ?_, h2, ?_, h4⟩
      · rw [layN_go (k := k + 1) _ (Nat.succ_pos _) e, ← h1]
        have hid : idAt ws j = idAt ws0 j := by
          have := h.same.ev j
          unfold idAt
          cases hx : ws[j]? with
          | none => rw [hx] at this; cases hy : ws0[j]? with
            | none => rfl
            | some y => rw [hy] at this; cases this
          | some x => rw [hx] at this; cases hy : ws0[j]? with
            | none => rw [hy] at this; cases this
            | some y =>
              rw [hy] at this
              simp only [Option.map_some, Option.some.injEq, Prod.mk.injEq] at this
              show x.ev.f3 = y.ev.f3
              rw [this.1]
        rw [List.map_append, List.map_cons, List.map_nil, hid]
        rfl
      · rcases h3 with h3 | h3
        · refine .inl ?_
          rw [h3, List.length_append, List.length_singleton]
          omega
        · exact .inr h3
/-- the first that search comes to is lay's -/
theorem srch_grd {ws0 : List Sw} {T : List (Int × Int)} {f : Nat → Int} {n : Nat} {pi : List Nat} (hlen : pi.length = n) (hlt : ∀ u ∈ pi, u < n) (hnd : pi.Nodup) (hinj : ∀ u v, u < n → v < n → f u = f v → u = v)
    (hmem : ∀ u v, Mem ws0 u v → u < n ∧ (f u, f v) ∈ T) (hg : Grd ws0 pi) (hne : ∀ u, ¬ Mem ws0 u u) (hm : meetsB (pi.map f) T = true) : ∀ (k : Nat) (pre suf : List Nat), pi = pre ++ suf → suf.length = k → srch ((List.range n).map f) T k (pre.map f) = some (pi.map f)
  | 0, pre, suf, he, hk => by
    obtain rfl := List.length_eq_zero_iff.1 hk
    rw [List.append_nil] at he
    subst he
    unfold srch
    rw [if_pos hm]
  | k + 1, pre, [], he, hk => by cases hk
  | k + 1, pre, x :: suf, he, hk => by
    have ih := srch_grd hlen hlt hnd hinj hmem hg hne hm k (pre ++ [x]) suf (by rw [he, List.append_assoc]; rfl) (by simpa using hk)
    have hxn : x < n := hlt x (by rw [he]; simp)
    have hmp : ∀ u, u < n → (f u ∈ pre.map f ↔ u ∈ pre) := fun u hu => by
      rw [List.mem_map]
      constructor
      · rintro ⟨v, hv, e⟩
        have := hinj v u (hlt v (by rw [he]; exact List.mem_append_left _ hv)) hu e
        subst this
        exact hv
      · exact fun h => ⟨u, h, rfl⟩
    have hxp : x ∉ pre := fun h => by
      rw [he, List.nodup_append] at hnd
      exact hnd.2.2 x h x List.mem_cons_self rfl
    have hsplit : List.range n = List.range x ++ x :: (List.range (n - (x + 1))).map (fun t => x + 1 + t) := by
      refine List.ext_getElem (by simp; omega) fun i h1 h2 => ?_
      rw [List.getElem_range]
      simp only [List.length_range] at h1
      rcases Nat.lt_trichotomy i x with e | e | e
      · rw [List.getElem_append_left (by simpa using e), List.getElem_range]
      · subst e
        rw [List.getElem_append_right (by simp)]
        simp
      · rw [List.getElem_append_right (by simp; omega)]
        obtain ⟨m, rfl⟩ : ∃ m, i = x + (m + 1) := ⟨i - x - 1, by omega⟩
        simp only [List.length_range, Nat.add_sub_cancel_left, List.getElem_cons_succ, List.getElem_map, List.getElem_range]
        omega
    unfold srch
    rw [hsplit, List.map_append, List.findSome?_append]
    have h1 : ((List.range x).map f).findSome? (fun id => if 0 ≤ placeI (pre.map f) id then none else srch ((List.range x).map f ++ (x :: (List.range (n - (x + 1))).map (fun t => x + 1 + t)).map f) T k (pre.map f ++ [id])) = none := by
      rw [List.findSome?_eq_none_iff]
      intro id hid
      obtain ⟨u, hu, rfl⟩ := List.mem_map.1 hid
      have hu := List.mem_range.1 hu
      split
      · rfl
      · rename_i hnp
        have hup : u ∉ pre := fun h => hnp (place_lt ((hmp u (by omega)).2 h)).1
        rcases hg pre x suf he u hu with h | ⟨v, hv, hvp⟩
        · exact absurd h hup
        · obtain ⟨hvn, hvT⟩ := hmem v u hv
          refine srch_bad hvT (by simp) ?_
          rw [List.mem_append, List.mem_singleton]
          rintro (h | h)
          · exact hvp ((hmp v hvn).1 h)
          · have := hinj v u hvn (by omega) h
            subst this
            exact hne _ hv
    have h2 : (if 0 ≤ placeI (pre.map f) (f x) then none else srch ((List.range n).map f) T k (pre.map f ++ [f x])) = some (pi.map f) := by
      rw [if_neg, ← ih, List.map_append]
      · rfl
      · rw [place_none (fun h => hxp ((hmp x hxn).1 h))]
        decide
    rw [← List.map_append, ← hsplit] at h1
    rw [← List.map_append, ← hsplit, h1, List.map_cons, List.findSome?_cons, h2]
    rfl
end Go.Proofs.YtiibjgnmdieicaaGreat.Hist
/- The least order: what Order tells is the first that search comes to. -/
namespace Go.Proofs.YtiibjgnmdieicaaGreat.Hist
open Go.RowKit Go.Proofs.YtiibjgnmdieicaaGreatW.PrintWords Go.Sort
section
variable {l : List Evt}
theorem of_layG (hpb : properB l = true) {o : Os} (hO : OF l (coN l l.length) o) : ∃ pi ws', layAll o.ws = pi.map (idAt o.ws) ∧ KI o.ws ws' pi ∧ ws'.length = o.ws.length ∧ (pi.length = o.ws.length ∨ fidx freeB ws' = -1) ∧ Grd o.ws pi := by
  have H := prp hpb
  have h := coll_inv H l.length (Nat.le_refl _)
  have h0 : KI o.ws o.ws [] := by
    refine ⟨SameB.refl _, hO.kn, ?_, List.nodup_nil, ?_, ?_⟩
    · intro u x hx
      obtain ⟨y, hy, _, _, _, e⟩ := hO.same.get hx
      obtain ⟨_, _, _, _, _, _, e2⟩ := h.w1 u y hy
      rw [e, e2]
      simp
    · intro u hu
      cases hu
    · intro v hv
      cases hv
  have g0 : Grd o.ws [] := fun pre x suf he => by
    have := congrArg List.length he
    simp at this
  obtain ⟨pi, ws', h1, h2, h3, h4⟩ := lay_grd o.ws.length o.ws [] h0 g0
  refine ⟨pi, ws', h1, h2, h2.same.len, ?_, h4⟩
  simpa using h3
/-- an edge is a constraint -/
theorem edge_tie (hpb : properB l = true) {o : Os} (hO : OF l (coN l l.length) o) {u v : Nat} (m : Mem o.ws u v) : u < o.ws.length ∧ (idAt o.ws u, idAt o.ws v) ∈ tiesL l := by
  have H := prp hpb
  have h := coll_inv H l.length (Nat.le_refl _)
  have hul : u < o.ws.length := by
    obtain ⟨x, hx, _⟩ := m
    exact (List.getElem?_eq_some_iff.1 hx).1
  refine ⟨hul, mem_ties.2 ?_⟩
  rw [id_same hO.same, id_same hO.same]
  rcases hO.me u v m with m | ⟨x, y, hx, hy, hT⟩
  · obtain ⟨huv, x, y, hx, hy, hc⟩ := h.me u v m
    rw [id_at_ hx, id_at_ hy]
    obtain ⟨p, hp, _, e1, e2, ip, _⟩ := h.w1 u x hx
    obtain ⟨r, hr, _, e3, e4, ir, _⟩ := h.w1 v y hy
    have := h.w3 u v x y huv hx hy
    rw [e2, e4] at hc ⊢
    exact .inl ⟨p, r, hp, hr, by omega, ip, ir, hc, rfl, rfl⟩
  · rw [id_at_ hx, id_at_ hy]
    exact .inr hT
theorem ids_of {o : Os} (hO : OF l (coN l l.length) o) : idsL l = (List.range o.ws.length).map (idAt o.ws) := by
  have h1 := coN_ids l l.length (Nat.le_refl _)
  rw [List.take_of_length_le (Nat.le_refl _), ← evs_same hO.same] at h1
  rw [← h1]
  refine List.ext_getElem (by simp) fun i h2 h3 => ?_
  have hi : i < o.ws.length := by simpa using h2
  rw [List.getElem_map, List.getElem_map, List.getElem_range, id_at_ (List.getElem?_eq_getElem hi)]
theorem order_least {L : List Int} (ho : orderS l = (L, true, 0)) : srch (idsL l) (tiesL l) (idsL l).length [] = some L := by
  obtain ⟨-, -, -, -, htie, -⟩ := order_yes ho
  have hm : meetsB L (tiesL l) = true := meets_of fun a b hab => htie a b (mem_ties.1 hab)
  unfold orderS at ho
  split at ho
  case isFalse => simp at ho
  rename_i hpb
  rw [coN_all] at ho
  split at ho
  case isFalse => simp at ho
  rename_i hok
  split at ho
  case isTrue => simp at ho
  rename_i hr
  have hO := of_run hpb hok
  simp only [Prod.mk.injEq] at ho
  obtain ⟨rfl, _⟩ := ho
  generalize (orderRun l l 0 (coN l l.length).o).1 = o at *
  have hln : ¬ (layAll o.ws).length < o.ws.length := fun e => hr (.inr e)
  obtain ⟨pi, ws', h1, h2, h3, _, hg⟩ := of_layG hpb hO
  rw [h1] at hln hm ⊢
  rw [List.length_map] at hln
  have hlt : ∀ u ∈ pi, u < o.ws.length := fun u hu => by have := h2.lt u hu; rwa [h3] at this
  have hplen : pi.length = o.ws.length := by
    have := nodup_len o.ws.length pi h2.nd hlt
    omega
  rw [ids_of hO, List.length_map, List.length_range]
  exact srch_grd hplen hlt h2.nd (inj_id hpb hO) (fun u v m => edge_tie hpb hO m) hg (fun u m => by
    have := of_meets hm (edge_tie hpb hO m).2
    omega) hm o.ws.length [] pi rfl hplen
/-- where there is none, no list meets them -/
theorem order_none {L : List Int} (ho : orderS l = (L, false, 0)) : (∃ a, TieR l a 0) ∨ ∀ x, meetsB x (tiesL l) = false := by
  unfold orderS at ho
  split at ho
  case isFalse => simp at ho
  rename_i hpb
  rw [coN_all] at ho
  split at ho
  case isFalse => simp at ho
  rename_i hok
  split at ho
  case isFalse => simp at ho
  rename_i hr
  have hO := of_run hpb hok
  generalize (orderRun l l 0 (coN l l.length).o).1 = o at *
  rcases hr with hr | hr
  · exact .inl (hO.bad hr)
  · refine .inr fun x => ?_
    cases hm : meetsB x (tiesL l) with
    | false => rfl
    | true =>
      exfalso
      obtain ⟨pi, ws', h1, h2, h3, h4⟩ := of_lay hpb hO
      rw [h1, List.length_map] at hr
      rcases h4 with h4 | h4
      · omega
      · have := all_len o.ws.length pi fun u hu => h2.full h4 (fun u => placeI x (idAt o.ws u)) (fun u v m => (of_meets hm (edge_tie hpb hO m).2).2.2) u (by rw [h3]; exact hu)
        omega
end
end Go.Proofs.YtiibjgnmdieicaaGreat.Hist
