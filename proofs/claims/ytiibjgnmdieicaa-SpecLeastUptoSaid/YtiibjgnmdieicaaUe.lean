/- The least order, in plain words: search's first and lay's are one. -/
import Derived.Test.YtiibjgnmdieicaaUc
namespace Go.Proofs.Ytiibjgnmdieicaa.Hist
open Go.RowKit Go.Proofs.YtiibjgnmdieicaaW.PrintWords Go.Sort
/-- the names of the writes, by their places -/
def idsL (l : List Evt) : List Int := (l.filter isWB).map fun e => e.f3
theorem evs_same {ws ws' : List Sw} (h : SameD ws ws') : ws'.map (fun x : Sw => x.ev.f3) = ws.map fun x : Sw => x.ev.f3 := by
  refine List.ext_getElem? fun i => ?_
  have := h i
  rw [List.getElem?_map, List.getElem?_map]
  cases hx : ws[i]? with
  | none =>
    cases hy : ws'[i]? with
    | none => rfl
    | some y => rw [hx, hy] at this; cases this
  | some x =>
    cases hy : ws'[i]? with
    | none => rw [hx, hy] at this; cases this
    | some y =>
      rw [hx, hy] at this
      simp only [Option.map_some, Option.some.injEq, prS, Prod.mk.injEq] at this
      show some y.ev.f3 = some x.ev.f3
      rw [this.1]
theorem evs_done (ws : List Sw) (n : Nat) (i : Int) : (ws.modify n fun x => doneW x i).map (fun x : Sw => x.ev.f3) = ws.map fun x : Sw => x.ev.f3 := by
  refine List.ext_getElem? fun k => ?_
  rw [List.getElem?_map, List.getElem?_map, List.getElem?_modify]
  cases ws[k]? with
  | none => rfl
  | some x =>
    show some _ = some _
    split <;> rfl
theorem coN_ids (l : List Evt) : ∀ j, j ≤ l.length → (coN l j).o.ws.map (fun x : Sw => x.ev.f3) = idsL (l.take j)
  | 0, _ => by simp [coN, cs0, idsL]
  | j + 1, hj => by
    have ih := coN_ids l j (by omega)
    have hl : j < l.length := by omega
    have hs : idsL (l.take (j + 1)) = idsL (l.take j) ++ if isWB l[j] = true then [l[j].f3] else [] := by
      unfold idsL
      rw [← List.take_append_getElem hl, List.filter_append, List.map_append]
      congr 1
      simp only [List.filter_cons, List.filter_nil]
      split <;> rfl
    rw [coN_succ hl, hs, ← ih]
    unfold collS
    by_cases w : l[j].f0 = 1 ∧ l[j].f3 ≠ 0
    · rw [if_pos w, if_pos ((isWB_iff _).2 w)]
      show (match (coN l j).last l[j].f1 with | none => pushS (coN l j).o j l[j] | some u => aheadS (pushS (coN l j).o j l[j]) u l[j].f3).ws.map (fun x : Sw => x.ev.f3) = _
      split
      · simp [pushS, newSw]
      · rw [evs_same (SameD.aheadS _ _ _)]
        simp [pushS, newSw]
    · rw [if_neg w, if_neg (fun e => w ((isWB_iff _).1 e)), List.append_nil]
      split
      · split
        · rfl
        · exact evs_done _ _ _
      · rfl
/-- search, in plain words -/
def srch (ids : List Int) (T : List (Int × Int)) : Nat → List Int → Option (List Int)
  | 0, so => if meetsB so T = true then some so else none
  | n + 1, so => ids.findSome? fun id => if 0 ≤ placeI so id then none else srch ids T n (so ++ [id])
theorem fidx_spec {α : Type} (p : α → Bool) (l : List α) : (fidx p l = -1 ∧ ∀ t, (ht : t < l.length) → p l[t] = false) ∨ ∃ j, ∃ h : j < l.length, fidx p l = (j : Int) ∧ p l[j] = true ∧ ∀ t, (ht : t < l.length) → t < j → p l[t] = false := by
  unfold fidx
  by_cases h : l.any p = true
  · right
    have hlt : l.findIdx p < l.length := List.findIdx_lt_length.2 (by simpa using h)
    exact ⟨l.findIdx p, hlt, if_pos h, List.findIdx_getElem (w := hlt), fun t ht h2 => by simpa using List.not_of_lt_findIdx h2⟩
  · left
    refine ⟨if_neg h, fun t ht => ?_⟩
    cases hb : p l[t] with
    | false => rfl
    | true => exact absurd (List.any_eq_true.2 ⟨_, List.getElem_mem ht, hb⟩) h
theorem place_lt {L : List Int} {a : Int} (h : a ∈ L) : 0 ≤ placeI L a ∧ placeI L a < L.length := by
  unfold placeI
  rcases fidx_spec (fun x => x == a) L with ⟨_, e⟩ | ⟨j, hj, e, _⟩
  · obtain ⟨t, ht, rfl⟩ := List.getElem_of_mem h
    have := e t ht
    simp at this
  · rw [e]
    omega
theorem place_none {L : List Int} {a : Int} (h : a ∉ L) : placeI L a = -1 := by
  unfold placeI
  refine fidx_none fun t ht => ?_
  cases hb : (L[t] == a) with
  | false => rfl
  | true =>
    rw [beq_iff_eq] at hb
    subst hb
    exact absurd (List.getElem_mem ht) h
theorem place_app {L : List Int} {a : Int} (r : List Int) (h : a ∈ L) : placeI (L ++ r) a = placeI L a := by
  unfold placeI
  rcases fidx_spec (fun x => x == a) L with ⟨_, e⟩ | ⟨j, hj, e, hb, hm⟩
  · obtain ⟨t, ht, rfl⟩ := List.getElem_of_mem h
    have := e t ht
    simp at this
  · rw [e]
    refine fidx_at (by rw [List.length_append]; omega) (fun t ht htj => ?_) ?_
    · have htl : t < L.length := by omega
      rw [List.getElem_append_left htl]
      exact hm t htl htj
    · rw [List.getElem_append_left hj]
      exact hb
theorem place_new {L : List Int} {a : Int} (r : List Int) (h : a ∉ L) : placeI (L ++ r) a = -1 ∨ (L.length : Int) ≤ placeI (L ++ r) a := by
  unfold placeI
  rcases fidx_spec (fun x => x == a) (L ++ r) with ⟨e, _⟩ | ⟨j, hj, e, hb, _⟩
  · exact .inl e
  · refine .inr ?_
    rw [e]
    by_cases hjl : j < L.length
    · rw [List.getElem_append_left hjl, beq_iff_eq] at hb
      exact absurd (hb ▸ List.getElem_mem hjl) h
    · omega
theorem srch_ext {ids : List Int} {T : List (Int × Int)} : ∀ (n : Nat) (so x : List Int), srch ids T n so = some x → (∃ r, x = so ++ r) ∧ meetsB x T = true
  | 0, so, x, h => by
    unfold srch at h
    split at h
    · obtain rfl := Option.some.inj h
      exact ⟨⟨[], (List.append_nil _).symm⟩, by assumption⟩
    · cases h
  | n + 1, so, x, h => by
    unfold srch at h
    obtain ⟨id, _, h⟩ := List.exists_of_findSome?_eq_some h
    split at h
    · cases h
    · obtain ⟨⟨r, hr⟩, hm⟩ := srch_ext n _ _ h
      exact ⟨⟨[id] ++ r, by rw [hr, List.append_assoc]⟩, hm⟩
/-- nothing goes on from a beginning that has broken a constraint -/
theorem srch_bad {ids : List Int} {T : List (Int × Int)} {n : Nat} {so : List Int} {a b : Int} (hT : (a, b) ∈ T) (hb : b ∈ so) (ha : a ∉ so) : srch ids T n so = none := by
  cases h : srch ids T n so with
  | none => rfl
  | some x =>
    exfalso
    obtain ⟨⟨r, rfl⟩, hm⟩ := srch_ext n so x h
    obtain ⟨h1, h2, h3⟩ := of_meets hm hT
    rw [place_app r hb] at h3
    have := (place_lt hb).2
    rcases place_new r ha with e | e <;> omega
/-- each is the first that may come -/
def Grd (ws0 : List Sw) (pi : List Nat) : Prop := ∀ pre x suf, pi = pre ++ x :: suf → ∀ u, u < x → u ∈ pre ∨ ∃ v, Mem ws0 v u ∧ v ∉ pre
theorem sumI_all0 (a : Nat) (l : List Sw) (h : ∀ x ∈ l, named a x = 0) : sumI (named a) l = 0 := by
  induction l with
  | nil => rfl
  | cons x t ih =>
    simp only [sumI, h x List.mem_cons_self, ih fun y hy => h y (List.mem_cons_of_mem _ hy)]
    rfl
theorem KI.first {ws0 ws : List Sw} {pi : List Nat} (h : KI ws0 ws pi) {j : Nat} (hf : fidx freeB ws = (j : Int)) {u : Nat} (hu : u < j) : u ∈ pi ∨ ∃ v, Mem ws0 v u ∧ v ∉ pi := by
  by_cases hp : u ∈ pi
  · exact .inl hp
  · refine .inr (Classical.byContradiction fun hn => ?_)
    rcases fidx_spec freeB ws with ⟨e, _⟩ | ⟨k, hk, e, _, hmin⟩
    · rw [e] at hf
      omega
    · have : k = j := by rw [e] at hf; omega
      subst this
      have hul : u < ws.length := by omega
      have hx := List.getElem?_eq_getElem hul
      have hpl : ws[u].placed = false := by
        cases hb : ws[u].placed with
        | false => rfl
        | true => exact absurd ((h.plac u _ hx).1 hb) hp
      have hw : ws[u].waits = 0 := by
        rw [h.kn u _ hx]
        refine sumI_all0 u ws fun x hxm => ?_
        unfold named
        split
        · rfl
        · rename_i hpx
          obtain ⟨v, hv, rfl⟩ := List.getElem_of_mem hxm
          by_cases hc : u ∈ ws[v].behind
          · have hm : Mem ws0 v u := (h.same.mem v u).1 ⟨_, List.getElem?_eq_getElem hv, hc⟩
            exact absurd ⟨v, hm, fun e => hpx ((h.plac v _ (List.getElem?_eq_getElem hv)).2 e)⟩ hn
          · rw [List.count_eq_zero_of_not_mem hc]
            rfl
      have hfree : freeB ws[u] = true := by
        unfold freeB
        rw [hpl, hw]
        rfl
      have := hmin u hul hu
      rw [hfree] at this
      cases this
theorem Grd.snoc {ws0 : List Sw} {pi : List Nat} (h : Grd ws0 pi) {j : Nat} (hj : ∀ u, u < j → u ∈ pi ∨ ∃ v, Mem ws0 v u ∧ v ∉ pi) : Grd ws0 (pi ++ [j]) := by
  intro pre x suf he u hu
  rcases List.eq_nil_or_concat suf with rfl | ⟨s, y, rfl⟩
  · obtain ⟨rfl, e⟩ := List.append_inj' he rfl
    obtain rfl : j = x := by simpa using e
    exact hj u hu
  · rw [List.concat_eq_append, ← List.cons_append, ← List.append_assoc] at he
    obtain ⟨rfl, _⟩ := List.append_inj' he rfl
    exact h pre x s rfl u hu
/-- lay's run, and that it is greedy -/
theorem lay_grd {ws0 : List Sw} : ∀ (k : Nat) (ws : List Sw) (pi : List Nat), KI ws0 ws pi → Grd ws0 pi → ∃ pi' ws', layN k ws (pi.map (idAt ws0)) = pi'.map (idAt ws0) ∧ KI ws0 ws' pi' ∧ (pi'.length = pi.length + k ∨ fidx freeB ws' = -1) ∧ Grd ws0 pi'
  | 0, ws, pi, h, g => ⟨pi, ws, rfl, h, .inl rfl, g⟩
  | k + 1, ws, pi, h, g => by
    rcases fidx_find freeB ws with ⟨_, e⟩ | ⟨j, hj, _, e⟩
    · exact ⟨pi, ws, layN_stop _ _ e, h, .inr e, g⟩
    · obtain ⟨pi', ws', h1, h2, h3, h4⟩ := lay_grd k _ _ (h.step e) (g.snoc fun u hu => h.first e hu)
      refine ⟨pi', ws', ?_, h2, ?_, h4⟩
      · rw [layN_go (k := k + 1) _ (Nat.succ_pos _) e, ← h1]
        have hid : idAt ws j = idAt ws0 j := by
          have := h.same.ev j
          unfold idAt
          cases hx : ws[j]? with
          | none => rw [hx] at this; cases hy : ws0[j]? with
            | none => rfl
            | some y => rw [hy] at this; cases this
          | some x => rw [hx] at this; cases hy : ws0[j]? with
            | none => rw [hy] at this; cases this
            | some y =>
              rw [hy] at this
              simp only [Option.map_some, Option.some.injEq, Prod.mk.injEq] at this
              show x.ev.f3 = y.ev.f3
              rw [this.1]
        rw [List.map_append, List.map_cons, List.map_nil, hid]
        rfl
      · rcases h3 with h3 | h3
        · refine .inl ?_
          rw [h3, List.length_append, List.length_singleton]
          omega
        · exact .inr h3
/-- the first that search comes to is lay's -/
theorem srch_grd {ws0 : List Sw} {T : List (Int × Int)} {f : Nat → Int} {n : Nat} {pi : List Nat} (hlen : pi.length = n) (hlt : ∀ u ∈ pi, u < n) (hnd : pi.Nodup) (hinj : ∀ u v, u < n → v < n → f u = f v → u = v)
    (hmem : ∀ u v, Mem ws0 u v → u < n ∧ (f u, f v) ∈ T) (hg : Grd ws0 pi) (hne : ∀ u, ¬ Mem ws0 u u) (hm : meetsB (pi.map f) T = true) : ∀ (k : Nat) (pre suf : List Nat), pi = pre ++ suf → suf.length = k → srch ((List.range n).map f) T k (pre.map f) = some (pi.map f)
  | 0, pre, suf, he, hk => by
    obtain rfl := List.length_eq_zero_iff.1 hk
    rw [List.append_nil] at he
    subst he
    unfold srch
    rw [if_pos hm]
  | k + 1, pre, [], he, hk => by cases hk
  | k + 1, pre, x :: suf, he, hk => by
    have ih := srch_grd hlen hlt hnd hinj hmem hg hne hm k (pre ++ [x]) suf (by rw [he, List.append_assoc]; rfl) (by simpa using hk)
    have hxn : x < n := hlt x (by rw [he]; simp)
    have hmp : ∀ u, u < n → (f u ∈ pre.map f ↔ u ∈ pre) := fun u hu => by
      rw [List.mem_map]
      constructor
      · rintro ⟨v, hv, e⟩
        have := hinj v u (hlt v (by rw [he]; exact List.mem_append_left _ hv)) hu e
        subst this
        exact hv
      · exact fun h => ⟨u, h, rfl⟩
    have hxp : x ∉ pre := fun h => by
      rw [he, List.nodup_append] at hnd
      exact hnd.2.2 x h x List.mem_cons_self rfl
    have hsplit : List.range n = List.range x ++ x :: (List.range (n - (x + 1))).map (fun t => x + 1 + t) := by
      refine List.ext_getElem (by simp; omega) fun i h1 h2 => ?_
      rw [List.getElem_range]
      simp only [List.length_range] at h1
      rcases Nat.lt_trichotomy i x with e | e | e
      · rw [List.getElem_append_left (by simpa using e), List.getElem_range]
      · subst e
        rw [List.getElem_append_right (by simp)]
        simp
      · rw [List.getElem_append_right (by simp; omega)]
        obtain ⟨m, rfl⟩ : ∃ m, i = x + (m + 1) := ⟨i - x - 1, by omega⟩
        simp only [List.length_range, Nat.add_sub_cancel_left, List.getElem_cons_succ, List.getElem_map, List.getElem_range]
        omega
    unfold srch
    rw [hsplit, List.map_append, List.findSome?_append]
    have h1 : ((List.range x).map f).findSome? (fun id => if 0 ≤ placeI (pre.map f) id then none else srch ((List.range x).map f ++ (x :: (List.range (n - (x + 1))).map (fun t => x + 1 + t)).map f) T k (pre.map f ++ [id])) = none := by
      rw [List.findSome?_eq_none_iff]
      intro id hid
      obtain ⟨u, hu, rfl⟩ := List.mem_map.1 hid
      have hu := List.mem_range.1 hu
      split
      · rfl
      · rename_i hnp
        have hup : u ∉ pre := fun h => hnp (place_lt ((hmp u (by omega)).2 h)).1
        rcases hg pre x suf he u hu with h | ⟨v, hv, hvp⟩
        · exact absurd h hup
        · obtain ⟨hvn, hvT⟩ := hmem v u hv
          refine srch_bad hvT (by simp) ?_
          rw [List.mem_append, List.mem_singleton]
          rintro (h | h)
          · exact hvp ((hmp v hvn).1 h)
          · have := hinj v u hvn (by omega) h
            subst this
            exact hne _ hv
    have h2 : (if 0 ≤ placeI (pre.map f) (f x) then none else srch ((List.range n).map f) T k (pre.map f ++ [f x])) = some (pi.map f) := by
      rw [if_neg, ← ih, List.map_append]
      · rfl
      · rw [place_none (fun h => hxp ((hmp x hxn).1 h))]
        decide
    rw [← List.map_append, ← hsplit] at h1
    rw [← List.map_append, ← hsplit, h1, List.map_cons, List.findSome?_cons, h2]
    rfl
end Go.Proofs.Ytiibjgnmdieicaa.Hist
/- The least order: what Order tells is the first that search comes to. -/
namespace Go.Proofs.Ytiibjgnmdieicaa.Hist
open Go.RowKit Go.Proofs.YtiibjgnmdieicaaW.PrintWords Go.Sort
section
variable {l : List Evt}
theorem of_layG (hpb : properB l = true) {o : Os} (hO : OF l (coN l l.length) o) : ∃ pi ws', layAll o.ws = pi.map (idAt o.ws) ∧ KI o.ws ws' pi ∧ ws'.length = o.ws.length ∧ (pi.length = o.ws.length ∨ fidx freeB ws' = -1) ∧ Grd o.ws pi := by
  have H := prp hpb
  have h := coll_inv H l.length (Nat.le_refl _)
  have h0 : KI o.ws o.ws [] := by
    refine ⟨SameB.refl _, hO.kn, ?_, List.nodup_nil, ?_, ?_⟩
    · intro u x hx
      obtain ⟨y, hy, _, _, _, e⟩ := hO.same.get hx
      obtain ⟨_, _, _, _, _, _, e2⟩ := h.w1 u y hy
      rw [e, e2]
      simp
    · intro u hu
      cases hu
    · intro v hv
      cases hv
  have g0 : Grd o.ws [] := fun pre x suf he => by
    have := congrArg List.length he
    simp at this
  obtain ⟨pi, ws', h1, h2, h3, h4⟩ := lay_grd o.ws.length o.ws [] h0 g0
  refine ⟨pi, ws', h1, h2, h2.same.len, ?_, h4⟩
  simpa using h3
/-- an edge is a constraint -/
theorem edge_tie (hpb : properB l = true) {o : Os} (hO : OF l (coN l l.length) o) {u v : Nat} (m : Mem o.ws u v) : u < o.ws.length ∧ (idAt o.ws u, idAt o.ws v) ∈ tiesL l := by
  have H := prp hpb
  have h := coll_inv H l.length (Nat.le_refl _)
  have hul : u < o.ws.length := by
    obtain ⟨x, hx, _⟩ := m
    exact (List.getElem?_eq_some_iff.1 hx).1
  refine ⟨hul, mem_ties.2 ?_⟩
  rw [id_same hO.same, id_same hO.same]
  rcases hO.me u v m with m | ⟨x, y, hx, hy, hT⟩
  · obtain ⟨huv, x, y, hx, hy, hc⟩ := h.me u v m
    rw [id_at_ hx, id_at_ hy]
    obtain ⟨p, hp, _, e1, e2, ip, _⟩ := h.w1 u x hx
    obtain ⟨r, hr, _, e3, e4, ir, _⟩ := h.w1 v y hy
    have := h.w3 u v x y huv hx hy
    rw [e2, e4] at hc ⊢
    exact .inl ⟨p, r, hp, hr, by omega, ip, ir, hc, rfl, rfl⟩
  · rw [id_at_ hx, id_at_ hy]
    exact .inr hT
theorem ids_of {o : Os} (hO : OF l (coN l l.length) o) : idsL l = (List.range o.ws.length).map (idAt o.ws) := by
  have h1 := coN_ids l l.length (Nat.le_refl _)
  rw [List.take_of_length_le (Nat.le_refl _), ← evs_same hO.same] at h1
  rw [← h1]
  refine List.ext_getElem (by simp) fun i h2 h3 => ?_
  have hi : i < o.ws.length := by simpa using h2
  rw [List.getElem_map, List.getElem_map, List.getElem_range, id_at_ (List.getElem?_eq_getElem hi)]
theorem order_least {L : List Int} (ho : orderS l = (L, true, 0)) : srch (idsL l) (tiesL l) (idsL l).length [] = some L := by
  obtain ⟨-, -, -, -, htie, -⟩ := order_yes ho
  have hm : meetsB L (tiesL l) = true := meets_of fun a b hab => htie a b (mem_ties.1 hab)
  unfold orderS at ho
  split at ho
  case isFalse => simp at ho
  rename_i hpb
  rw [coN_all] at ho
  split at ho
  case isFalse => simp at ho
  rename_i hok
  split at ho
  case isTrue => simp at ho
  rename_i hr
  have hO := of_run hpb hok
  simp only [Prod.mk.injEq] at ho
  obtain ⟨rfl, _⟩ := ho
  generalize (orderRun l l 0 (coN l l.length).o).1 = o at *
  have hln : ¬ (layAll o.ws).length < o.ws.length := fun e => hr (.inr e)
  obtain ⟨pi, ws', h1, h2, h3, _, hg⟩ := of_layG hpb hO
  rw [h1] at hln hm ⊢
  rw [List.length_map] at hln
  have hlt : ∀ u ∈ pi, u < o.ws.length := fun u hu => by have := h2.lt u hu; rwa [h3] at this
  have hplen : pi.length = o.ws.length := by
    have := nodup_len o.ws.length pi h2.nd hlt
    omega
  rw [ids_of hO, List.length_map, List.length_range]
  exact srch_grd hplen hlt h2.nd (inj_id hpb hO) (fun u v m => edge_tie hpb hO m) hg (fun u m => by
    have := of_meets hm (edge_tie hpb hO m).2
    omega) hm o.ws.length [] pi rfl hplen
/-- where there is none, no list meets them -/
theorem order_none {L : List Int} (ho : orderS l = (L, false, 0)) : (∃ a, TieR l a 0) ∨ ∀ x, meetsB x (tiesL l) = false := by
  unfold orderS at ho
  split at ho
  case isFalse => simp at ho
  rename_i hpb
  rw [coN_all] at ho
  split at ho
  case isFalse => simp at ho
  rename_i hok
  split at ho
  case isFalse => simp at ho
  rename_i hr
  have hO := of_run hpb hok
  generalize (orderRun l l 0 (coN l l.length).o).1 = o at *
  rcases hr with hr | hr
  · exact .inl (hO.bad hr)
  · refine .inr fun x => ?_
    cases hm : meetsB x (tiesL l) with
    | false => rfl
    | true =>
      exfalso
      obtain ⟨pi, ws', h1, h2, h3, h4⟩ := of_lay hpb hO
      rw [h1, List.length_map] at hr
      rcases h4 with h4 | h4
      · omega
      · have := all_len o.ws.length pi fun u hu => h2.full h4 (fun u => placeI x (idAt o.ws u)) (fun u v m => (of_meets hm (edge_tie hpb hO m).2).2.2) u (by rw [h3]; exact hu)
        omega
end
end Go.Proofs.Ytiibjgnmdieicaa.Hist
/- spec's laws: two laws on append, for search. -/
namespace Go.Proofs.Ytiibjgnmdieicaa.Hist
open Go.RowKit Go.Proofs.YtiibjgnmdieicaaW.PrintWords Go.Sort
abbrev tIs : TypeId := 38
theorem append_nothing (W : World) : (Builtin.append_ #[tIs, tIs] tIs #[.slice none 0 0, .slice none 0 0]).run Try.prog W = .ok (.slice none 0 0) W := by kernel_rfl
theorem one_ids {l : List Int} {inner : List Value} (h : Reps RID 1 l inner) : ∀ u ∈ inner, u.oneCell' = true := by
  intro u hu
  obtain ⟨i, hi, rfl⟩ := List.getElem_of_mem hu
  have hil : i < l.length := by have := h.1; omega
  have := h.2 i l[i] (List.getElem?_eq_getElem hil)
  unfold RID at this
  rw [Nat.mul_one, List.drop_eq_getElem_cons hi] at this
  simp only [List.take_succ_cons, List.take_zero, List.cons.injEq] at this
  rw [this.1]
  rfl
section
variable {ops : Array Oper} {o : Oper} {a : Act} {K : Act → World → Prop} {Q : Exit → Act → World → Prop} {w W : World}
/-- append(nil, so...): a copy of the program's own -/
theorem step_copy (hg : o.guard = none) (s x : Operand) (hop : o.op = .call { callee := .builtin .append, args := #[s, x], argTypes := #[tIs, tIs] }) (hty : o.type = tIs)
    (so : List Int) (A : Option Addr) (c : Nat) (hR : RowC RID 1 W A so) (h0 : so = [] → A = none ∧ c = 0) (hB : Below w.heap.size w W) (hn : so.length ≤ 64) (hs : a.eval s = .slice none 0 0) (hx : a.eval x = .slice A so.length c)
    (h : ∀ A1 c1 w1, OwnRow RID tID 1 w1 w.heap.size (.slice A1 so.length c1) so → Below w.heap.size w w1 → Below W.heap.size W w1 → K (a.put o.dst (.slice A1 so.length c1)) w1) :
    if Region.wanted o (yielded ops a.tmps) = true then Oper.wp Try.prog o a W K Q else K (a.put o.dst undef) W := by
  cases so with
  | nil =>
    obtain ⟨rfl, rfl⟩ := h0 rfl
    have hw : Region.wanted o (yielded ops a.tmps) = true := by simp [Region.wanted, hg]
    rw [if_pos hw]
    have hrun := append_nothing W
    unfold Oper.wp
    simp only [List.length_nil] at hx h
    simp [execOp, hop, resolve, invoke, builtin, hs, hx, hty, hrun, Result.andThen]
    exact h none 0 W (OwnRow.none_ _ _ _ _ _) hB (Below.refl _ _)
  | cons y r =>
    generalize hso : y :: r = so at *
    have hpos : 0 < so.length := by rw [← hso]; simp
    obtain ⟨ad, rfl, _⟩ := hR.2.2 hpos
    obtain ⟨inner, hrep, hcell⟩ := ReadsRow.inner_ (R := RID) (size := 1) hR
    obtain ⟨i0, hi, hz0, hz1, hz2⟩ := info_parts infoID
    refine step_append_lies (w := W) hg s x tIs hop w.heap.size tID i0 _ 1 8 Try.underlying38 hi hz0 hz1 hz2 rfl (by decide) (.slice none 0 0) 0 [] hs (World.ownsRow_nil _ _ _ _) ad so.length c inner hx hrep.1 hcell (one_ids hrep) hpos (by unfold maxLen; omega) (by omega) hB.size _ rfl ?_
    intro g cap w1 own1 gr1 _ _
    rw [Nat.zero_add] at own1 ⊢
    rw [List.nil_append] at own1
    exact h _ _ _ ⟨inner, own1, hrep⟩ (pw_below_grown hB none hB.size gr1 (fun k e => by cases e)) (pw_below_grown (Below.refl _ _) none (Nat.le_refl _) gr1 (fun k e => by cases e))
/-- append(v, id), v being the program's own -/
theorem step_add (hg : o.guard = none) (s x : Operand) (hop : o.op = .call { callee := .builtin .append, args := #[s, x], argTypes := #[tIs, tIs] })
    (so : List Int) (v : Value) (id : Int) (b : Nat) (hO : OwnRow RID tID 1 W w.heap.size v so) (hB : Below w.heap.size w W) (hn : so.length ≤ 64) (hs : a.eval s = v) (hx : a.eval x = .slice (some ⟨b, 0, none⟩) 1 1) (hc : W.cell? ⟨b, 0, none⟩ = some (.int .u64 id))
    (h : ∀ A1 c1 w1, OwnRow RID tID 1 w1 w.heap.size (.slice A1 (so.length + 1) c1) (so ++ [id]) → Below w.heap.size w w1 → K (a.put o.dst (.slice A1 (so.length + 1) c1)) w1) :
    if Region.wanted o (yielded ops a.tmps) = true then Oper.wp Try.prog o a W K Q else K (a.put o.dst undef) W := by
  obtain ⟨inner, hown, hrep⟩ := hO
  obtain ⟨i0, hi, hz0, hz1, hz2⟩ := info_parts infoID
  refine step_append_lies (w := W) hg s x tIs hop w.heap.size tID i0 _ 1 8 Try.underlying38 hi hz0 hz1 hz2 rfl (by decide) v so.length inner hs hown ⟨b, 0, none⟩ 1 1 [.int .u64 id] hx rfl (fun j u hu => ?_) (fun u hu => ?_) (by decide) (by unfold maxLen; omega) (by omega) hB.size _ rfl ?_
  · cases j with
    | zero =>
      simp only [List.getElem?_cons_zero, Option.some.injEq] at hu
      subst hu
      rw [add_plain]
      exact hc
    | succ j => simp at hu
  · simp only [List.mem_singleton] at hu
    subst hu
    rfl
  · intro g cap w1 own1 gr1 _ _
    have hO : OwnRow RID tID 1 w1 w.heap.size (.slice (some ⟨g, 0, none⟩) (so.length + 1) cap) (so ++ [id]) := ⟨inner ++ [.int .u64 id], by rw [List.length_append, List.length_singleton]; exact own1, hrep.snoc (c := [.int .u64 id]) rfl rfl⟩
    exact h (some ⟨g, 0, none⟩) cap w1 hO (pw_below_grown hB _ hB.size gr1 (fun k e => own_base hown k e))
end
end Go.Proofs.Ytiibjgnmdieicaa.Hist
/- spec's laws: search, walked. -/
namespace Go.Proofs.Ytiibjgnmdieicaa.Hist
open Go.RowKit Go.Proofs.YtiibjgnmdieicaaW.PrintWords Go.Sort
/-- what search hands back -/
def Srched (w : World) (r : Option (List Int)) (e : Ending) (w' : World) : Prop := ∃ v, e = .returned (.tuple #[v, .bool r.isSome]) ∧ (∀ x, r = some x → ∃ A c, v = .slice A x.length c ∧ RowC RID 1 w' A x) ∧ Below w.heap.size w w'
def brS (ids : List Int) (T : List (Int × Int)) (n : Nat) (so : List Int) (id : Int) : Option (List Int) := if 0 ≤ placeI so id then none else srch ids T n (so ++ [id])
theorem srch_succ (ids : List Int) (T : List (Int × Int)) (n : Nat) (so : List Int) : srch ids T (n + 1) so = ids.findSome? (brS ids T n so) := rfl
theorem findSome_at {α β : Type} {f : α → Option β} {l : List α} {j : Nat} (hj : j < l.length) (hb : ∀ t, (ht : t < l.length) → t < j → f l[t] = none) {x : β} (h : f l[j] = some x) : l.findSome? f = some x := by
  have hs : l = l.take j ++ l[j] :: l.drop (j + 1) := by rw [← List.drop_eq_getElem_cons hj, List.take_append_drop]
  rw [hs, List.findSome?_append]
  have h1 : (l.take j).findSome? f = none := by
    rw [List.findSome?_eq_none_iff]
    intro y hy
    obtain ⟨t, ht, rfl⟩ := List.getElem_of_mem hy
    rw [List.getElem_take]
    exact hb t _ (by rw [List.length_take] at ht; omega)
  rw [h1, List.findSome?_cons, h]
  rfl
theorem findSome_no {α β : Type} {f : α → Option β} {l : List α} (hb : ∀ t, (ht : t < l.length) → f l[t] = none) : l.findSome? f = none := by
  rw [List.findSome?_eq_none_iff]
  intro y hy
  obtain ⟨t, ht, rfl⟩ := List.getElem_of_mem hy
  exact hb t ht
def RelSr (w : World) (ids : List Int) (T : List (Int × Int)) (n : Nat) (so : List Int) (s : Value) (wr : World) : Prop := ∃ j : Nat, j ≤ ids.length ∧ s = .int .i64 j ∧ (∀ t, (ht : t < ids.length) → t < j → brS ids T n so ids[t] = none) ∧ Below w.heap.size w wr
set_option maxHeartbeats 8000000 in
set_option maxRecDepth 100000 in
theorem search_any (ids : List Int) (T : List (Int × Int)) (h6 : ids.length ≤ 6) : ∀ (n : Nat) (so : List Int), so.length + n = ids.length → ∀ (I S B : Option Addr) (ic sc tc : Nat) (w : World), RowC RID 1 w I ids → RowC RID 1 w S so → (so = [] → S = none ∧ sc = 0) → RowC RT 2 w B T →
    Calls Try.prog 18 #[.slice I ids.length ic, .slice S so.length sc, .slice B T.length tc] w (Srched w (srch ids T n so))
  | 0, so, hl, I, S, B, ic, sc, tc, w, hI, hS, h0, hT => by
    have hme := Lib.hid (meets_any S B sc tc so T w hS hT)
    have hSc := Lib.hid fun W (hb : Below w.heap.size w W) => hS.below hb
    have hlen : so.length = ids.length := by omega
    unfold srch
    clear hI hT h0 hS hl
    generalize hm : meetsB so T = b at *
    generalize ids.length = m at *
    replace hm := Lib.hid hm
    generalize hsl : so.length = k at *
    subst hlen
    replace hsl := Lib.hid hsl
    cases b with
    | true =>
      go_enter Try.func18, Try.ntmps18
      go_wp2_with (first | (go_at_call 16; refine hme.out.mono ?_; rintro e W1 ⟨rfl, hb1⟩; have hr := Lib.hid (hSc.out W1 hb1); replace hb1 := Lib.hid hb1) | go_in)
      go_ret2
      refine ⟨_, rfl, fun x hx => ?_, hb1.out⟩
      obtain rfl : so = x := by simpa using hx
      exact ⟨S, sc, by rw [hsl.out]; rfl, hr.out⟩
    | false =>
      go_enter Try.func18, Try.ntmps18
      go_wp2_with (first | (go_at_call 16; refine hme.out.mono ?_; rintro e W1 ⟨rfl, hb1⟩; replace hb1 := Lib.hid hb1) | go_in)
      go_ret2
      exact ⟨_, rfl, (fun x hx => by simp at hx), hb1.out⟩
  | n + 1, so, hl, I, S, B, ic, sc, tc, w, hI, hS, h0, hT => by
    have hih := Lib.hid (search_any ids T h6 n)
    have hm : ids.length ≤ 9223372036854775807 := hI.2.1
    have b0 : ((so.length : Int) == (ids.length : Int)) = false := by
      simp only [beq_eq_false_iff_ne]
      omega
    have hpl := Lib.hid fun W (hb : Below w.heap.size w W) id => place_any S sc so id W (hS.below hb)
    obtain ⟨r, hr⟩ : ∃ r, r = srch ids T (n + 1) so := ⟨_, rfl⟩
    rw [← hr]
    rw [srch_succ] at hr
    replace hr := Lib.hid hr
    replace hI := Lib.hid hI
    replace hS := Lib.hid hS
    replace hT := Lib.hid hT
    replace h0 := Lib.hid h0
    go_enter Try.func18, Try.ntmps18
    go_wp2
    go_loopw [8] (fun s wr => RelSr w ids T n so s wr) (fun s _ => ids.length - (intOf s).toNat)
    case atStart => exact ⟨0, Nat.zero_le _, rfl, (fun t _ h => absurd h (Nat.not_lt_zero t)), Below.refl _ _⟩
    case round =>
      obtain ⟨j, hj, rfl, hp, hB⟩ := hrel
      by_cases hlt : j < ids.length
      · obtain ⟨ad, rfl, q0⟩ := id_at (hI.out.below hB) hlt
        have hca := hpl.out wr hB ids[j]
        have hno : brS ids T n so ids[j] = none → ∀ t, (ht : t < ids.length) → t < j + 1 → brS ids T n so ids[t] = none := fun h t ht h1 => by
          by_cases e : t = j
          · subst e; exact h
          · exact hp t ht (by omega)
        have hye : ∀ x, brS ids T n so ids[j] = some x → r = some x := fun x h => by rw [hr.out]; exact findSome_at hlt hp h
        have a1 : IntKind.i64.wrap ((j : Int) + 1) = (j : Int) + 1 := IntWalk.i64_in _ (by omega)
        unfold brS at hno hye
        generalize hid : ids[j] = id at *
        generalize placeI so id = pl at *
        replace hno := Lib.hid hno
        replace hye := Lib.hid hye
        replace hp := Lib.hid hp
        replace hca := Lib.hid hca
        replace hB := Lib.hid hB
        replace hid := Lib.hid hid
        go_wp2_with fail
        refine hca.out.mono ?_
        rintro e W1 ⟨rfl, hb1⟩
        have hB1 := below_then hB.out hB.out.size hb1
        replace q0 := pw_cell_below hb1 q0
        by_cases hpos : 0 ≤ pl
        · have b1 : decide (0 ≤ pl) = true := decide_eq_true hpos
          have hn2 := Lib.hid (hno.out (if_pos hpos))
          clear hno hye hca hb1
          replace hB1 := Lib.hid hB1
          replace hpos := Lib.hid hpos
          go_wp2
          go_roundw
          case rel => exact ⟨j + 1, by omega, by go_num, hn2.out, hB1.out⟩
          case measure => simp [intOf]; omega
        · have b1 : decide (0 ≤ pl) = false := decide_eq_false hpos
          have hnn := Lib.hid fun h => hno.out ((if_neg hpos).trans h)
          have hyy := Lib.hid fun x h => hye.out x ((if_neg hpos).trans h)
          clear hno hye hca hb1 hB
          obtain ⟨sr, hsr⟩ : ∃ sr, srch ids T n (so ++ [id]) = sr := ⟨_, rfl⟩
          rw [hsr] at hnn
          simp only [hsr] at hyy
          have hcl := fun (A2 : Option Addr) (c2 : Nat) (w4 : World) (hb : Below w.heap.size w w4) (hR : RowC RID 1 w4 A2 (so ++ [id])) => hih.out (so ++ [id]) (by rw [List.length_append, List.length_singleton]; omega) (some ad) A2 B ic c2 tc w4 (hI.out.below hb) hR (fun e => by simp at e) (hT.out.below hb)
          simp only [hsr, List.length_append, List.length_singleton] at hcl
          replace hcl := Lib.hid hcl
          have hSW : Hid (∀ W', Below w.heap.size w W' → W'.cell? (ad.add j) = some (.int .u64 id)) := fun W' hb => by
            obtain ⟨ad', e, h⟩ := id_at (hI.out.below hb) hlt
            cases e
            rw [hid.out] at h
            exact h
          replace hpos := Lib.hid hpos
          have hbD := below_then hB1 hB1.size (below_drew (Below.refl W1.heap.size W1))
          have hbA := below_then hbD hbD.size (below_alloc (Below.refl _ _) (.cells #[.int .u64 id] tID))
          have hbDA : Below W1.drew.heap.size W1.drew (W1.drew.alloc (.cells #[.int .u64 id] tID)) := below_alloc (Below.refl _ _) _
          have hcA := blk_cell (heap_alloc_new W1.drew (.cells #[.int .u64 id] tID)) 0
          simp only [List.getElem?_toArray, List.getElem?_cons_zero] at hcA
          have hlD : so.length ≤ 64 := by omega
          have hRD := Lib.hid (hS.out.below hbD)
          have hRA := Lib.hid (hS.out.below hbA)
          replace hbD := Lib.hid hbD
          replace hbA := Lib.hid hbA
          replace hbDA := Lib.hid hbDA
          replace hcA := Lib.hid hcA
          go_wp2
          go_region_held3 (fun W' => W'.cell? (ad.add j) = some (.int .u64 id)) (first | exact hSW.out _ bel5.out | exact hSW.out _ bel4.out | exact hSW.out _ belA.out | exact hSW.out _ bel3.out | exact hSW.out _ hbD.out | exact hSW.out _ hbA.out) (first
            | (refine step_copy (w := w) (W := _) rfl _ (.tmp 35) rfl rfl so S sc (by first | exact hRD.out | exact hRA.out) (by exact h0.out) (by first | exact hbD.out | exact hbA.out) (by exact hlD) (by simp [Act.eval]) (by simp [Act.eval]) ?_; intro A1 c1 w3 own3 bel3 belW3; have ownA := Lib.hid (own3.below (below_alloc (Below.refl _ _) (.cells #[.int .u64 id] tID))); have belA := Lib.hid (below_then bel3 bel3.size (below_alloc (Below.refl _ _) (.cells #[.int .u64 id] tID))); have cellA := Lib.hid (blk_cell (heap_alloc_new w3 (.cells #[.int .u64 id] tID)) 0); (try have cellB := Lib.hid (pw_cell_below belW3 hcA.out)); replace own3 := Lib.hid own3; replace bel3 := Lib.hid bel3; clear belW3)
            | (refine step_add (w := w) (W := w3.alloc (.cells #[.int .u64 id] tID)) rfl (.tmp 36) (.tmp 41) rfl so (.slice A1 so.length c1) id w3.heap.size (by exact ownA.out) (by exact belA.out) (by exact hlD) (by simp [Act.eval]) (by simp [Act.eval]) (by exact cellA.out) ?_; intro A2 c2 w4 own4 bel4; have hc4 := Lib.hid (hcl.out A2 c2 w4 bel4 (RowC.own own4).1); replace bel4 := Lib.hid bel4; clear own4)
            | (refine step_add (w := w) (W := w3) rfl (.tmp 36) (.tmp 41) rfl so (.slice A1 so.length c1) id W1.heap.size (by exact own3.out) (by exact bel3.out) (by exact hlD) (by simp [Act.eval]) (by simp [Act.eval]) (by exact cellB.out) ?_; intro A2 c2 w4 own4 bel4; have hc4 := Lib.hid (hcl.out A2 c2 w4 bel4 (RowC.own own4).1); replace bel4 := Lib.hid bel4; clear own4)
            | (go_at_call 18; refine hc4.out.mono ?_; rintro e w5 ⟨v, rfl, hx5, hb5⟩; have bel5 := Lib.hid (below_then bel4.out bel4.out.size hb5); replace hx5 := Lib.hid hx5; clear hb5))
          all_goals
            cases sr with
            | none =>
              go_wp2
              go_roundw
              case rel => exact ⟨j + 1, by omega, by go_num, hnn.out rfl, bel5.out⟩
              case measure => simp [intOf]; omega
            | some x =>
              have hre := hyy.out x rfl
              subst hre
              go_wp2
              go_ret2
              exact ⟨_, rfl, (fun y hy => hx5.out y hy), bel5.out⟩
      · have hr1 := Lib.hid (hr.out.trans (findSome_no fun t ht => hp t ht (by omega)))
        replace hB := Lib.hid hB
        replace hp := Lib.hid hp
        go_wp2
        go_ret2
        rw [hr1.out]
        exact ⟨_, rfl, (fun x hx => by cases hx), hB.out⟩
end Go.Proofs.Ytiibjgnmdieicaa.Hist
/- SpecLeast: the walk. -/
namespace Go.Proofs.Ytiibjgnmdieicaa.Hist
open Go.RowKit Go.Proofs.YtiibjgnmdieicaaW.PrintWords Go.Sort
theorem ids_take {l : List Evt} {j : Nat} (hl : j < l.length) : idsL (l.take (j + 1)) = idsL (l.take j) ++ if isWB l[j] = true then [l[j].f3] else [] := by
  unfold idsL
  rw [← List.take_append_getElem hl, List.filter_append, List.map_append]
  congr 1
  simp only [List.filter_cons, List.filter_nil]
  split <;> rfl
theorem ids_len (l : List Evt) (j : Nat) : (idsL (l.take j)).length ≤ l.length := by
  unfold idsL
  rw [List.length_map]
  exact Nat.le_trans (List.length_filter_le _ _) (by rw [List.length_take]; omega)
theorem rowC_nil (W : World) : RowC RID 1 W none [] := ⟨rfl, by simp, fun h => absurd h (Nat.lt_irrefl _)⟩
theorem srch_none {ids : List Int} {T : List (Int × Int)} (h : ∀ x, meetsB x T = false) (n : Nat) (so : List Int) : srch ids T n so = none := by
  cases hs : srch ids T n so with
  | none => rfl
  | some x =>
    have := (srch_ext n so x hs).2
    rw [h x] at this
    cases this
def RelLe (w : World) (l : List Evt) (s6 s7 : Value) (wr : World) : Prop := ∃ j : Nat, j ≤ l.length ∧ s7 = .int .i64 j ∧ OwnRow RID tID 1 wr w.heap.size s6 (idsL (l.take j)) ∧ Below w.heap.size w wr
set_option maxHeartbeats 16000000 in
set_option maxRecDepth 100000 in
theorem least_any (A : Option Addr) (c : Nat) (l : List Evt) (w : World) (hC : kEvt.C w A l.length l) (hL : LawIn l) :
    Calls Try.prog 5 #[.slice A l.length c] w fun e w' => e = .returned (.bool true) ∧ Below w.heap.size w w' := by
  have hkn := Lib.hid (known_any w)
  have hhv := Lib.hid fun W (hb : Below w.heap.size w W) => heavy_any A c l W (Kd.C_below hC hb) hL.sum
  have hm : l.length ≤ 9223372036854775807 := hC.2.1
  cases hh : heavyB l with
  | true =>
    rw [hh] at hhv
    clear hC hL hh
    have hk2 := Lib.hid fun W => known_any W
    go_enter Try.func5, Try.ntmps5
    go_wp2_with fail
    refine hkn.out.mono ?_
    rintro e W1 ⟨rfl, hb1⟩
    have hv1 := Lib.hid (hhv.out W1 hb1)
    replace hb1 := Lib.hid hb1
    go_wp2_with fail
    refine hv1.out.mono ?_
    rintro e W2 ⟨rfl, hb2⟩
    have hb12 := Lib.hid (below_then hb1.out hb1.out.size hb2)
    have hk3 := Lib.hid (hk2.out W2)
    clear hv1 hb2 hb1
    go_wp2_with fail
    refine hk3.out.mono ?_
    rintro e W3 ⟨rfl, hb3⟩
    have hb13 := Lib.hid (below_then hb12.out hb12.out.size hb3)
    clear hb3 hb12
    go_wp2
    go_ret
    exact ⟨rfl, hb13.out⟩
  | false =>
    rw [hh] at hhv
    have hlen : l.length ≤ 60 := (light hh).1
    have hor := Lib.hid fun W (hb : Below w.heap.size w W) => order_any A c l W (Kd.C_below hC hb) (hL.ord hh)
    have hti := Lib.hid fun W (hb : Below w.heap.size w W) => ties_any A c l W (Kd.C_below hC hb) hlen (LawIn.vrs hh)
    replace hC := Lib.hid hC
    clear hh hL
    obtain ⟨L, is, q, ho⟩ : ∃ L is q, orderS l = (L, is, q) := ⟨_, _, _, rfl⟩
    unfold Ordered at hor
    simp only [ho] at hor
    have herr := @order_err l L is q ho
    go_enter Try.func5, Try.ntmps5
    go_wp2_with fail
    refine hkn.out.mono ?_
    rintro e W1 ⟨rfl, hb1⟩
    have hv1 := Lib.hid (hhv.out W1 hb1)
    replace hb1 := Lib.hid hb1
    go_wp2_with fail
    refine hv1.out.mono ?_
    rintro e W2 ⟨rfl, hb2⟩
    have hb12 := below_then hb1.out hb1.out.size hb2
    have hn := Lib.hid (hor.out W2 hb12)
    replace hb12 := Lib.hid hb12
    clear hv1 hb2 hb1 hor hkn hhv
    go_wp2_with fail
    refine hn.out.mono ?_
    rintro e W3 ⟨LA, lc, rfl, hrow, hb3⟩
    have hb13 := below_then hb12.out hb12.out.size hb3
    have hRC := Lib.hid (RowC.own hrow).1
    replace hb13 := Lib.hid hb13
    clear hn hb3 hb12 hrow
    by_cases hq : q = 0
    · subst hq
      clear herr
      have hyes : is = true → srch (idsL l) (tiesL l) (idsL l).length [] = some L ∧ okT (rN l l.length) = true := fun e => by
        subst e
        exact ⟨order_least ho, ok_ties.2 (order_yes ho).2.2.2.2.2⟩
      have hno : is = false → L = [] ∧ (okT (rN l l.length) = false ∨ srch (idsL l) (tiesL l) (idsL l).length [] = none) := fun e => by
        subst e
        refine ⟨(order_no ho).2.1, ?_⟩
        rcases order_none ho with ⟨a, ha⟩ | h
        · refine .inl ?_
          cases hb : okT (rN l l.length) with
          | false => rfl
          | true => exact absurd ha (ok_ties.1 hb a)
        · exact .inr (srch_none h _ _)
      replace ho := Lib.hid ho
      replace hyes := Lib.hid hyes
      replace hno := Lib.hid hno
      generalize hln : L.length = nL at *
      replace hln := Lib.hid hln
      go_wp2
      go_loopw [6, 7] (fun s6 s7 wr => RelLe W3 l s6 s7 wr) (fun _ s7 _ => l.length - (intOf s7).toNat)
      case atStart => exact ⟨0, Nat.zero_le _, rfl, OwnRow.none_ _ _ _ _ _, Below.refl _ _⟩
      case round =>
        obtain ⟨j, hj, rfl, hO, hB⟩ := hrel
        by_cases hlt : j < l.length
        · have hst := ids_take hlt
          have hnl := ids_len l j
          obtain ⟨ad, A4, c4, A5, c5, A9, c9, rfl, q0, q1, q2, q3, q4, q5, q6, q7, q8, q9, hK, hl9, hk9⟩ := evt_at (Kd.C_below hC.out (below_then hb13.out hb13.out.size hB)) hlt
          clear q1 q2 q4 q5 q6 q7 q8 q9 hK hl9 hk9
          have a1 : IntKind.i64.wrap ((j : Int) + 1) = (j : Int) + 1 := IntWalk.i64_in _ (by omega)
          unfold isWB at hst
          generalize hn0 : idsL (l.take j) = T at *
          generalize hn1 : idsL (l.take (j + 1)) = T1 at *
          generalize l[j] = x at *
          obtain ⟨n, hnT⟩ : ∃ n, T.length = n := ⟨_, rfl⟩
          obtain ⟨RA, rc, rfl⟩ := slice_of hO hnT
          replace hn0 := Lib.hid hn0
          replace hn1 := Lib.hid hn1
          by_cases hw : (x.f0 == 1 && x.f3 != 0) = true
          · rw [if_pos hw] at hst
            rw [Bool.and_eq_true] at hw
            obtain ⟨b0, b1⟩ := hw
            have hs5 : (T.length + 1) * 8 ≤ 140737488355328 := by omega
            have hlT : (T ++ [x.f3]).length = n + 1 := by rw [List.length_append, hnT]; rfl
            replace hst := Lib.hid hst
            replace hO := Lib.hid hO
            replace hB := Lib.hid hB
            replace hs5 := Lib.hid hs5
            replace hlT := Lib.hid hlT
            replace hnT := Lib.hid hnT
            have hone := Lib.hid (oneID x.f3)
            clear hnl
            go_wp2_with (first
              | (at_builtin; refine append_plain (P := Try.prog) (R := RID) (w0 := W3) (W := wr) W3.heap.size rfl (.tmp 49) (.tmp 55) 38 29 (.int .u64 0) 1 8 rfl Try.underlying38 infoID rfl (by decide) (by decide) (.slice RA n rc) T x.f3 [.int .u64 x.f3] rfl (by simp [Act.eval]) rfl rfl (by exact hone.out) (by exact hO.out) (by exact hB.out) (by exact hB.out.size) (by exact hs5.out) (n + 1) (by exact hlT.out) ?_; intro A7 c7 W7 own7 bel7 _gr7; replace own7 := Lib.hid own7; replace bel7 := Lib.hid bel7; clear _gr7)
              | go_in)
            go_roundw
            case rel => exact ⟨j + 1, by omega, by go_num, by rw [hn1.out, hst.out]; exact own7.out, bel7.out⟩
            case measure => simp [intOf]; omega
          · rw [if_neg hw, List.append_nil] at hst
            replace hst := Lib.hid hst
            replace hO := Lib.hid hO
            replace hB := Lib.hid hB
            replace hnT := Lib.hid hnT
            cases b0 : (x.f0 == 1) with
            | false =>
              replace hw := Lib.hid hw
              go_wp2
              go_roundw
              case rel => exact ⟨j + 1, by omega, by go_num, by rw [hn1.out, hst.out]; exact hO.out, hB.out⟩
              case measure => simp [intOf]; omega
            | true =>
              have b1 : (x.f3 != 0) = false := by
                rw [b0, Bool.true_and] at hw
                simpa using hw
              replace hw := Lib.hid hw
              go_wp2
              go_roundw
              case rel => exact ⟨j + 1, by omega, by go_num, by rw [hn1.out, hst.out]; exact hO.out, hB.out⟩
              case measure => simp [intOf]; omega
        · obtain rfl : j = l.length := by omega
          rw [List.take_of_length_le (Nat.le_refl _)] at hO
          obtain ⟨n, hnT⟩ : ∃ n, (idsL l).length = n := ⟨_, rfl⟩
          obtain ⟨RA, rc, rfl⟩ := slice_of hO hnT
          have hI := (RowC.own hO).1
          have hb14 := below_then hb13.out hb13.out.size hB
          have hLr := hRC.out.below hB
          clear hO hB hb13 hRC
          by_cases h6 : n ≤ 6
          · have b6 : decide ((6 : Int) < (n : Int)) = false := decide_eq_false (by omega)
            have hti4 := Lib.hid (hti.out wr hb14)
            replace hb14 := Lib.hid hb14
            replace hI := Lib.hid hI
            replace hLr := Lib.hid hLr
            replace hnT := Lib.hid hnT
            clear hti
            go_wp2_with fail
            refine hti4.out.mono ?_
            rintro e W5 ⟨v, rfl, hT5⟩
            obtain ⟨TA, tc, rfl, hTC, hb5⟩ := ties_row hT5
            have hb15 := below_then hb14.out hb14.out.size hb5
            have hse := search_any (idsL l) (tiesL l) (by have := hnT.out; omega) n [] (by have := hnT.out; simp; omega) RA none TA rc 0 tc W5 (hI.out.below hb5) (rowC_nil _) (fun _ => ⟨rfl, rfl⟩) hTC
            rw [hnT.out] at hse
            have hL5 := hLr.out.below hb5
            rw [hnT.out] at hyes hno
            clear hT5 hTC hb5 hti4 hb14 hI hLr
            generalize okT (rN l l.length) = ob at *
            generalize srch (idsL l) (tiesL l) n [] = sr at *
            generalize (tiesL l).length = nt at *
            unfold Srched at hse
            cases is with
            | true =>
              obtain ⟨rfl, rfl⟩ := hyes.out rfl
              clear hno hyes
              rw [Option.isSome_some] at hse
              have hsa := Lib.hid fun (A2 : Option Addr) (c2 : Nat) (W6 : World) (hb : Below W5.heap.size W5 W6) hR => sameIDs_any LA A2 lc c2 L L W6 (hL5.below hb) hR
              simp only [decide_true, hln.out] at hsa
              replace hse := Lib.hid hse
              replace hb15 := Lib.hid hb15
              clear hL5
              go_wp2_with fail
              refine hse.out.mono ?_
              rintro e W6 ⟨v, rfl, hx6, hb6⟩
              obtain ⟨A2, c2, rfl, hR6⟩ := hx6 L rfl
              have hs6 := Lib.hid (hsa.out A2 c2 W6 hb6 hR6)
              have hb16 := Lib.hid (below_then hb15.out hb15.out.size hb6)
              rw [hln.out]
              clear hx6 hb6 hR6 hse hsa hb15
              go_wp2_with (first | (go_at_call 19; refine hs6.out.mono ?_; rintro e W7 ⟨rfl, hb7⟩; have hb17 := Lib.hid (below_then hb16.out hb16.out.size hb7); clear hb7) | go_in)
              go_ret
              exact ⟨rfl, hb17.out⟩
            | false =>
              obtain ⟨rfl, hor2⟩ := hno.out rfl
              clear hno hyes
              have hln' : nL = 0 := hln.out.symm
              subst hln'
              have hsa := Lib.hid fun (W6 : World) (hb : Below W5.heap.size W5 W6) => sameIDs_any LA none lc 0 [] [] W6 (hL5.below hb) (rowC_nil _)
              simp only [decide_true, List.length_nil] at hsa
              replace hb15 := Lib.hid hb15
              clear hL5
              cases sr with
              | none =>
                rw [Option.isSome_none] at hse
                replace hse := Lib.hid hse
                replace hor2 := Lib.hid hor2
                go_wp2_with fail
                refine hse.out.mono ?_
                rintro e W6 ⟨v, rfl, -, hb6⟩
                have hs6 := Lib.hid (hsa.out W6 hb6)
                have hb16 := Lib.hid (below_then hb15.out hb15.out.size hb6)
                clear hb6 hse hsa hb15
                go_wp2_with (first | (go_at_call 19; refine hs6.out.mono ?_; rintro e W7 ⟨rfl, hb7⟩; have hb17 := Lib.hid (below_then hb16.out hb16.out.size hb7); clear hb7) | go_in)
                go_ret
                exact ⟨rfl, hb17.out⟩
              | some x =>
                obtain rfl : ob = false := by
                  rcases hor2 with h | h
                  · exact h
                  · cases h
                clear hor2
                rw [Option.isSome_some] at hse
                replace hse := Lib.hid hse
                go_wp2_with fail
                refine hse.out.mono ?_
                rintro e W6 ⟨v, rfl, -, hb6⟩
                have hs6 := Lib.hid (hsa.out W6 hb6)
                have hb16 := Lib.hid (below_then hb15.out hb15.out.size hb6)
                clear hb6 hse hsa hb15
                go_wp2_with (first | (go_at_call 19; refine hs6.out.mono ?_; rintro e W7 ⟨rfl, hb7⟩; have hb17 := Lib.hid (below_then hb16.out hb16.out.size hb7); clear hb7) | go_in)
                go_ret
                exact ⟨rfl, hb17.out⟩
          · have b6 : decide ((6 : Int) < (n : Int)) = true := decide_eq_true (by omega)
            replace hb14 := Lib.hid hb14
            clear hI hLr hti
            go_wp2
            go_ret
            exact ⟨rfl, hb14.out⟩
    · obtain ⟨rfl, rfl, rfl⟩ := herr hq
      clear herr
      replace ho := Lib.hid ho
      go_wp2
      go_ret
      exact ⟨rfl, hb13.out⟩
end Go.Proofs.Ytiibjgnmdieicaa.Hist
