/- the document's order and the program's: the words. -/
import Derived.Test.YtiibjgnmdieicaaGreatVa
import Derived.Test.YtiibjgnmdieicaaGreatUc
import Derived.Test.YtiibjgnmdieicaaGreatVe
import Derived.Test.YtiibjgnmdieicaaGreatVf
import Derived.Deep.Upon
namespace Go.Proofs.YtiibjgnmdieicaaGreat.Hist
open Go.RowKit Go.Proofs.YtiibjgnmdieicaaGreatW.PrintWords Go.Sort
theorem wrB_iff {id : Int} {x : Evt} : wrB id x = true ↔ IsW x ∧ x.f3 = id := by
  unfold wrB IsW
  simp only [Bool.and_eq_true, beq_iff_eq, bne_iff_ne, ne_eq]
  constructor
  · rintro ⟨⟨a, b⟩, c⟩
    exact ⟨⟨a, by rw [b]; exact c⟩, b⟩
  · rintro ⟨⟨a, b⟩, c⟩
    exact ⟨⟨a, c⟩, by rw [← c]; exact b⟩
section
variable {l : List Evt}
/-- what passes: each told name is a write's ahead -/
theorem okV_iff (H : Prp l) {i : Nat} (hi : i < l.length) (k3 : l[i].f0 = 3) (v : Ver) : okV (coN l l.length).o i v = true ↔ (v.f1 ≠ 0 → ∃ w, ∃ hw : w < l.length, w < i ∧ wrB v.f1 l[w] = true) := by
  have h := coll_inv H l.length (Nat.le_refl _)
  unfold okV
  by_cases h0 : v.f1 = 0
  · rw [if_pos h0]
    exact ⟨fun _ e => absurd h0 e, fun _ => rfl⟩
  · rw [if_neg h0]
    constructor
    · intro g _
      split at g
      · cases g
      · rename_i u hu
        obtain ⟨x, hx, hid⟩ := (h.id _ _).1 hu
        rw [hx] at g
        obtain ⟨p, hp, _, hpl, hev, iw, _⟩ := h.w1 u x hx
        have g2 : ¬ ((i : Int) < x.place) := by simpa using g
        rw [hpl] at g2
        rw [hev] at hid
        refine ⟨p, hp, ?_, wrB_iff.2 ⟨iw, hid⟩⟩
        rcases Nat.lt_trichotomy p i with e | e | e
        · exact e
        · subst e
          have := iw.1
          omega
        · omega
    · intro g
      obtain ⟨w, hw, hwi, hb⟩ := g h0
      obtain ⟨iw, hid⟩ := wrB_iff.1 hb
      obtain ⟨u, x, hx, hpl⟩ := h.w2 w hw (by omega) iw
      obtain ⟨p, hp, _, hpl2, hev, _, _⟩ := h.w1 u x hx
      obtain rfl : p = w := by omega
      have hids : (coN l l.length).o.ids v.f1 = some u := (h.id _ _).2 ⟨x, hx, by rw [hev, hid]⟩
      rw [hids]
      show (match (coN l l.length).o.ws[u]? with | none => false | some x => !decide ((i : Int) < x.place)) = true
      rw [hx]
      show (!decide ((i : Int) < x.place)) = true
      rw [hpl, decide_eq_false (by omega)]
      rfl
theorem oN_ok {o0 : Os} (hN : ∀ i (hi : i < l.length), toldB l[i] = true → ∀ v ∈ l[i].f6.f3, okV o0 i v = true) : ∀ j, j ≤ l.length → (∀ (t : Nat) (v : Ver), okV (oN l o0 j) t v = okV o0 t v) ∧ orderRun l l 0 o0 = orderRun l (l.drop j) j (oN l o0 j)
  | 0, _ => ⟨fun _ _ => rfl, rfl⟩
  | j + 1, hj => by
    obtain ⟨h1, h2⟩ := oN_ok hN j (by omega)
    have hl : j < l.length := by omega
    rw [run_step hl h2, oN_succ hl]
    by_cases ht : toldB l[j] = true
    · rw [if_pos ht, if_pos ht]
      have hr : (readsS l (oN l o0 j) l[j] j).2 = true := by
        unfold readsS
        rw [if_pos (List.all_eq_true.2 fun v hv => by rw [h1]; exact hN j hl ht v hv)]
      rw [if_pos hr]
      have hd := (rd_reads hr).1
      refine ⟨fun t v => ?_, rfl⟩
      rw [okV_same hd.same hd.ids, h1]
    · rw [if_neg ht, if_neg ht]
      exact ⟨h1, rfl⟩
theorem run_iff (hpb : properB l = true) : (orderRun l l 0 (coN l l.length).o).2 = true ↔ NamedP l := by
  have H := prp hpb
  constructor
  · intro hok i hi v hv h0
    obtain ⟨ht, k3⟩ := told_of H hi fun e => by rw [e] at hv; cases hv
    have h1 := (run_all hok l.length (Nat.le_refl _)).2 i hi hi ht
    have h2 := (rd_reads h1).2 v hv
    have h3 := rd_run hok i (by omega)
    rw [okV_same h3.same h3.ids] at h2
    exact (okV_iff H hi k3 v).1 h2 h0
  · intro hn
    have hN : ∀ i (hi : i < l.length), toldB l[i] = true → ∀ v ∈ l[i].f6.f3, okV (coN l l.length).o i v = true := fun i hi ht v hv => (okV_iff H hi (told_vers ht).1 v).2 fun h0 => hn i hi v hv h0
    rw [(oN_ok hN l.length (Nat.le_refl _)).2, List.drop_of_length_le (Nat.le_refl _)]
    rfl
/-- when Order tells no error -/
theorem order_q {L : List Int} {b : Bool} {q : Int} (ho : orderS l = (L, b, q)) : q = 0 ↔ properB l = true ∧ NamedP l := by
  unfold orderS at ho
  split at ho
  · rename_i hpb
    rw [coN_all] at ho
    rw [← run_iff hpb]
    split at ho
    · rename_i hok
      refine ⟨fun _ => ⟨hpb, hok⟩, fun _ => ?_⟩
      split at ho
      · exact (congrArg (fun x => x.2.2) ho).symm
      · exact (congrArg (fun x => x.2.2) ho).symm
    · rename_i hok
      have := (congrArg (fun x => x.2.2) ho).symm
      refine ⟨fun e => ?_, fun e => absurd e.2 hok⟩
      rw [e] at this
      cases this
  · rename_i hpb
    have := (congrArg (fun x => x.2.2) ho).symm
    refine ⟨fun e => ?_, fun e => absurd e.1 hpb⟩
    rw [e] at this
    cases this
/-- what a read asks, in the document's words -/
theorem ask_take (H : Prp l) {i : Nat} (hi : i < l.length) (k3 : l[i].f0 = 3) : ∃ p, ∃ hp : p < l.length, p < i ∧ l[p].f0 ≠ 3 ∧ fidx (reqB l[i]) (l.take i) = (p : Int) ∧ firstI l l[i] = p := by
  obtain ⟨p, hp, hpi, hr, hc, ht, ha, hf⟩ := asked_at H hi k3
  refine ⟨p, hp, hpi, hr, ?_, hf⟩
  refine fidx_take hpi hp (reqB_iff.2 ⟨hr, hc, ht⟩) fun t ht2 htp => ?_
  rw [← Bool.not_eq_true, reqB_iff]
  rintro ⟨a1, a2, a3⟩
  have := H.one t p ht2 hp htp a1 hr (a2.trans hc.symm)
  omega
theorem done_iff (hpb : properB l = true) {w p : Nat} (hw : w < l.length) (hp : p ≤ l.length) : doneB l l[w] w p = true ↔ ∃ k, ∃ hk : k < l.length, w ≤ k ∧ k < p ∧ Okd l w k hw hk := by
  unfold doneB
  constructor
  · intro h
    split at h
    · rename_i e he
      unfold seg at he
      obtain ⟨h1, j, hj, h2, _⟩ := List.find?_eq_some_iff_getElem.1 he
      simp only [List.getElem_drop, List.getElem_take] at h2
      simp only [List.length_drop, List.length_take] at hj
      rw [← h2, okA_iff] at h1
      rw [← h2, beq_iff_eq] at h
      exact ⟨w + j, by omega, by omega, by omega, h1.1, h1.2.1, h1.2.2, h⟩
    · cases h
  · rintro ⟨k, hk, h1, h2, h3, h4, h5, h6⟩
    rw [seg_at h1 h2 hk (okA_iff.2 ⟨h3, h4, h5⟩) fun t ht _ htk => ?_]
    · rw [beq_iff_eq]
      exact h6
    · rw [← Bool.not_eq_true, okA_iff]
      rintro ⟨a1, a2, a3⟩
      exact once hpb ht hk htk a1 h3 (a2.trans h4.symm) (a3.trans h5.symm)
/-- what must be ahead, and what a read's constraint is -/
theorem must_iff (hpb : properB l = true) (hn : NamedP l) {w : Nat} (hw : w < l.length) (iw : IsW l[w]) (b : Int) : (∃ i, ∃ hi : i < l.length, l[i].f0 = 3 ∧ b ∈ mustS l i w l[i] l[w]) ↔ TieR l l[w].f3 b := by
  have H := prp hpb
  constructor
  · rintro ⟨i, hi, k3, hb⟩
    unfold mustS at hb
    split at hb
    · cases hb
    · rename_i hc
      obtain ⟨v, hv, hvb⟩ := List.mem_map.1 hb
      obtain ⟨hv, hrb⟩ := List.mem_filter.1 hv
      unfold rB at hrb
      simp only [Bool.and_eq_true, bne_iff_ne, ne_eq] at hrb
      obtain ⟨p, hp, hpi, hr, ha, hf⟩ := ask_take H hi k3
      rw [ha] at hc
      have hB : w < i ∧ BelowP l w i (firstI l l[i]) hw hi := by
        rw [hf]
        by_cases ht : tellsB l[i] l[w] = true
        · obtain ⟨u, hu, huw⟩ := List.any_eq_true.1 ht
          rw [beq_iff_eq] at huw
          obtain ⟨z, hz, hzi, hzb⟩ := hn i hi u hu (by rw [huw]; exact iw.2)
          obtain ⟨iz, hzid⟩ := wrB_iff.1 hzb
          have := H.inj hz hw iz iw (hzid.trans huw)
          exact ⟨by omega, .inl ⟨u, hu, huw⟩⟩
        · have ht2 : tellsB l[i] l[w] = false := by simpa using ht
          rw [ht2] at hc
          simp only [Bool.not_false, Bool.true_and, Bool.or_eq_true, not_or, decide_eq_true_eq, Bool.not_eq_true', Int.toNat_natCast] at hc
          have hd : doneB l l[w] w p = true := by
            cases hd : doneB l l[w] w p with
            | true => rfl
            | false => exact absurd hd hc.2
          have := (done_iff hpb hw (by omega)).1 hd
          obtain ⟨k, hk, h1, h2, h3⟩ := this
          exact ⟨by omega, .inr ⟨k, hk, h1, h2, h3⟩⟩
      exact ⟨i, hi, w, hw, hB.1, iw, hB.2, v, hv, hrb.1, hrb.2, rfl, hvb.symm⟩
  · rintro ⟨i, hi, z, hz, hzi, iz, hB, v, hv, hne, hwr, e1, e2⟩
    obtain rfl : w = z := H.inj hw hz iw iz e1
    obtain ⟨-, k3⟩ := told_of H hi fun e => by rw [e] at hv; cases hv
    obtain ⟨p, hp, hpi, hr, ha, hf⟩ := ask_take H hi k3
    refine ⟨i, hi, k3, ?_⟩
    unfold mustS
    rw [if_neg, List.mem_map]
    · refine ⟨v, List.mem_filter.2 ⟨hv, ?_⟩, e2.symm⟩
      unfold rB
      simp only [Bool.and_eq_true, bne_iff_ne, ne_eq]
      exact ⟨hne, hwr⟩
    · rw [ha, Int.toNat_natCast]
      rw [hf] at hB
      rcases hB with ⟨u, hu, huw⟩ | hd
      · rw [show tellsB l[i] l[w] = true from List.any_eq_true.2 ⟨u, hu, beq_iff_eq.2 huw⟩]
        simp
      · have h2 := (done_iff hpb hw (by omega)).2 hd
        obtain ⟨k, hk, g1, g2, _⟩ := hd
        rw [h2, decide_eq_false (by omega)]
        simp
end
end Go.Proofs.YtiibjgnmdieicaaGreat.Hist
/- the document's order is the program's: the plain law. -/
namespace Go.Proofs.YtiibjgnmdieicaaGreat.Hist
open Go.RowKit Go.Proofs.YtiibjgnmdieicaaGreatW.PrintWords Go.Sort
def idP (l : List Evt) (p : Nat) : Int := match l[p]? with
  | some e => e.f3
  | none => 0
theorem idP_lt {l : List Evt} {p : Nat} (h : p < l.length) : idP l p = l[p].f3 := by
  unfold idP
  rw [List.getElem?_eq_getElem h]
section
variable {E : Nat → Nat → Prop} {W : List Nat}
theorem take_drop_erase (l : List Nat) (i : Nat) : l.take i ++ l.drop (i + 1) = l.eraseIdx i := (List.eraseIdx_eq_take_drop_succ l i).symm
theorem GR.sub {pre left : List Nat} (h : GR E W pre left) : left.Sublist W := by
  induction h with
  | start => exact List.Sublist.refl _
  | next hi _ _ _ ih =>
    rw [take_drop_erase]
    exact (List.eraseIdx_sublist _ _).trans ih
theorem GR.perm {pre left : List Nat} (h : GR E W pre left) : (pre ++ left).Perm W := by
  induction h with
  | start => exact List.Perm.refl _
  | @next pre left i hi _ _ _ ih =>
    refine List.Perm.trans ?_ ih
    rw [List.append_assoc]
    refine List.Perm.append_left _ ?_
    have h1 : left = left.take i ++ left[i] :: left.drop (i + 1) := by rw [← List.drop_eq_getElem_cons hi, List.take_append_drop]
    have h2 : (left[i] :: (left.take i ++ left.drop (i + 1))).Perm (left.take i ++ left[i] :: left.drop (i + 1)) := List.perm_middle.symm
    rw [← h1] at h2
    exact h2
def Grw (E : Nat → Nat → Prop) (W pi : List Nat) : Prop := ∀ a x b, pi = a ++ x :: b → (∀ u ∈ W, u < x → u ∈ a ∨ ∃ v, v ∈ W ∧ E v u ∧ v ∉ a) ∧ ∀ v ∈ W, v ≠ x → E v x → v ∈ a
theorem GR.grw {pre left : List Nat} (hs : W.Pairwise (· < ·)) (h : GR E W pre left) : Grw E W pre := by
  induction h with
  | start =>
    intro a x b e
    simp at e
  | @next pre left i hi hg hf hn ih =>
    intro a x b e
    rcases List.eq_nil_or_concat b with rfl | ⟨s, y, rfl⟩
    · obtain ⟨rfl, e2⟩ := List.append_inj' e rfl
      obtain rfl : left[i] = x := by simpa using e2
      have hp := hg.perm
      have hsl := hs.sublist hg.sub
      have hnd : (pre ++ left).Nodup := hp.nodup_iff.2 (hs.imp fun h => Nat.ne_of_lt h)
      have hmem : ∀ u, u ∈ W → u ∈ pre ∨ u ∈ left := fun u hu => List.mem_append.1 (hp.mem_iff.2 hu)
      refine ⟨fun u hu hux => ?_, fun v hv hvx hE => ?_⟩
      · rcases hmem u hu with h | h
        · exact .inl h
        · refine .inr ?_
          obtain ⟨t, ht, rfl⟩ := List.getElem_of_mem h
          have hti : t < i := by
            rcases Nat.lt_trichotomy t i with e | e | e
            · exact e
            · subst e
              omega
            · have := List.pairwise_iff_getElem.1 hsl i t hi ht e
              omega
          have hnf := hn t hti
          unfold FreeR at hnf
          simp only [not_exists] at hnf
          have hnf := hnf ht
          simp only [Classical.not_forall, Classical.not_not] at hnf
          obtain ⟨k, hk, hkt, hE⟩ := hnf
          exact ⟨left[k], hg.sub.subset (List.getElem_mem hk), hE, fun h => (List.nodup_append.1 hnd).2.2 _ h _ (List.getElem_mem hk) rfl⟩
      · rcases hmem v hv with h | h
        · exact h
        · obtain ⟨t, ht, rfl⟩ := List.getElem_of_mem h
          obtain ⟨_, hff⟩ := hf
          refine absurd hE (hff t ht fun e => ?_)
          subst e
          exact hvx rfl
    · rw [List.concat_eq_append, ← List.cons_append, ← List.append_assoc] at e
      obtain ⟨e1, _⟩ := List.append_inj' e rfl
      exact ih a x s e1
/-- the first that meets the constraints -/
theorem srch_grw {T : List (Int × Int)} {f : Nat → Int} {pi : List Nat} (hs : W.Pairwise (· < ·)) (hsub : ∀ u ∈ pi, u ∈ W) (hnd : pi.Nodup) (hinj : ∀ u v, u ∈ W → v ∈ W → f u = f v → u = v)
    (hmem : ∀ u v, u ∈ W → v ∈ W → E u v → (f u, f v) ∈ T) (hg : Grw E W pi) (hne : ∀ u, ¬ E u u) (hm : meetsB (pi.map f) T = true) : ∀ (k : Nat) (pre suf : List Nat), pi = pre ++ suf → suf.length = k → srch (W.map f) T k (pre.map f) = some (pi.map f)
  | 0, pre, suf, he, hk => by
    obtain rfl := List.length_eq_zero_iff.1 hk
    rw [List.append_nil] at he
    subst he
    unfold srch
    rw [if_pos hm]
  | k + 1, pre, [], he, hk => by cases hk
  | k + 1, pre, x :: suf, he, hk => by
    have ih := srch_grw hs hsub hnd hinj hmem hg hne hm k (pre ++ [x]) suf (by rw [he, List.append_assoc]; rfl) (by simpa using hk)
    have hxW : x ∈ W := hsub x (by rw [he]; simp)
    have hpW : ∀ v ∈ pre, v ∈ W := fun v hv => hsub v (by rw [he]; exact List.mem_append_left _ hv)
    have hmp : ∀ u, u ∈ W → (f u ∈ pre.map f ↔ u ∈ pre) := fun u hu => by
      rw [List.mem_map]
      constructor
      · rintro ⟨v, hv, e⟩
        have := hinj v u (hpW v hv) hu e
        subst this
        exact hv
      · exact fun h => ⟨u, h, rfl⟩
    have hxp : x ∉ pre := fun h => by
      rw [he, List.nodup_append] at hnd
      exact hnd.2.2 x h x List.mem_cons_self rfl
    obtain ⟨A, B, hW⟩ := List.append_of_mem hxW
    have hA : ∀ u ∈ A, u ∈ W ∧ u < x := fun u hu => by
      refine ⟨by rw [hW]; exact List.mem_append_left _ hu, ?_⟩
      rw [hW, List.pairwise_append] at hs
      exact hs.2.2 u hu x List.mem_cons_self
    have h1 : (A.map f).findSome? (fun id => if 0 ≤ placeI (pre.map f) id then none else srch (W.map f) T k (pre.map f ++ [id])) = none := by
      rw [List.findSome?_eq_none_iff]
      intro id hid
      obtain ⟨u, hu, rfl⟩ := List.mem_map.1 hid
      obtain ⟨huW, hux⟩ := hA u hu
      split
      · rfl
      · rename_i hnp
        have hup : u ∉ pre := fun h => hnp (place_lt ((hmp u huW).2 h)).1
        rcases (hg pre x suf he).1 u huW hux with h | ⟨v, hvW, hv, hvp⟩
        · exact absurd h hup
        · refine srch_bad (hmem v u hvW huW hv) (by simp) ?_
          rw [List.mem_append, List.mem_singleton]
          rintro (h | h)
          · exact hvp ((hmp v hvW).1 h)
          · have := hinj v u hvW huW h
            subst this
            exact hne _ hv
    have h2 : (if 0 ≤ placeI (pre.map f) (f x) then none else srch (W.map f) T k (pre.map f ++ [f x])) = some (pi.map f) := by
      rw [if_neg, ← ih, List.map_append]
      · rfl
      · rw [place_none (fun h => hxp ((hmp x hxW).1 h))]
        decide
    have h3 : W.map f = A.map f ++ f x :: B.map f := by rw [hW, List.map_append, List.map_cons]
    unfold srch
    generalize W.map f = I at h1 h2 h3 ⊢
    have h4 := congrArg (fun J => List.findSome? (fun id => if 0 ≤ placeI (pre.map f) id then none else srch I T k (pre.map f ++ [id])) J) h3
    refine h4.trans ?_
    show List.findSome? _ (A.map f ++ f x :: B.map f) = _
    rw [List.findSome?_append, h1, List.findSome?_cons, h2]
    rfl
end
theorem sorted_writes (l : List Evt) (n : Nat) : (writesN l n).Pairwise (· < ·) := List.Pairwise.filter _ List.pairwise_lt_range
theorem ids_writes (l : List Evt) : ∀ n, n ≤ l.length → (writesN l n).map (idP l) = idsL (l.take n)
  | 0, _ => rfl
  | n + 1, h => by
    have ih := ids_writes l n (by omega)
    have hl : n < l.length := by omega
    rw [writesN_succ hl, List.map_append, ih]
    unfold idsL
    rw [← List.take_append_getElem hl, List.filter_append, List.map_append]
    congr 1
    simp only [List.filter_cons, List.filter_nil]
    split
    · simp [idP_lt hl]
    · rfl
section
variable {l : List Evt}
theorem mem_w {p : Nat} : p ∈ writesN l l.length ↔ ∃ h : p < l.length, IsW l[p] := by
  rw [mem_writes]
  constructor
  · rintro ⟨h, h2⟩
    rw [isWAt_lt h] at h2
    exact ⟨h, (isWB_iff _).1 h2⟩
  · rintro ⟨h, h2⟩
    exact ⟨h, by rw [isWAt_lt h]; exact (isWB_iff _).2 h2⟩
theorem ahR_tie (hpb : properB l = true) (hn : NamedP l) {u v : Nat} (hu : u ∈ writesN l l.length) (hv : v ∈ writesN l l.length) : AhR l u v ↔ TieC l (idP l u) (idP l v) ∨ TieR l (idP l u) (idP l v) := by
  have H := prp hpb
  obtain ⟨hul, iu⟩ := mem_w.1 hu
  obtain ⟨hvl, iv⟩ := mem_w.1 hv
  rw [idP_lt hul, idP_lt hvl]
  constructor
  · rintro ⟨_, _, ⟨hc, hlt⟩ | h⟩
    · exact .inl ⟨u, v, hul, hvl, hlt, iu, iv, hc, rfl, rfl⟩
    · exact .inr ((must_iff hpb hn hul iu _).1 h)
  · rintro (⟨i, k, hi, hk, hlt, ii, ik, hc, e1, e2⟩ | h)
    · obtain rfl := H.inj hul hi iu ii e1
      obtain rfl := H.inj hvl hk iv ik e2
      exact ⟨hul, hvl, .inl ⟨hc, hlt⟩⟩
    · exact ⟨hul, hvl, .inr ((must_iff hpb hn hul iu _).2 h)⟩
theorem ahR_irr (u : Nat) : ¬ AhR l u u := by
  rintro ⟨h, _, ⟨_, h2⟩ | ⟨i, hi, _, hm⟩⟩
  · omega
  · unfold mustS at hm
    split at hm
    · cases hm
    · obtain ⟨v, hv, he⟩ := List.mem_map.1 hm
      have := (List.mem_filter.1 hv).2
      unfold rB at this
      rw [he] at this
      simp at this
theorem bot_iff (hpb : properB l = true) (hn : NamedP l) : BotP l ↔ ∃ a, TieR l a 0 := by
  constructor
  · rintro ⟨i, hi, k3, w, hw, iw, hm⟩
    exact ⟨_, (must_iff hpb hn hw ((isWB_iff _).1 iw) 0).1 ⟨i, hi, k3, hm⟩⟩
  · rintro ⟨a, ha⟩
    have ha2 := ha
    obtain ⟨i, hi, w, hw, _, iw, _, _, _, _, _, e, _⟩ := ha2
    rw [e] at ha
    obtain ⟨i, hi, k3, hm⟩ := (must_iff hpb hn hw iw 0).2 ha
    exact ⟨i, hi, k3, w, hw, (isWB_iff _).2 iw, hm⟩
/-- both ends of a constraint are writes -/
theorem tie_ends (hpb : properB l = true) (hn : NamedP l) (hb : ¬ BotP l) {a b : Int} (h : TieC l a b ∨ TieR l a b) : ∃ u v, u ∈ writesN l l.length ∧ v ∈ writesN l l.length ∧ a = idP l u ∧ b = idP l v := by
  rcases h with ⟨i, k, hi, hk, _, ii, ik, _, e1, e2⟩ | h
  · exact ⟨i, k, mem_w.2 ⟨hi, ii⟩, mem_w.2 ⟨hk, ik⟩, by rw [idP_lt hi]; exact e1, by rw [idP_lt hk]; exact e2⟩
  · have h0 : b ≠ 0 := fun e => hb ((bot_iff hpb hn).2 ⟨a, by rw [← e]; exact h⟩)
    obtain ⟨i, hi, w, hw, _, iw, _, k, hk, _, _, e1, e2⟩ := h
    obtain ⟨z, hz, _, hzb⟩ := hn i hi k hk (by rw [← e2]; exact h0)
    obtain ⟨iz, hid⟩ := wrB_iff.1 hzb
    exact ⟨w, z, mem_w.2 ⟨hw, iw⟩, mem_w.2 ⟨hz, iz⟩, by rw [idP_lt hw]; exact e1, by rw [idP_lt hz, hid]; exact e2⟩
/-- what the document tells, the program tells -/
theorem ref_order {L : List Int} {b : Bool} {q : Int} (h : RefRes l L b q) : orderS l = (L, b, q) := by
  obtain ⟨L', b', q', ho⟩ : ∃ L' b' q', orderS l = (L', b', q') := ⟨_, _, _, rfl⟩
  have hq := order_q ho
  rw [ho]
  rcases h with ⟨hn, rfl, rfl, rfl⟩ | ⟨hpb, hn, hbt, rfl, rfl, rfl⟩ | ⟨hpb, hn, hbt, rfl, h⟩
  · obtain ⟨rfl, rfl, rfl⟩ := order_err ho fun e => hn (hq.1 e)
    rfl
  · obtain rfl := hq.2 ⟨hpb, hn⟩
    cases b' with
    | true =>
      obtain ⟨a, ha⟩ := (bot_iff hpb hn).1 hbt
      exact absurd ha ((order_yes ho).2.2.2.2.2 a)
    | false =>
      obtain rfl := (order_no ho).2.1
      rfl
  · obtain rfl := hq.2 ⟨hpb, hn⟩
    have H := prp hpb
    have hinj : ∀ u v, u ∈ writesN l l.length → v ∈ writesN l l.length → idP l u = idP l v → u = v := fun u v hu hv e => by
      obtain ⟨hul, iu⟩ := mem_w.1 hu
      obtain ⟨hvl, iv⟩ := mem_w.1 hv
      rw [idP_lt hul, idP_lt hvl] at e
      exact H.inj hul hvl iu iv e
    have hs := sorted_writes l l.length
    rcases h with ⟨pre, hg, hL, rfl⟩ | ⟨pre, left, hg, hne, hst, rfl, rfl⟩
    · replace hL : L = pre.map (idP l) := hL
      have hgw := hg.grw hs
      have hperm := hg.perm
      rw [List.append_nil] at hperm
      have hsub : ∀ u ∈ pre, u ∈ writesN l l.length := fun u hu => hperm.mem_iff.1 hu
      have hnd : pre.Nodup := hperm.nodup_iff.2 (hs.imp fun h => Nat.ne_of_lt h)
      have hm : meetsB (pre.map (idP l)) (tiesL l) = true := meets_of fun a b hab => by
        obtain ⟨u, v, hu, hv, rfl, rfl⟩ := tie_ends hpb hn hbt (mem_ties.1 hab)
        have hE := (ahR_tie hpb hn hu hv).2 (mem_ties.1 hab)
        have huv : u ≠ v := fun e => by
          subst e
          exact ahR_irr _ hE
        obtain ⟨A, B, hpre⟩ := List.append_of_mem (hperm.mem_iff.2 hv)
        have huA := (hgw A v B hpre).2 u hu huv hE
        have hvA : v ∉ A := fun h => by
          rw [hpre, List.nodup_append] at hnd
          exact hnd.2.2 v h v List.mem_cons_self rfl
        have hAW : ∀ x ∈ A, x ∈ writesN l l.length := fun x hx => hsub x (by rw [hpre]; exact List.mem_append_left _ hx)
        have h1 : idP l u ∈ A.map (idP l) := List.mem_map.2 ⟨u, huA, rfl⟩
        have h2 : idP l v ∉ A.map (idP l) := fun h => by
          obtain ⟨x, hx, e⟩ := List.mem_map.1 h
          have := hinj x v (hAW x hx) hv e
          subst this
          exact hvA hx
        have h3 := place_lt h1
        have h4 := place_lt (L := pre.map (idP l)) (a := idP l v) (List.mem_map.2 ⟨v, hperm.mem_iff.2 hv, rfl⟩)
        rw [hpre, List.map_append] at h4 ⊢
        rw [place_app _ h1]
        rcases place_new ((v :: B).map (idP l)) h2 with e | e
        · omega
        · exact ⟨h3.1, h4.1, by omega⟩
      cases b' with
      | true =>
        have h1 := order_least ho
        have h2 := srch_grw (f := idP l) (T := tiesL l) hs hsub hnd hinj (fun u v hu hv hE => mem_ties.2 ((ahR_tie hpb hn hu hv).1 hE)) hgw ahR_irr hm pre.length [] pre rfl rfl
        have h3 := ids_writes l l.length (Nat.le_refl _)
        rw [List.take_of_length_le (Nat.le_refl _)] at h3
        rw [h3] at h2
        have h4 : (idsL l).length = pre.length := by rw [← h3, List.length_map, hperm.length_eq]
        rw [h4] at h1
        rw [show ([] : List Nat).map (idP l) = [] from rfl, h1] at h2
        rw [Option.some.inj h2, hL]
      | false =>
        rcases order_none ho with h | h
        · exact absurd ((bot_iff hpb hn).2 h) hbt
        · rw [h] at hm
          cases hm
    · cases b' with
      | false =>
        obtain rfl := (order_no ho).2.1
        rfl
      | true =>
        exfalso
        have hty := (order_yes ho).2.2.2.2.1
        have key : ∀ n : Nat, ∀ u ∈ left, (placeI L' (idP l u)).toNat = n → False := by
          intro n
          induction n using Nat.strongRecOn with
          | _ n ih =>
            intro u hu hn2
            obtain ⟨t, ht, rfl⟩ := List.getElem_of_mem hu
            have hnf := hst t
            unfold FreeR at hnf
            simp only [not_exists] at hnf
            have hnf := hnf ht
            simp only [Classical.not_forall, Classical.not_not] at hnf
            obtain ⟨k, hk, _, hE⟩ := hnf
            have hkW := hg.sub.subset (List.getElem_mem hk)
            have htW := hg.sub.subset (List.getElem_mem ht)
            obtain ⟨g1, g2, g3⟩ := hty _ _ ((ahR_tie hpb hn hkW htW).1 hE)
            exact ih (placeI L' (idP l left[k])).toNat (by omega) left[k] (List.getElem_mem hk) rfl
        obtain ⟨u, hu⟩ := List.exists_mem_of_ne_nil left hne
        exact key _ u hu rfl
end
end Go.Proofs.YtiibjgnmdieicaaGreat.Hist
/- the document's order: Order, walked. -/
namespace Go.Proofs.YtiibjgnmdieicaaGreat.Hist
open Go.RowKit Go.Proofs.YtiibjgnmdieicaaGreatW.PrintWords Go.Sort
abbrev tIl : TypeId := 71
theorem one_ints {l : List Nat} {inner : List Value} (h : Reps RI 1 l inner) : ∀ u ∈ inner, u.oneCell' = true := by
  intro u hu
  obtain ⟨i, hi, rfl⟩ := List.getElem_of_mem hu
  have hil : i < l.length := by have := h.1; omega
  have := h.2 i l[i] (List.getElem?_eq_getElem hil)
  unfold RI at this
  rw [Nat.mul_one, List.drop_eq_getElem_cons hi] at this
  simp only [List.take_succ_cons, List.take_zero, List.cons.injEq] at this
  rw [this.1]
  rfl
theorem reps_app {l r : List Nat} {a b : List Value} (h : Reps RI 1 l a) (k : Reps RI 1 r b) : Reps RI 1 (l ++ r) (a ++ b) := by
  have h1 := h.1
  have k1 := k.1
  refine ⟨by rw [List.length_append, List.length_append]; omega, fun j q hq => ?_⟩
  by_cases hj : j < l.length
  · rw [List.getElem?_append_left hj] at hq
    have := h.2 j q hq
    rw [Nat.mul_one] at this ⊢
    rw [List.drop_append_of_le_length (by omega), List.take_append_of_le_length (by rw [List.length_drop]; omega)]
    exact this
  · rw [List.getElem?_append_right (by omega)] at hq
    have := k.2 (j - l.length) q hq
    rw [Nat.mul_one] at this ⊢
    rw [show j = a.length + (j - l.length) from by omega, List.drop_append, List.drop_eq_nil_of_le (by omega), List.nil_append, Nat.add_sub_cancel_left]
    exact this
/-- append(v, qs...): v the program's own, qs anyone's -/
theorem append_ints {ops : Array Oper} {rest : List Oper} {o : Oper} {a : Act} {Q : Exit → Act → World → Prop} {W : World} (S : Nat) (hgd : o.guard = none) (s x : Operand) (ho : o.op = .call { callee := .builtin .append, args := #[s, x], argTypes := #[tIl, tIl] })
    (ps qs : List Nat) (np nq : Nat) (hnp : ps.length = np) (hnq : qs.length = nq) (v : Value) (A : Option Addr) (c : Nat) (hs : a.eval s = v) (hx : a.eval x = .slice A nq c) (HO : OwnRow RI tI 1 W S v ps) (hS : S ≤ W.heap.size) (hR : RowC RI 1 W A qs) (hl : ps.length + qs.length ≤ 2097152)
    (h : ∀ A1 c1 w1, OwnRow RI tI 1 w1 S (.slice A1 (np + nq) c1) (ps ++ qs) → Below S W w1 → wpList Tryz.prog ops Q rest (a.put o.dst (.slice A1 (np + nq) c1)) w1) :
    wpList Tryz.prog ops Q (o :: rest) a W := by
  subst hnp hnq
  obtain ⟨i0, hi, hz0, hz1, hz2⟩ := info_parts infoI
  cases qs with
  | nil =>
    obtain ⟨A0, c0, rfl, hle⟩ := HO.slice_
    have hsrc : Src Tryz.prog i0.size tIl (.slice A 0 c) 0 [] W := by
      cases A with
      | none => exact Src.ofNil W Tryz.underlying71 c
      | some ad => exact Src.ofSlice W Tryz.underlying71 ad 0 c [] (by simp) (fun j u hu => by simp at hu) (fun u hu => by cases hu)
    have hrun := run_append_nothing (P := Tryz.prog) W tIl tIl o.type tI i0 Tryz.underlying71 hi A0 ps.length c0 hle (.slice A 0 c) hsrc
    refine wpList_plain hgd fun K hK => ?_
    unfold Oper.wp
    simp only [List.length_nil] at hx h
    simp [execOp, ho, resolve, invoke, builtin, hs, hx, hrun, Result.andThen]
    exact hK _ _ (h A0 c0 W (by rw [List.append_nil]; exact HO) (Below.refl _ _))
  | cons y r =>
    generalize hso : y :: r = qs at *
    have hpos : 0 < qs.length := by rw [← hso]; simp
    obtain ⟨ad, rfl, _⟩ := hR.2.2 hpos
    obtain ⟨inner2, hrep2, hcell⟩ := ReadsRow.inner_ (R := RI) (size := 1) hR
    obtain ⟨inner, hown, hrep⟩ := HO
    refine wpList_append_lies W hgd s x tIl ho S tI i0 _ 1 8 Tryz.underlying71 hi hz0 hz1 hz2 rfl (by decide) v ps.length inner hs hown ad qs.length c inner2 hx hrep2.1 hcell (one_ints hrep2) hpos (by unfold maxLen; omega) (by omega) hS _ rfl ?_
    intro g cap w1 own1 gr1 _ _
    exact h _ _ _ ⟨inner ++ inner2, by rw [List.length_append]; exact own1, reps_app hrep hrep2⟩ (pw_below_grown (Below.refl _ _) _ hS gr1 (fun k e => own_base hown k e))
theorem rowC_take {W : World} {A : Option Addr} {l : List Nat} (h : RowC RI 1 W A l) (i : Nat) : RowC RI 1 W A (l.take i) := by
  obtain ⟨h1, h2, h3⟩ := h
  refine ⟨rfl, by rw [List.length_take]; omega, fun h0 => ?_⟩
  obtain ⟨ad, e, hc⟩ := h3 (by rw [List.length_take] at h0; omega)
  refine ⟨ad, e, fun t q hq => ?_⟩
  rw [List.getElem?_take] at hq
  split at hq
  · exact hc t q hq
  · cases hq
theorem rowC_drop {W : World} {ad : Addr} {l : List Nat} (h : RowC RI 1 W (some ad) l) (i : Nat) : RowC RI 1 W (some (ad.add i)) (l.drop i) := by
  obtain ⟨h1, h2, h3⟩ := h
  refine ⟨rfl, by rw [List.length_drop]; omega, fun h0 => ?_⟩
  obtain ⟨ad', e, hc⟩ := h3 (by rw [List.length_drop] at h0; omega)
  cases e
  refine ⟨_, rfl, fun t q hq => ?_⟩
  rw [List.getElem?_drop] at hq
  obtain ⟨cs, c1, c2, c3⟩ := hc (i + t) q hq
  refine ⟨cs, c1, c2, fun j u hu => ?_⟩
  have := c3 j u hu
  rw [← this, Addr.add_add]
  congr 2
  omega
theorem own_apart {α β : Type} {R : α → List Value → Prop} {R' : β → List Value → Prop} {e e' : TypeId} {sz sz' b b' : Nat} {W : World} {v v' : Value} {l : List α} {l' : List β} (h : OwnRow R e sz W b v l) (h' : OwnRow R' e' sz' W b' v' l') (hne : e' ≠ e) : v.ownBlock = none ∨ v.ownBlock ≠ v'.ownBlock := by
  obtain ⟨inner, ⟨hlen, hv⟩, _⟩ := h
  rcases hv with ⟨rfl, _⟩ | ⟨g, cap, cur, rfl, hb, hg, _⟩
  · exact .inl rfl
  · exact .inr (h'.ne_block hg hne)
theorem rowC_empty (W : World) (A : Option Addr) : RowC RI 1 W A [] := ⟨rfl, by simp, fun h => absurd h (Nat.lt_irrefl _)⟩
theorem own_add {α : Type} {R : α → List Value → Prop} {e : TypeId} {sz b n c : Nat} {W : World} {la : Addr} {l : List α} (h : OwnRow R e sz W b (.slice (some la) n c) l) (k : Nat) : la.add k = ⟨la.block, la.off + k, none⟩ := by
  obtain ⟨inner, ⟨hlen, hv⟩, _⟩ := h
  rcases hv with ⟨e, _⟩ | ⟨g, cap, cur, e, _⟩
  · cases e
  · cases e
    rw [add_plain]
    simp
def lenV : Value → Nat
  | .slice _ n _ => n
  | _ => 0
def RefTo (w : World) (l : List Evt) (e : Ending) (w' : World) : Prop := ∃ L b q A c, RefRes l L b q ∧ e = .returned (.tuple #[.slice A L.length c, .bool b, .int .i64 q]) ∧ RowC RID 1 w' A L ∧ Below w.heap.size w w'
def RelOO (w : World) (l : List Evt) (ws : List Nat) (s5 s6 : Value) (wr : World) : Prop := ∃ pre left, GR (AhR l) ws pre left ∧ OwnRow RI tI 1 wr w.heap.size s5 left ∧ OwnRow RID tID 1 wr w.heap.size s6 (pre.map (idP l)) ∧ Below w.heap.size w wr
def RelNx (w : World) (l : List Evt) (left : List Nat) (s7 s8 : Value) (wr : World) : Prop := ∃ i : Nat, i ≤ left.length ∧ s8 = .int .i64 i ∧ ((s7 = .int .i64 (-1) ∧ ∀ t, t < i → ¬ FreeR (AhR l) left t) ∨ ∃ m : Nat, m < i ∧ s7 = .int .i64 m ∧ FreeR (AhR l) left m ∧ ∀ t, t < m → ¬ FreeR (AhR l) left t) ∧ Below w.heap.size w wr
def RelFr (w : World) (l : List Evt) (left : List Nat) (x i : Nat) (s9 s10 : Value) (wr : World) : Prop := ∃ k : Nat, k ≤ left.length ∧ s10 = .int .i64 k ∧ (∃ b : Bool, s9 = .bool b ∧ (b = true ↔ ∀ t (ht : t < left.length), t < k → t ≠ i → ¬ AhR l left[t] x)) ∧ Below w.heap.size w wr
theorem rowCnil (W : World) : RowC RID 1 W none [] := ⟨rfl, by simp, fun h => absurd h (Nat.lt_irrefl _)⟩
theorem em_bool (p : Prop) : ∃ b : Bool, (b = true ↔ p) := by
  rcases Classical.em p with h | h
  · exact ⟨true, by simp [h]⟩
  · exact ⟨false, by simp [h]⟩
set_option maxHeartbeats 32000000 in
set_option maxRecDepth 100000 in
theorem rorder_any (A : Option Addr) (c : Nat) (l : List Evt) (hsm : l.length ≤ 1048576) (hvs : ∀ j (hj : j < l.length), l[j].f6.f3.length ≤ 1048576) (w : World) (hC : kEvt.C w A l.length l) :
    Calls Tryz.prog 14 #[.slice A l.length c] w (RefTo w l) := by
  have hm : l.length ≤ 9223372036854775807 := hC.2.1
  have hpr := Lib.hid (rproper_any A c l w hC)
  obtain ⟨nb, hnb⟩ := em_bool (NamedP l)
  obtain ⟨bb, hbb⟩ := em_bool (BotP l)
  have hnm := Lib.hid fun W (hb : Below w.heap.size w W) => rnamed_any A c l W (Kd.C_below hC hb) nb hnb
  have hbo := Lib.hid fun W (hb : Below w.heap.size w W) => rbottoms_any A c l hsm hvs W (Kd.C_below hC hb) bb hbb
  have hws := Lib.hid fun W (hb : Below w.heap.size w W) => rwrites_any A c l hsm W (Kd.C_below hC hb)
  have hah := Lib.hid fun W (hb : Below w.heap.size w W) a b ha hb2 r hr => rahead_any A c l a b ha hb2 hvs W (Kd.C_below hC hb) r hr
  have hr1 : ¬ (properB l = true ∧ nb = true) → RefRes l [] false 1 := fun h => .inl ⟨by rw [← hnb]; exact h, rfl, rfl, rfl⟩
  have hr2 : properB l = true → nb = true → bb = true → RefRes l [] false 0 := fun h1 h2 h3 => .inr (.inl ⟨h1, hnb.1 h2, hbb.1 h3, rfl, rfl, rfl⟩)
  have hr3 : properB l = true → nb = true → bb = false → ∀ pre, GR (AhR l) (writesN l l.length) pre [] → RefRes l (pre.map (idP l)) true 0 := fun h1 h2 h3 pre hg => .inr (.inr ⟨h1, hnb.1 h2, (fun e => by rw [hbb.2 e] at h3; cases h3), rfl, .inl ⟨pre, hg, rfl, rfl⟩⟩)
  have hr4 : properB l = true → nb = true → bb = false → ∀ pre left, GR (AhR l) (writesN l l.length) pre left → left ≠ [] → (∀ t, ¬ FreeR (AhR l) left t) → RefRes l [] false 0 := fun h1 h2 h3 pre left hg h4 h5 => .inr (.inr ⟨h1, hnb.1 h2, (fun e => by rw [hbb.2 e] at h3; cases h3), rfl, .inr ⟨pre, left, hg, h4, h5, rfl, rfl⟩⟩)
  have hwl : ∀ p ∈ writesN l l.length, p < l.length := fun p hp => (w_lt hp).1
  have hwn := writesN_len l l.length
  clear hnb hbb hvs
  generalize properB l = pb at *
  generalize hWS : writesN l l.length = ws at *
  replace hC := Lib.hid hC
  replace hr1 := Lib.hid hr1
  replace hr2 := Lib.hid hr2
  replace hr3 := Lib.hid hr3
  replace hr4 := Lib.hid hr4
  unfold RefTo
  cases pb with
  | false =>
    have hr5 := Lib.hid (hr1.out (by simp))
    clear hnm hbo hws hah hr1 hr2 hr3 hr4
    go_enter Tryz.func14, Tryz.ntmps14
    go_wp2_with (first | (go_at_call 26; refine hpr.out.mono ?_; rintro e W1 ⟨rfl, hb1⟩; replace hb1 := Lib.hid hb1) | go_in)
    go_ret3
    exact ⟨[], false, 1, none, 0, hr5.out, rfl, rowCnil _, hb1.out⟩
  | true =>
    cases nb with
    | false =>
      have hr5 := Lib.hid (hr1.out (by simp))
      clear hbo hws hah hr1 hr2 hr3 hr4
      go_enter Tryz.func14, Tryz.ntmps14
      go_wp2_with (first | (go_at_call 26; refine hpr.out.mono ?_; rintro e W1 ⟨rfl, hb1⟩; replace hb1 := Lib.hid hb1; have hca := Lib.hid (hnm.out W1 hb1.out)) | (go_at_call 31; refine hca.out.mono ?_; rintro e W2 ⟨rfl, hb2⟩; have hB2 := Lib.hid (below_then hb1.out hb1.out.size hb2); clear hb2) | go_in)
      go_ret3
      exact ⟨[], false, 1, none, 0, hr5.out, rfl, rowCnil _, hB2.out⟩
    | true =>
      clear hr1
      cases bb with
      | true =>
        have hr5 := Lib.hid (hr2.out rfl rfl rfl)
        clear hws hah hr2 hr3 hr4
        go_enter Tryz.func14, Tryz.ntmps14
        go_wp2_with (first | (go_at_call 26; refine hpr.out.mono ?_; rintro e W1 ⟨rfl, hb1⟩; replace hb1 := Lib.hid hb1; have hca := Lib.hid (hnm.out W1 hb1.out)) | (go_at_call 31; refine hca.out.mono ?_; rintro e W2 ⟨rfl, hb2⟩; have hB2 := Lib.hid (below_then hb1.out hb1.out.size hb2); have hcb := Lib.hid (hbo.out W2 hB2.out); clear hb2) | (go_at_call 32; refine hcb.out.mono ?_; rintro e W3 ⟨rfl, hb3⟩; have hB3 := Lib.hid (below_then hB2.out hB2.out.size hb3); clear hb3) | go_in)
        go_ret3
        exact ⟨[], false, 0, none, 0, hr5.out, rfl, rowCnil _, hB3.out⟩
      | false =>
        have hr5 := Lib.hid (hr3.out rfl rfl rfl)
        have hr6 := Lib.hid (hr4.out rfl rfl rfl)
        clear hr2 hr3 hr4
        go_enter Tryz.func14, Tryz.ntmps14
        go_wp2_with (first | (go_at_call 26; refine hpr.out.mono ?_; rintro e W1 ⟨rfl, hb1⟩; replace hb1 := Lib.hid hb1; have hca := Lib.hid (hnm.out W1 hb1.out)) | (go_at_call 31; refine hca.out.mono ?_; rintro e W2 ⟨rfl, hb2⟩; have hB2 := Lib.hid (below_then hb1.out hb1.out.size hb2); have hcb := Lib.hid (hbo.out W2 hB2.out); clear hb2) | (go_at_call 32; refine hcb.out.mono ?_; rintro e W3 ⟨rfl, hb3⟩; have hB3 := Lib.hid (below_then hB2.out hB2.out.size hb3); have hcw := Lib.hid (hws.out W3 hB3.out); clear hb3) | (go_at_call 33; refine hcw.out.mono ?_; unfold WritesTo; rintro e W4 ⟨WA, wc, rfl, hrow, hb4⟩; have hB4 := Lib.hid (below_then hB3.out hB3.out.size hb4); replace hrow := Lib.hid (hrow.lower hB3.out.size); clear hb4) | go_in)
        clear hpr hca hcb hcw hnm hbo hws hb1 hB2 hB3
        rw [hWS] at hrow
        try rw [hWS]
        go_loopw [5, 6] (fun s5 s6 wr => RelOO w l ws s5 s6 wr) (fun s5 _ _ => lenV s5)
        case atStart => exact ⟨[], ws, .start, hrow.out, OwnRow.none_ _ _ _ _ _, hB4.out⟩
        case round =>
          clear hrow hB4
          obtain ⟨pre, left, hg, hO5, hO6, hB⟩ := hrel
          have hsub := hg.sub
          have hll : left.length ≤ 1048576 := Nat.le_trans hsub.length_le (Nat.le_trans hwn hsm)
          cases left with
          | nil =>
            obtain ⟨LA, lc, rfl⟩ := slice_of hO5 rfl
            have hr7 := Lib.hid (hr5.out pre hg)
            generalize pre.map (idP l) = L at *
            obtain ⟨OA, oc, rfl⟩ := slice_of hO6 rfl
            have hRo := Lib.hid (RowC.own hO6).1
            replace hB := Lib.hid hB
            clear hO5 hO6 hg hr5 hr6 hah hsub
            go_wp2
            go_ret3
            exact ⟨L, true, 0, OA, oc, hr7.out, rfl, hRo.out, hB.out⟩
          | cons y0 rest =>
            generalize hleft : y0 :: rest = left at *
            have hpos : 0 < left.length := by rw [← hleft]; simp
            clear hleft
            obtain ⟨LA, lc, rfl⟩ := slice_of hO5 rfl
            obtain ⟨n6, hn6⟩ : ∃ n, (pre.map (idP l)).length = n := ⟨_, rfl⟩
            obtain ⟨OA, oc, rfl⟩ := slice_of hO6 hn6
            have hs6 : ((pre.map (idP l)).length + 1) * 8 ≤ 140737488355328 := by
              have h1 := hg.perm.length_eq
              rw [List.length_append] at h1
              rw [List.length_map]
              omega
            replace hs6 := Lib.hid hs6
            have hR5 := (RowC.own hO5).1
            obtain ⟨la, rfl, -⟩ := hR5.2.2 hpos
            replace hR5 := Lib.hid hR5
            have hpos2 : decide ((0 : Int) < (left.length : Int)) = true := decide_eq_true (by omega)
            have hmemw : ∀ k (hk : k < left.length), left[k] < l.length := fun k hk => hwl _ (hsub.subset (List.getElem_mem hk))
            have hBs := Lib.hid fun (W : World) (hb : Below wr.heap.size wr W) => below_then hB hB.size hb
            replace hO5 := Lib.hid hO5
            replace hO6 := Lib.hid hO6
            replace hB := Lib.hid hB
            replace hg := Lib.hid hg
            go_wp2
            obtain ⟨w1, rfl⟩ : ∃ w1, w1 = wr := ⟨_, rfl⟩
            go_loopw [7, 8] (fun s7 s8 wr => RelNx w1 l left s7 s8 wr) (fun _ s8 _ => left.length - (intOf s8).toNat)
            case atStart => exact ⟨0, Nat.zero_le _, rfl, .inl ⟨rfl, fun t h => absurd h (Nat.not_lt_zero t)⟩, Below.refl _ _⟩
            case round =>
              obtain ⟨i, hi, rfl, hn, hB1⟩ := hrel
              rcases hn with ⟨rfl, hn⟩ | ⟨m, hmi, rfl, hfr, hn⟩
              · by_cases hil : i < left.length
                · have a1 : IntKind.i64.wrap ((i : Int) + 1) = (i : Int) + 1 := IntWalk.i64_in _ (by omega)
                  have hxl := hmemw i hil
                  have hfi : (∀ t (ht : t < left.length), t ≠ i → ¬ AhR l left[t] left[i]) ↔ FreeR (AhR l) left i := ⟨fun h => ⟨hil, h⟩, fun ⟨_, h⟩ => h⟩
                  have hah2 := Lib.hid fun W (hb : Below w1.heap.size w1 W) k (hk : k < left.length) (r : Bool) (hr : r = true ↔ AhR l left[k] left[i]) => hah.out W (hBs.out W hb) left[k] left[i] (hmemw k hk) hxl r hr
                  have hci := Lib.hid fun W (hb : Below w1.heap.size w1 W) => int_at (hR5.out.below hb) hil
                  generalize hxi : left[i] = x at *
                  replace hn := Lib.hid hn
                  replace hB1 := Lib.hid hB1
                  replace hfi := Lib.hid hfi
                  replace hxi := Lib.hid hxi
                  go_wp2
                  go_loopw [9, 10] (fun s9 s10 wr => RelFr w1 l left x i s9 s10 wr) (fun _ s10 _ => left.length - (intOf s10).toNat)
                  case atStart => exact ⟨0, Nat.zero_le _, rfl, ⟨true, rfl, by simp⟩, hB1.out⟩
                  case round =>
                    clear hB1
                    obtain ⟨k, hk, rfl, ⟨b, rfl, hb⟩, hB2⟩ := hrel
                    by_cases hkl : k < left.length
                    · have a2 : IntKind.i64.wrap ((k : Int) + 1) = (k : Int) + 1 := IntWalk.i64_in _ (by omega)
                      cases b with
                      | false =>
                        have hb2 : ¬ ∀ t (ht : t < left.length), t < k + 1 → t ≠ i → ¬ AhR l left[t] x := fun h => by
                          have := hb.2 fun t ht h1 h2 => h t ht (by omega) h2
                          cases this
                        replace hb2 := Lib.hid hb2
                        replace hB2 := Lib.hid hB2
                        clear hb
                        go_wp2
                        go_quiet (fail)
                        go_wp2
                        go_roundw
                        case rel => exact ⟨k + 1, by omega, by go_num, ⟨false, rfl, by simpa using hb2.out⟩, below_then hB2.out hB2.out.size (pw_below_drewN (Below.refl _ _) _)⟩
                        case measure => simp [intOf]; omega
                      | true =>
                        have hb1 := hb.1 rfl
                        clear hb
                        by_cases hki : k = i
                        · have hb2 : ∀ t (ht : t < left.length), t < k + 1 → t ≠ i → ¬ AhR l left[t] x := fun t ht h1 h2 => hb1 t ht (by omega) h2
                          have c0 : ((k : Int) == (i : Int)) = true := by rw [beq_iff_eq]; omega
                          replace hb2 := Lib.hid hb2
                          replace hB2 := Lib.hid hB2
                          replace hki := Lib.hid hki
                          clear hb1
                          go_wp2
                          go_quiet (fail)
                          go_wp2
                          go_roundw
                          case rel => exact ⟨k + 1, by omega, by go_num, ⟨true, rfl, ⟨fun _ => hb2.out, fun _ => rfl⟩⟩, below_then hB2.out hB2.out.size (pw_below_drewN (Below.refl _ _) _)⟩
                          case measure => simp [intOf]; omega
                        · have c0 : ((k : Int) == (i : Int)) = false := by rw [beq_eq_false_iff_ne]; omega
                          obtain ⟨ab, hab⟩ := em_bool (AhR l left[k] x)
                          have hbD : Below wr.heap.size wr wr.drew := below_drew (Below.refl _ _)
                          have hbD2 := below_then hB2 hB2.size hbD
                          have hca := Lib.hid (hah2.out wr.drew hbD2 k hkl ab hab)
                          have hS : Hid (∀ W', Below w1.heap.size w1 W' → W'.cell? (la.add k) = some (.int .i64 left[k]) ∧ W'.cell? (la.add i) = some (.int .i64 x)) := Lib.hid fun W' hb => by
                            obtain ⟨_, e1, z1⟩ := int_at (hR5.out.below hb) hkl
                            obtain ⟨_, e2, z2⟩ := hci.out W' hb
                            cases e1
                            cases e2
                            exact ⟨z1, z2⟩
                          have hb2 : (ab = false ↔ ∀ t (ht : t < left.length), t < k + 1 → t ≠ i → ¬ AhR l left[t] x) := by
                            constructor
                            · intro e t ht h1 h2
                              by_cases e2 : t = k
                              · subst e2
                                rw [← hab, e]
                                decide
                              · exact hb1 t ht (by omega) h2
                            · intro h
                              have := h k hkl (Nat.lt_succ_self k) hki
                              rw [← hab] at this
                              simpa using this
                          clear hab hb1
                          generalize left[k] = y at *
                          have hHeld := Lib.hid (hS.out _ hbD2)
                          replace hbD2 := Lib.hid hbD2
                          replace hb2 := Lib.hid hb2
                          replace hki := Lib.hid hki
                          clear hB2 hbD
                          go_wp2
                          go_region_held3 (fun W' => W'.cell? (la.add k) = some (.int .i64 y) ∧ W'.cell? (la.add i) = some (.int .i64 x)) (first | exact hS.out _ hB6.out | exact hHeld.out) (first | (go_at_call 34; refine hca.out.mono ?_; rintro e w6 ⟨rfl, hb6⟩; have hB6 := Lib.hid (below_then hbD2.out hbD2.out.size hb6); clear hb6))
                          cases ab with
                          | false =>
                            have hb3 := Lib.hid (hb2.out.1 rfl)
                            go_wp2
                            go_roundw
                            case rel => exact ⟨k + 1, by omega, by go_num, ⟨true, rfl, ⟨fun _ => hb3.out, fun _ => rfl⟩⟩, hB6.out⟩
                            case measure => simp [intOf]; omega
                          | true =>
                            have hb3 := Lib.hid fun h => hb2.out.2 h
                            go_wp2
                            go_roundw
                            case rel => exact ⟨k + 1, by omega, by go_num, ⟨false, rfl, ⟨fun h => (by cases h), fun h => (by cases hb3.out h)⟩⟩, hB6.out⟩
                            case measure => simp [intOf]; omega
                    · obtain rfl : k = left.length := by omega
                      have hb2 : b = true ↔ FreeR (AhR l) left i := by
                        rw [← hfi.out, hb]
                        exact ⟨fun h t ht h2 => h t ht ht h2, fun h t ht _ h2 => h t ht h2⟩
                      have hnn := hn.out
                      clear hb hn hfi
                      replace hB2 := Lib.hid hB2
                      cases b with
                      | true =>
                        have hfr := Lib.hid (hb2.1 rfl)
                        replace hnn := Lib.hid hnn
                        clear hb2
                        go_wp2
                        go_roundw
                        case rel => exact ⟨i + 1, by omega, by go_num, .inr ⟨i, by omega, rfl, hfr.out, hnn.out⟩, hB2.out⟩
                        case measure => simp [intOf]; omega
                      | false =>
                        have hn2 : ∀ t, t < i + 1 → ¬ FreeR (AhR l) left t := fun t h1 => by
                          by_cases e : t = i
                          · subst e
                            exact fun h => by cases hb2.2 h
                          · exact hnn t (by omega)
                        replace hn2 := Lib.hid hn2
                        clear hb2 hnn
                        go_wp2
                        go_roundw
                        case rel => exact ⟨i + 1, by omega, by go_num, .inl ⟨rfl, hn2.out⟩, hB2.out⟩
                        case measure => simp [intOf]; omega
                · have hst : ∀ t, ¬ FreeR (AhR l) left t := fun t h => by
                    have ht := h.1
                    exact hn t (by omega) h
                  have hr7 := Lib.hid (hr6.out pre left hg.out (fun e => by rw [e] at hpos; cases hpos) hst)
                  have hB7 := Lib.hid (hBs.out _ hB1)
                  clear hn hst hB1
                  go_wp2
                  go_ret3
                  exact ⟨[], false, 0, none, 0, hr7.out, rfl, rowCnil _, hB7.out⟩
              · have hml : m < left.length := hfr.1
                have hg2 := Lib.hid (GR.next hml hg.out hfr hn)
                have hxl := hmemw m hml
                have hgl : (left.eraseIdx m).length < left.length := by rw [List.length_eraseIdx, if_pos hml]; omega
                obtain ⟨_, e1, z0⟩ := int_at (hR5.out.below hB1) hml
                cases e1
                obtain ⟨ad, A4, c4, A5, c5, A9, c9, he, q0, q1, q2, q3, q4, q5, q6, q7, q8, q9, hK, hl9, hk9⟩ := evt_at (Kd.C_below hC.out (hBs.out _ hB1)) hxl
                cases he
                clear q0 q1 q2 q4 q5 q6 q7 q8 q9 hK hl9 hk9
                rw [← idP_lt hxl] at q3
                have c0 : decide ((m : Int) < 0) = false := decide_eq_false (by omega)
                have a3 : IntKind.i64.wrap ((m : Int) + 1) = (m : Int) + 1 := IntWalk.i64_in _ (by omega)
                have hmap : (pre ++ [left[m]]).map (idP l) = pre.map (idP l) ++ [idP l left[m]] := by rw [List.map_append]; rfl
                clear hah hr5 hr6 hmemw
                replace hn := Lib.hid hn
                replace hfr := Lib.hid hfr
                have hB2 := Lib.hid (hBs.out _ hB1)
                have hO6w := Lib.hid (hO6.out.below hB1)
                have hO5w := Lib.hid (hO5.out.below hB1)
                have hone := Lib.hid (oneID (idP l left[m]))
                have hl7 : (pre.map (idP l) ++ [idP l left[m]]).length = n6 + 1 := by rw [List.length_append, hn6]; rfl
                have hlt : (left.take m).length = m := by rw [List.length_take]; omega
                have hld : (left.drop (m + 1)).length = left.length - (m + 1) := List.length_drop
                replace hl7 := Lib.hid hl7
                replace hlt := Lib.hid hlt
                replace hld := Lib.hid hld
                replace hmap := Lib.hid hmap
                replace hn6 := Lib.hid hn6
                generalize hid0 : idP l left[m] = id0 at *
                generalize left[m] = p0 at *
                have hlc : left.length ≤ lc := by
                  obtain ⟨_, _, e, hle⟩ := hO5w.out.slice_
                  cases e
                  exact hle
                have hmlc : m ≤ lc := by omega
                have hml2 : m + 1 ≤ left.length := by omega
                have hml3 : m + 1 ≤ lc := by omega
                clear hB1
                by_cases hcm : lc = m + 1
                · have hdn : Hid (left.drop (m + 1) = []) := Lib.hid (List.drop_eq_nil_of_le (by omega))
                  subst hcm
                  go_wp2_with (first
                    | (at_builtin; refine append_plain (P := Tryz.prog) (R := RID) (w0 := w) (W := wr) w.heap.size rfl (.tmp 66) (.tmp 75) 40 31 (.int .u64 0) 1 8 rfl Tryz.underlying40 infoID rfl (by decide) (by decide) (.slice OA n6 oc) (pre.map (idP l)) id0 [.int .u64 id0] rfl (by simp [Act.eval]) rfl rfl (by exact hone.out) (by exact hO6w.out) (by exact hB2.out) (by exact hB2.out.size) (by exact hs6.out) (n6 + 1) (by exact hl7.out) ?_; intro A7 c7 W7 own7 bel7 gr7; have hL7 := Lib.hid (hO5w.out.other gr7 (own_apart hO5w.out hO6w.out (by decide))); replace own7 := Lib.hid own7; replace bel7 := Lib.hid bel7; clear gr7)
                    | (at_builtin; refine append_ints (W := W7) W7.heap.size rfl (.const (.slice none 0 0)) (.tmp 79) rfl [] (left.take m) 0 m rfl (by exact hlt.out) (.slice none 0 0) (some la) (m + 1) rfl (by simp [Act.eval]) (OwnRow.none_ _ _ _ _ _) (Nat.le_refl _) (by exact rowC_take (RowC.own hL7.out).1 m) (by have := hlt.out; simp; omega) ?_; intro A8 c8 W8 own8 bel8; rw [Nat.zero_add] at own8 ⊢; rw [List.nil_append] at own8; have hL8 := Lib.hid ((RowC.own hL7.out).1.below bel8); replace own8 := Lib.hid own8; replace bel8 := Lib.hid bel8)
                    | (at_builtin; refine append_ints (W := W8) W7.heap.size rfl (.tmp 81) (.tmp 85) rfl (left.take m) (left.drop (m + 1)) m 0 (by exact hlt.out) (by rw [hdn.out]; rfl) (.slice A8 m c8) (some la) 0 (by simp [Act.eval]) (by simp [Act.eval]) (by exact own8.out) (by exact bel8.out.size) (by rw [hdn.out]; exact rowC_empty _ _) (by have := hlt.out; have := hld.out; omega) ?_; intro A9 c9 W9 own9 bel9; rw [Nat.add_zero] at own9 ⊢; replace own9 := Lib.hid own9; replace bel9 := Lib.hid bel9)
                    | go_in)
                  all_goals
                    have h79 := Lib.hid (bel8.out.trans bel9.out)
                    go_roundw
                    case rel => exact ⟨pre ++ [p0], left.take m ++ left.drop (m + 1), hg2.out, own9.out.lower bel7.out.size, by rw [hmap.out]; exact own7.out.below h79.out, below_then bel7.out bel7.out.size h79.out⟩
                    case measure => simp only [lenV]; omega
                · have hadd := Lib.hid (own_add hO5w.out (m + 1))
                  go_wp2_with (first
                    | (at_builtin; refine append_plain (P := Tryz.prog) (R := RID) (w0 := w) (W := wr) w.heap.size rfl (.tmp 66) (.tmp 75) 40 31 (.int .u64 0) 1 8 rfl Tryz.underlying40 infoID rfl (by decide) (by decide) (.slice OA n6 oc) (pre.map (idP l)) id0 [.int .u64 id0] rfl (by simp [Act.eval]) rfl rfl (by exact hone.out) (by exact hO6w.out) (by exact hB2.out) (by exact hB2.out.size) (by exact hs6.out) (n6 + 1) (by exact hl7.out) ?_; intro A7 c7 W7 own7 bel7 gr7; have hL7 := Lib.hid (hO5w.out.other gr7 (own_apart hO5w.out hO6w.out (by decide))); replace own7 := Lib.hid own7; replace bel7 := Lib.hid bel7; clear gr7)
                    | (at_builtin; refine append_ints (W := W7) W7.heap.size rfl (.const (.slice none 0 0)) (.tmp 79) rfl [] (left.take m) 0 m rfl (by exact hlt.out) (.slice none 0 0) (some la) lc rfl (by simp [Act.eval]) (OwnRow.none_ _ _ _ _ _) (Nat.le_refl _) (by exact rowC_take (RowC.own hL7.out).1 m) (by have := hlt.out; simp; omega) ?_; intro A8 c8 W8 own8 bel8; rw [Nat.zero_add] at own8 ⊢; rw [List.nil_append] at own8; have hL8 := Lib.hid ((RowC.own hL7.out).1.below bel8); replace own8 := Lib.hid own8; replace bel8 := Lib.hid bel8)
                    | (at_builtin; refine append_ints (W := W8) W7.heap.size rfl (.tmp 81) (.tmp 85) rfl (left.take m) (left.drop (m + 1)) m (left.length - (m + 1)) (by exact hlt.out) (by exact hld.out) (.slice A8 m c8) (some ⟨la.block, la.off + (m + 1), none⟩) (lc - (m + 1)) (by simp [Act.eval]) (by simp [Act.eval]) (by exact own8.out) (by exact bel8.out.size) (by rw [← hadd.out]; exact rowC_drop hL8.out (m + 1)) (by have := hlt.out; have := hld.out; omega) ?_; intro A9 c9 W9 own9 bel9; replace own9 := Lib.hid own9; replace bel9 := Lib.hid bel9)
                    | go_in)
                  all_goals
                    have h79 := Lib.hid (bel8.out.trans bel9.out)
                    go_roundw
                    case rel => exact ⟨pre ++ [p0], left.take m ++ left.drop (m + 1), hg2.out, own9.out.lower bel7.out.size, by rw [hmap.out]; exact own7.out.below h79.out, below_then bel7.out bel7.out.size h79.out⟩
                    case measure => simp only [lenV]; omega
end Go.Proofs.YtiibjgnmdieicaaGreat.Hist
