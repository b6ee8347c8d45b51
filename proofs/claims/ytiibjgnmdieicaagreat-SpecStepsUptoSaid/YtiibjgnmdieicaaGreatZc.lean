/- what the judge hears of a write, whole. -/
import Derived.Test.YtiibjgnmdieicaaGreatUb
import Derived.Test.YtiibjgnmdieicaaGreatVa
import Derived.Test.YtiibjgnmdieicaaGreatZb
import Derived.Sort.Walk0
namespace Go.Proofs.YtiibjgnmdieicaaGreat.Hist
open Go.RowKit Go.Proofs.YtiibjgnmdieicaaGreatW.PrintWords Go.Sort
/-- what is heard of the write at w, j events on -/
structure HW (l : List Evt) (j : Nat) (s : Hs) (n : Nat) (y : Wr) (w : Nat) (hw : w < l.length) : Prop where
  lt : w < j
  iw : IsW l[w]
  pl : y.place = (w : Int)
  id : y.id = l[w].f3
  pr : y.pairs = l[w].f4
  ks : y.keys = normK l[w]
  by_ : s.by_ (qOf l[w]) = some n
  an : (y.res = 0 ∧ y.done = 0 ∧ ∀ k (hk : k < l.length), k < j → okA l[w] l[k] = false) ∨ ∃ k, ∃ hk : k < l.length, k < j ∧ okA l[w] l[k] = true ∧ y.res = l[k].f6.f1 ∧ y.done = (k : Int)
theorem okA_q {x y : Evt} : okA x y = true ↔ y.f0 = 3 ∧ qOf y = qOf x := by
  rw [okA_iff]
  exact ⟨fun ⟨a, b, c⟩ => ⟨a, q_mk b c⟩, fun ⟨a, b⟩ => ⟨a, q_eq b⟩⟩
/-- one more event that is no answer to it -/
theorem HW.next {l : List Evt} {j : Nat} {s s' : Hs} {n : Nat} {y : Wr} {w : Nat} {hw : w < l.length} (h : HW l j s n y w hw) (hj : j < l.length) (hn : okA l[w] l[j] = false) (hb : s'.by_ (qOf l[w]) = s.by_ (qOf l[w])) : HW l (j + 1) s' n y w hw := by
  refine ⟨by have := h.lt; omega, h.iw, h.pl, h.id, h.pr, h.ks, hb.trans h.by_, ?_⟩
  rcases h.an with ⟨a, b, c⟩ | ⟨k, hk, a, b⟩
  · refine .inl ⟨a, b, fun k hk hkj => ?_⟩
    by_cases e : k = j
    · subst e
      exact hn
    · exact c k hk (by omega)
  · exact .inr ⟨k, hk, by omega, b⟩
theorem hear_ws {l : List Evt} (H : Prp l) (hpb : properB l = true) : ∀ j, j ≤ l.length → ∀ (n : Nat) y, (heN l j).ws[n]? = some y → ∃ w, ∃ hw : w < l.length, HW l j (heN l j) n y w hw
  | 0, _ => fun n y hy => by simp [heN, hs0] at hy
  | j + 1, hj => fun n y hy => by
    have hl : j < l.length := by omega
    have ih := hear_ws H hpb j (by omega)
    have hc := hear_inv H hpb j (by omega)
    rw [heN_succ hl] at hy ⊢
    have hput : ∀ {w : Nat} (hw : w < l.length), w < j → IsW l[w] → l[j].f0 ≠ 3 → ∀ m, putF (heN l j).by_ (qOf l[j]) m (qOf l[w]) = (heN l j).by_ (qOf l[w]) := fun {w} hw hwj iw k3 m => by
      unfold putF
      rw [if_neg]
      intro e
      obtain ⟨e1, e2⟩ := q_eq e
      have := H.uniq hw hl (by rw [iw.1]; decide) k3 e1 e2
      omega
    have hna : l[j].f0 ≠ 3 → ∀ x, okA x l[j] = false := fun k3 x => by
      rw [← Bool.not_eq_true, okA_iff]
      exact fun h => k3 h.1
    unfold hearS at hy ⊢
    by_cases k1 : l[j].f0 = 1
    · rw [if_pos k1] at hy ⊢
      have k3 : l[j].f0 ≠ 3 := by omega
      by_cases k0 : l[j].f3 = 0
      · rw [if_pos k0] at hy ⊢
        obtain ⟨w, hw, h⟩ := ih n y hy
        exact ⟨w, hw, h.next hl (hna k3 _) rfl⟩
      · rw [if_neg k0] at hy ⊢
        have hy' : ((heN l j).ws ++ [newW j l[j]])[n]? = some y := hy
        by_cases hn : n < (heN l j).ws.length
        · rw [List.getElem?_append_left hn] at hy'
          obtain ⟨w, hw, h⟩ := ih n y hy'
          exact ⟨w, hw, h.next hl (hna k3 _) (hput hw h.lt h.iw k3 _)⟩
        · rw [List.getElem?_append_right (by omega)] at hy'
          have hn2 : n - (heN l j).ws.length = 0 := by
            have := (List.getElem?_eq_some_iff.1 hy').1
            simp at this
            omega
          rw [hn2] at hy'
          simp at hy'
          subst hy'
          obtain rfl : n = (heN l j).ws.length := by
            have : ¬ n < (heN l j).ws.length := hn
            omega
          refine ⟨j, hl, Nat.lt_succ_self j, ⟨k1, k0⟩, rfl, rfl, rfl, rfl, ?_, .inl ⟨rfl, rfl, fun k hk hkj => ?_⟩⟩
          · show putF (heN l j).by_ (qOf l[j]) (heN l j).ws.length (qOf l[j]) = _
            unfold putF
            rw [if_pos rfl]
          · rw [← Bool.not_eq_true, okA_iff]
            rintro ⟨a1, a2, a3⟩
            by_cases e : k = j
            · subst e
              exact k3 a1
            · obtain ⟨p, hp, hpk, hr, hcc, ht, _⟩ := H.req k hk a1
              have := H.uniq hp hl hr k3 (hcc.trans a2) (ht.trans a3)
              omega
    · rw [if_neg k1] at hy ⊢
      by_cases k2 : l[j].f0 = 2
      · rw [if_pos k2] at hy ⊢
        obtain ⟨w, hw, h⟩ := ih n y hy
        exact ⟨w, hw, h.next hl (hna (by omega) _) rfl⟩
      · rw [if_neg k2] at hy ⊢
        have k3 : l[j].f0 = 3 := by
          have := (H.kind j hl).1
          omega
        cases hb : (heN l j).by_ (qOf l[j]) with
        | none =>
          rw [hb] at hy
          obtain ⟨w, hw, h⟩ := ih n y hy
          refine ⟨w, hw, h.next hl ?_ rfl⟩
          rw [← Bool.not_eq_true, okA_q]
          rintro ⟨_, e⟩
          have := h.by_
          rw [← e, hb] at this
          cases this
        | some n0 =>
          rw [hb] at hy
          have hy' : ((heN l j).ws.modify n0 fun w => ⟨w.place, w.id, w.pairs, w.keys, l[j].f6.f1, j⟩)[n]? = some y := hy
          rw [List.getElem?_modify] at hy'
          cases hz : (heN l j).ws[n]? with
          | none => rw [hz] at hy'; simp at hy'
          | some z =>
            obtain ⟨w, hw, h⟩ := ih n z hz
            rw [hz] at hy'
            by_cases e : n0 = n
            · subst e
              obtain ⟨w', hw', _, iw', hq, z', hz', hpl⟩ := hc.h4 _ _ hb
              rw [hz] at hz'
              cases hz'
              obtain rfl : w = w' := by
                have := h.pl
                omega
              simp at hy'
              subst hy'
              exact ⟨w, hw, by have := h.lt; omega, h.iw, h.pl, h.id, h.pr, h.ks, h.by_, .inr ⟨j, hl, Nat.lt_succ_self j, okA_q.2 ⟨k3, hq.symm⟩, rfl, rfl⟩⟩
            · simp [e] at hy'
              subst hy'
              refine ⟨w, hw, h.next hl ?_ rfl⟩
              rw [← Bool.not_eq_true, okA_q]
              rintro ⟨_, e2⟩
              have := h.by_
              rw [← e2, hb] at this
              cases this
              exact e rfl
end Go.Proofs.YtiibjgnmdieicaaGreat.Hist
/- two lists of texts, each once, rising: one list. -/
namespace Go.Proofs.YtiibjgnmdieicaaGreat.Hist
open Go.RowKit Go.Proofs.YtiibjgnmdieicaaGreatW.PrintWords Go.Sort
theorem rise_one {a b : List (List UInt8)} (ha : a.Pairwise (· < ·)) (hb : b.Pairwise (· < ·)) (h : ∀ x, x ∈ a ↔ x ∈ b) : a = b := by
  induction a generalizing b with
  | nil =>
    cases b with
    | nil => rfl
    | cons y r => exact absurd ((h y).2 List.mem_cons_self) (by simp)
  | cons x r ih =>
    cases b with
    | nil => exact absurd ((h x).1 List.mem_cons_self) (by simp)
    | cons y s =>
      rw [List.pairwise_cons] at ha hb
      have hxy : x = y := by
        rcases List.mem_cons.1 ((h x).1 List.mem_cons_self) with e | e
        · exact e
        · rcases List.mem_cons.1 ((h y).2 List.mem_cons_self) with e2 | e2
          · exact e2.symm
          · exact absurd (List.lt_trans (ha.1 y e2) (hb.1 x e)) (List.lt_irrefl _)
      subst hxy
      congr 1
      refine ih ha.2 hb.2 fun z => ⟨fun hz => ?_, fun hz => ?_⟩
      · rcases List.mem_cons.1 ((h z).1 (List.mem_cons_of_mem _ hz)) with e | e
        · subst e
          exact absurd (ha.1 z hz) (List.lt_irrefl _)
        · exact e
      · rcases List.mem_cons.1 ((h z).2 (List.mem_cons_of_mem _ hz)) with e | e
        · subst e
          exact absurd (hb.1 z hz) (List.lt_irrefl _)
        · exact e
theorem compact_rise {d : Array (List UInt8)} (hs : ∀ i, i + 1 < d.size → d[i]! ≤ d[i + 1]!) : ∀ m, m ≤ d.size → (Lib.compactUpTo d m).Pairwise (· < ·) ∧ ∀ x ∈ Lib.compactUpTo d m, 0 < m ∧ x ≤ d[m - 1]! ∧ ∃ j, j < m ∧ x = d[j]!
  | 0, _ => ⟨by simp [Lib.compactUpTo], fun x hx => by simp [Lib.compactUpTo] at hx⟩
  | m + 1, hm => by
    obtain ⟨h1, h2⟩ := compact_rise hs m (by omega)
    rw [Lib.compactUpTo_succ]
    have hle : ∀ x ∈ Lib.compactUpTo d m, x ≤ d[m]! := fun x hx => by
      obtain ⟨a, b, _⟩ := h2 x hx
      have := hs (m - 1) (by omega)
      rw [show m - 1 + 1 = m from by omega] at this
      exact List.le_trans b this
    cases hk : Lib.keeps d m with
    | false =>
      simp only [Bool.false_eq_true, if_false, List.append_nil, Nat.add_sub_cancel]
      exact ⟨h1, fun x hx => ⟨Nat.succ_pos m, hle x hx, by obtain ⟨_, _, j, hj, e⟩ := h2 x hx; exact ⟨j, by omega, e⟩⟩⟩
    | true =>
      simp only [if_true, Nat.add_sub_cancel]
      refine ⟨?_, fun x hx => ?_⟩
      · rw [List.pairwise_append]
        refine ⟨h1, by simp, fun x hx y hy => ?_⟩
        simp only [List.mem_singleton] at hy
        subst hy
        obtain ⟨a, b, _⟩ := h2 x hx
        have h3 := hs (m - 1) (by omega)
        rw [show m - 1 + 1 = m from by omega] at h3
        unfold Lib.keeps at hk
        have hne : d[m]! ≠ d[m - 1]! := by
          rcases (by simpa using hk : m = 0 ∨ ¬ d[m]! = d[m - 1]!) with e | e
          · omega
          · exact e
        have hlt : d[m - 1]! < d[m]! := by
          rcases List.le_iff_lt_or_eq.1 h3 with e | e
          · exact e
          · exact absurd e.symm hne
        exact List.lt_of_le_of_lt b hlt
      · rcases List.mem_append.1 hx with e | e
        · exact ⟨Nat.succ_pos m, hle x e, by obtain ⟨_, _, j, hj, e2⟩ := h2 x e; exact ⟨j, by omega, e2⟩⟩
        · simp only [List.mem_singleton] at e
          subst e
          exact ⟨Nat.succ_pos m, List.le_refl _, m, Nat.lt_succ_self m, rfl⟩
theorem toList_txt (x : ByteArray) : x.toList = txt x := ByteArray.toList_eq x
theorem ltS_txt (a b : ByteArray) : ltS a b = decide (txt a < txt b) := by
  unfold ltS
  rw [bytesLess_eq, toList_txt, toList_txt]
theorem eqS_txt (a b : ByteArray) : eqS a b = true ↔ txt a = txt b := by
  unfold eqS
  rw [beq_iff_eq, toList_txt, toList_txt]
theorem atK_spec (L : List ByteArray) (k : ByteArray) : atK L k ≤ L.length ∧ (∀ t (ht : t < L.length), t < atK L k → txt L[t] < txt k) ∧ ∀ h : atK L k < L.length, ¬ txt L[atK L k] < txt k := by
  unfold atK
  refine ⟨List.findIdx_le_length, fun t ht h => ?_, fun h => ?_⟩
  · have := List.not_of_lt_findIdx h
    rw [ltS_txt] at this
    simpa using this
  · have := List.findIdx_getElem (w := h)
    rw [ltS_txt] at this
    simpa using this
theorem insK_rise {L : List ByteArray} {k : ByteArray} (h : (L.map txt).Pairwise (· < ·)) : ((insK L k).map txt).Pairwise (· < ·) ∧ ∀ x, x ∈ (insK L k).map txt ↔ x ∈ L.map txt ∨ x = txt k := by
  obtain ⟨h1, h2, h3⟩ := atK_spec L k
  have hput : (∀ ha : atK L k < L.length, txt k < txt L[atK L k]) → ((L.take (atK L k) ++ [k] ++ L.drop (atK L k)).map txt).Pairwise (· < ·) ∧ ∀ x, x ∈ (L.take (atK L k) ++ [k] ++ L.drop (atK L k)).map txt ↔ x ∈ L.map txt ∨ x = txt k := by
    intro h4
    generalize atK L k = a at *
    have hsplit : L.map txt = (L.take a).map txt ++ (L.drop a).map txt := by rw [← List.map_append, List.take_append_drop]
    have hlo : ∀ x ∈ (L.take a).map txt, x < txt k := fun x hx => by
      obtain ⟨y, hy, rfl⟩ := List.mem_map.1 hx
      obtain ⟨t, ht, rfl⟩ := List.getElem_of_mem hy
      rw [List.length_take] at ht
      rw [List.getElem_take]
      exact h2 t (by omega) (by omega)
    have hhi : ∀ x ∈ (L.drop a).map txt, txt k < x := fun x hx => by
      obtain ⟨y, hy, rfl⟩ := List.mem_map.1 hx
      obtain ⟨t, ht, rfl⟩ := List.getElem_of_mem hy
      rw [List.length_drop] at ht
      rw [List.getElem_drop]
      have ha : a < L.length := by omega
      by_cases e : t = 0
      · subst e
        exact h4 ha
      · have hp := List.pairwise_iff_getElem.1 h a (a + t) (by rw [List.length_map]; omega) (by rw [List.length_map]; omega) (by omega)
        rw [List.getElem_map, List.getElem_map] at hp
        exact List.lt_trans (h4 ha) hp
    constructor
    · rw [List.append_assoc, List.map_append, List.map_append]
      rw [hsplit, List.pairwise_append] at h
      rw [List.pairwise_append]
      refine ⟨h.1, ?_, fun x hx y hy => ?_⟩
      · show (txt k :: (L.drop a).map txt).Pairwise _
        rw [List.pairwise_cons]
        exact ⟨hhi, h.2.1⟩
      · rcases List.mem_cons.1 (show y ∈ txt k :: (L.drop a).map txt from hy) with e | e
        · rw [e]
          exact hlo x hx
        · exact h.2.2 x hx y e
    · intro x
      rw [hsplit, List.append_assoc, List.map_append, List.map_append, List.mem_append, List.mem_append, List.mem_append]
      simp only [List.map_cons, List.map_nil, List.mem_singleton]
      constructor
      · rintro (e | e | e)
        · exact .inl (.inl e)
        · exact .inr e
        · exact .inl (.inr e)
      · rintro ((e | e) | e)
        · exact .inl e
        · exact .inr (.inr e)
        · exact .inr (.inl e)
  unfold insK
  by_cases ha : atK L k < L.length
  · rw [List.getElem?_eq_getElem ha]
    show (List.map txt (if eqS L[atK L k] k = true then L else _)).Pairwise _ ∧ _
    by_cases he : eqS L[atK L k] k = true
    · simp only [he, if_true]
      refine ⟨h, fun x => ⟨.inl, fun hx => hx.elim id fun e => ?_⟩⟩
      rw [e, ← (eqS_txt _ _).1 he]
      exact List.mem_map.2 ⟨_, List.getElem_mem ha, rfl⟩
    · simp only [he]
      refine hput fun _ => ?_
      have hne : txt L[atK L k] ≠ txt k := fun e => he ((eqS_txt _ _).2 e)
      rcases List.le_iff_lt_or_eq.1 (List.not_lt.1 (h3 ha)) with e | e
      · exact e
      · exact absurd e.symm hne
  · rw [List.getElem?_eq_none (by omega)]
    exact hput fun h => absurd h ha
theorem keysN_rise (ps : List Pai) : ∀ n, n ≤ ps.length → ((keysN ps n).map txt).Pairwise (· < ·) ∧ ∀ x, x ∈ (keysN ps n).map txt ↔ ∃ t, ∃ ht : t < ps.length, t < n ∧ x = txt ps[t].f0
  | 0, _ => ⟨by simp [keysN], fun x => ⟨fun h => by simp [keysN] at h, fun ⟨t, _, h, _⟩ => absurd h (Nat.not_lt_zero t)⟩⟩
  | n + 1, hn => by
    obtain ⟨h1, h2⟩ := keysN_rise ps n (by omega)
    rw [keysN_succ (by omega)]
    obtain ⟨g1, g2⟩ := insK_rise (k := ps[n].f0) h1
    refine ⟨g1, fun x => ?_⟩
    rw [g2, h2]
    constructor
    · rintro (⟨t, ht, h, e⟩ | e)
      · exact ⟨t, ht, by omega, e⟩
      · exact ⟨n, by omega, Nat.lt_succ_self n, e⟩
    · rintro ⟨t, ht, h, e⟩
      by_cases e2 : t = n
      · subst e2
        exact .inr e
      · exact .inl ⟨t, ht, by omega, e⟩
/-- the judge's keys are the document's -/
theorem norm_keys (e : Evt) : normK e = keysN e.f4 e.f4.length := by
  have key : (normK e).map txt = (keysN e.f4 e.f4.length).map txt := by
    obtain ⟨g1, g2⟩ := keysN_rise e.f4 e.f4.length (Nat.le_refl _)
    have hm : ((normK e).map txt) = Lib.compact (((e.f4.map fun p => p.f0).map txt).mergeSort fun x y => decide (x ≤ y)) := by
      unfold normK compS sortS
      have h2 : ((((e.f4.map fun p => p.f0).map txt).mergeSort fun x y => decide (x ≤ y)).map strOf).map txt = ((e.f4.map fun p => p.f0).map txt).mergeSort fun x y => decide (x ≤ y) := by
        rw [List.map_map]
        exact (List.map_congr_left (fun x _ => txt_strOf x)).trans (List.map_id _)
      rw [h2, List.map_map]
      exact (List.map_congr_left (fun x _ => txt_strOf x)).trans (List.map_id _)
    rw [hm]
    generalize hM : (((e.f4.map fun p => p.f0).map txt).mergeSort fun x y => decide (x ≤ y)) = M
    have hmem : ∀ x, x ∈ M ↔ ∃ t, ∃ ht : t < e.f4.length, t < e.f4.length ∧ x = txt e.f4[t].f0 := fun x => by
      rw [← hM, List.mem_mergeSort, List.map_map, List.mem_map]
      constructor
      · rintro ⟨p, hp, rfl⟩
        obtain ⟨t, ht, rfl⟩ := List.getElem_of_mem hp
        exact ⟨t, ht, ht, rfl⟩
      · rintro ⟨t, ht, _, rfl⟩
        exact ⟨_, List.getElem_mem ht, rfl⟩
    have hsrt : M.Pairwise fun a b => decide (a ≤ b) = true := by
      rw [← hM]
      exact List.pairwise_mergeSort (fun a b c h1 h2 => by simpa using List.le_trans (by simpa using h1) (by simpa using h2)) (fun a b => by simpa using List.le_total a b) _
    have hstep : ∀ i, i + 1 < M.toArray.size → M.toArray[i]! ≤ M.toArray[i + 1]! := fun i hi => by
      have hi' : i + 1 < M.length := by simpa using hi
      have := List.pairwise_iff_getElem.1 hsrt i (i + 1) (by omega) hi' (by omega)
      simp only [decide_eq_true_eq] at this
      simpa [hi', show i < M.length from by omega] using this
    obtain ⟨c1, c2⟩ := compact_rise hstep M.length (by simp)
    refine rise_one c1 g1 fun x => ?_
    rw [g2, ← hmem]
    constructor
    · intro hx
      obtain ⟨_, _, j, hj, rfl⟩ := c2 x hx
      have : M.toArray[j]! = M[j] := by simp [hj]
      rw [this]
      exact List.getElem_mem hj
    · exact fun hx => mem_comp hx
  have := congrArg (List.map strOf) key
  rw [List.map_map, List.map_map] at this
  exact ((List.map_congr_left fun x _ => (strOf_txt x)).trans (List.map_id _)).symm.trans (this.trans ((List.map_congr_left fun x _ => (strOf_txt x)).trans (List.map_id _)))
end Go.Proofs.YtiibjgnmdieicaaGreat.Hist
/- what either judge finds of a told version. -/
namespace Go.Proofs.YtiibjgnmdieicaaGreat.Hist
open Go.RowKit Go.Proofs.YtiibjgnmdieicaaGreatW.PrintWords Go.Sort
theorem eqS_comm (a b : ByteArray) : eqS a b = eqS b a := by
  rw [Bool.eq_iff_iff, eqS_txt, eqS_txt]
  exact eq_comm
theorem norm_any (e : Evt) (k : ByteArray) : ((normK e).any fun y => eqS k y) = wroteB e k := by
  rw [Bool.eq_iff_iff]
  refine ⟨fun h => ?_, mem_norm⟩
  obtain ⟨y, hy, he⟩ := List.any_eq_true.1 h
  rw [norm_keys] at hy
  obtain ⟨t, ht, _, e2⟩ := ((keysN_rise e.f4 e.f4.length (Nat.le_refl _)).2 (txt y)).1 (List.mem_map.2 ⟨y, hy, rfl⟩)
  refine List.any_eq_true.2 ⟨_, List.getElem_mem ht, (eqS_txt _ _).2 ?_⟩
  rw [← e2, (eqS_txt _ _).1 he]
/-- the greatest so far, above a bound -/
theorem fold_above {α : Type} {f : Int → α → Int} {g : α → Int} {c : α → Bool} (hf : ∀ o x, f o x = if (decide (o < g x) && c x) = true then g x else o) {b : Int} : ∀ (xs : List α) (m : Int), b ≤ m → (b < xs.foldl f m ↔ b < m ∨ ∃ x ∈ xs, b < g x ∧ c x = true)
  | [], m, _ => by simp
  | x :: r, m, hm => by
    rw [List.foldl_cons, hf]
    by_cases h : (decide (m < g x) && c x) = true
    · rw [if_pos h]
      simp only [Bool.and_eq_true, decide_eq_true_eq] at h
      rw [fold_above hf r (g x) (by omega)]
      constructor
      · rintro (_ | ⟨y, hy, h2⟩)
        · exact .inr ⟨x, List.mem_cons_self, by omega, h.2⟩
        · exact .inr ⟨y, List.mem_cons_of_mem _ hy, h2⟩
      · intro _
        exact .inl (by omega)
    · rw [if_neg h, fold_above hf r m hm]
      simp only [Bool.and_eq_true, decide_eq_true_eq, not_and] at h
      constructor
      · rintro (h2 | ⟨y, hy, h2⟩)
        · exact .inl h2
        · exact .inr ⟨y, List.mem_cons_of_mem _ hy, h2⟩
      · rintro (h2 | ⟨y, hy, h2, h3⟩)
        · exact .inl h2
        · rcases List.mem_cons.1 hy with e | e
          · subst e
            by_cases h4 : m < g y
            · exact absurd h3 (h h4)
            · exact .inl (by omega)
          · exact .inr ⟨y, e, h2, h3⟩
section
variable {l : List Evt}
theorem wr_iff {id : Int} {x : Evt} : wrB id x = true ↔ IsW x ∧ x.f3 = id := by
  unfold wrB IsW
  simp only [Bool.and_eq_true, beq_iff_eq, bne_iff_ne, ne_eq]
  constructor
  · rintro ⟨⟨a, b⟩, c⟩
    exact ⟨⟨a, by rw [b]; exact c⟩, b⟩
  · rintro ⟨⟨a, b⟩, c⟩
    exact ⟨⟨a, c⟩, by rw [← c]; exact b⟩
theorem find_some (H : Prp l) (hpb : properB l = true) {id : Int} {y : Wr} (h : findW (heN l l.length).ws id = some y) : ∃ n w, ∃ hw : w < l.length, HW l l.length (heN l l.length) n y w hw ∧ l[w].f3 = id := by
  unfold findW at h
  have h1 := List.find?_some h
  obtain ⟨n, hn, e⟩ := List.getElem_of_mem (List.mem_of_find?_eq_some h)
  obtain ⟨w, hw, h2⟩ := hear_ws H hpb l.length (Nat.le_refl _) n y (by rw [List.getElem?_eq_getElem hn, e])
  refine ⟨n, w, hw, h2, ?_⟩
  rw [← h2.id]
  simpa using h1
theorem find_none (H : Prp l) (hpb : properB l = true) {id : Int} (h : findW (heN l l.length).ws id = none) : ∀ w (hw : w < l.length), IsW l[w] → l[w].f3 ≠ id := fun w hw iw e => by
  obtain ⟨n, y, _, hy, hpl, _⟩ := (hear_inv H hpb l.length (Nat.le_refl _)).h1 w hw hw iw
  obtain ⟨w', hw', h2⟩ := hear_ws H hpb l.length (Nat.le_refl _) n y hy
  obtain rfl : w = w' := by
    have := h2.pl
    omega
  unfold findW at h
  have := List.find?_eq_none.1 h y (List.mem_of_getElem? hy)
  rw [h2.id, e] at this
  simp at this
/-- an answer to a write stands behind it, alone -/
theorem ans_one (H : Prp l) (hpb : properB l = true) {w k : Nat} (hw : w < l.length) (hk : k < l.length) (iw : IsW l[w]) (h : okA l[w] l[k] = true) : ansI l l[w] w = (k : Int) ∧ w < k := by
  obtain ⟨a1, a2, a3⟩ := okA_iff.1 h
  obtain ⟨p, hp, hpk, hr, hc, ht, _⟩ := H.req k hk a1
  obtain rfl := H.uniq hp hw hr (by rw [iw.1]; decide) (hc.trans a2) (ht.trans a3)
  refine ⟨ansI_at hpk hk h fun t htl _ htk => ?_, hpk⟩
  rw [← Bool.not_eq_true, okA_iff]
  rintro ⟨b1, b2, b3⟩
  exact once hpb htl hk htk b1 a1 (b2.trans a2.symm) (b3.trans a3.symm)
theorem forged_iff (H : Prp l) (hpb : properB l = true) {i : Nat} (v : Ver) : forgedB (heN l l.length).ws v i = true ↔ ForgP l i v := by
  unfold forgedB ForgP
  by_cases h0 : v.f1 = 0
  · rw [if_pos h0]
    exact ⟨fun h => (by cases h), fun h => absurd h0 h.1⟩
  · rw [if_neg h0]
    cases hf : findW (heN l l.length).ws v.f1 with
    | none => exact ⟨fun _ => ⟨h0, fun w hw _ hb _ => absurd (wr_iff.1 hb).2 (find_none H hpb hf w hw (wr_iff.1 hb).1)⟩, fun _ => rfl⟩
    | some y =>
      obtain ⟨n, w, hw, h, hid⟩ := find_some H hpb hf
      have huniq : ∀ u (hu : u < l.length), wrB v.f1 l[u] = true → u = w := fun u hu hb => by
        obtain ⟨iu, e⟩ := wr_iff.1 hb
        exact H.inj hu hw iu h.iw (e.trans hid.symm)
      show (if (i : Int) ≤ y.place then true else _) = true ↔ _
      rw [h.pl]
      by_cases hle : (i : Int) ≤ (w : Int)
      · rw [if_pos hle]
        exact ⟨fun _ => ⟨h0, fun u hu hui hb _ => by have := huniq u hu hb; omega⟩, fun _ => rfl⟩
      · rw [if_neg hle, h.pr, h.ks, norm_keys]
        have hany : (l[w].f4.any fun p => eqP ⟨v.f0, v.f2⟩ p) = l[w].f4.any (prB v) := by
          congr 1
          funext p
          show (eqS v.f0 p.f0 && eqS v.f2 p.f1) = (eqS p.f0 v.f0 && eqS p.f1 v.f2)
          rw [eqS_comm v.f0, eqS_comm v.f2]
        rw [hany]
        constructor
        · intro hb
          refine ⟨h0, fun u hu _ hb2 _ => ?_⟩
          obtain rfl := huniq u hu hb2
          rintro ⟨g1, g2⟩
          rw [g1, g2] at hb
          cases hb
        · rintro ⟨_, hb⟩
          have := hb w hw (by omega) (wr_iff.2 ⟨h.iw, hid⟩) fun t ht htw => by
            rw [← Bool.not_eq_true]
            intro g
            have := huniq t ht g
            omega
          cases c1 : l[w].f4.any (prB v) with
          | false => rfl
          | true =>
            cases c2 : eqL (keysN l[w].f4 l[w].f4.length) v.f3 with
            | false => rfl
            | true => exact absurd ⟨c1, c2⟩ this
theorem aborted_iff (H : Prp l) (hpb : properB l = true) (v : Ver) : abortedB (heN l l.length).ws v = true ↔ AbP l v.f1 := by
  unfold abortedB AbP
  by_cases h0 : v.f1 = 0
  · rw [if_pos h0]
    refine ⟨fun h => (by cases h), fun ⟨w, hw, h, _⟩ => ?_⟩
    obtain ⟨iw, e⟩ := wr_iff.1 h
    exact absurd (e.trans h0) iw.2
  · rw [if_neg h0]
    cases hf : findW (heN l l.length).ws v.f1 with
    | none => exact ⟨fun h => (by cases h), fun ⟨w, hw, h, _⟩ => absurd (wr_iff.1 h).2 (find_none H hpb hf w hw (wr_iff.1 h).1)⟩
    | some y =>
      obtain ⟨n, w, hw, h, hid⟩ := find_some H hpb hf
      have huniq : ∀ u (hu : u < l.length), wrB v.f1 l[u] = true → u = w := fun u hu hb => by
        obtain ⟨iu, e⟩ := wr_iff.1 hb
        exact H.inj hu hw iu h.iw (e.trans hid.symm)
      show (y.res == 3) = true ↔ _
      rw [beq_iff_eq]
      constructor
      · intro h3
        rcases h.an with ⟨a, _, _⟩ | ⟨k, hk, _, hok, hres, _⟩
        · omega
        · refine ⟨w, hw, wr_iff.2 ⟨h.iw, hid⟩, fun t ht htw => ?_, k, hk, (ans_one H hpb hw hk h.iw hok).1, by rw [← hres]; exact h3⟩
          rw [← Bool.not_eq_true]
          intro g
          have := huniq t ht g
          omega
      · rintro ⟨u, hu, hb, _, k, hk, ha, h3⟩
        obtain rfl := huniq u hu hb
        rcases ansI_spec l l[u] u with ⟨e, _⟩ | ⟨k', hk', _, e, hok, _⟩
        · omega
        · obtain rfl : k = k' := by omega
          rcases h.an with ⟨_, _, c⟩ | ⟨k2, hk2, _, hok2, hres, _⟩
          · rw [c k hk hk] at hok
            cases hok
          · have := (ans_one H hpb hw hk2 h.iw hok2).1
            obtain rfl : k = k2 := by omega
            rw [hres]
            exact h3
theorem tornC_iff (H : Prp l) (hpb : properB l = true) {i : Nat} (key : ByteArray) (id : Int) (u : Ver) (hu : id < u.f1) : tornC (heN l l.length).ws key i u = true ↔ TornP l i key id u := by
  unfold tornC TornP
  cases hf : findW (heN l l.length).ws u.f1 with
  | none => exact ⟨fun h => (by cases h), fun ⟨w, hw, _, h, _⟩ => absurd (wr_iff.1 h).2 (find_none H hpb hf w hw (wr_iff.1 h).1)⟩
  | some y =>
    obtain ⟨n, w, hw, h, hid⟩ := find_some H hpb hf
    have huniq : ∀ x (hx : x < l.length), wrB u.f1 l[x] = true → x = w := fun x hx hb => by
      obtain ⟨ix, e⟩ := wr_iff.1 hb
      exact H.inj hx hw ix h.iw (e.trans hid.symm)
    show (decide (y.place < (i : Int)) && (y.keys.any fun z => eqS key z)) = true ↔ _
    rw [h.pl, h.ks, norm_any, Bool.and_eq_true, decide_eq_true_eq]
    constructor
    · rintro ⟨h1, h2⟩
      refine ⟨w, hw, by omega, wr_iff.2 ⟨h.iw, hid⟩, fun t ht htw => ?_, hu, h2⟩
      rw [← Bool.not_eq_true]
      intro g
      have := huniq t ht g
      omega
    · rintro ⟨x, hx, h1, h2, _, _, h3⟩
      obtain rfl := huniq x hx h2
      exact ⟨by omega, h3⟩
theorem torn_iff (H : Prp l) (hpb : properB l = true) {i : Nat} (v : Ver) (all : List Ver) : v.f1 < tornO (heN l l.length).ws v all i ↔ ∃ u ∈ all, TornP l i v.f0 v.f1 u := by
  unfold tornO
  rw [fold_above (g := fun u : Ver => u.f1) (c := fun u => tornC (heN l l.length).ws v.f0 i u) (fun o u => tornS_eq _ _ _ o u) all v.f1 (Int.le_refl _)]
  constructor
  · rintro (h | ⟨u, hu, h1, h2⟩)
    · omega
    · exact ⟨u, hu, (tornC_iff H hpb v.f0 v.f1 u h1).1 h2⟩
  · rintro ⟨u, hu, h⟩
    have h1 : v.f1 < u.f1 := by
      obtain ⟨_, _, _, _, _, h1, _⟩ := h
      exact h1
    exact .inr ⟨u, hu, h1, (tornC_iff H hpb v.f0 v.f1 u h1).2 h⟩
theorem lost_iff (H : Prp l) (hpb : properB l = true) {j : Nat} (v : Ver) (hv0 : 0 ≤ v.f1) : v.f1 < lostO (heN l l.length).ws v j ↔ ∃ t, t < j ∧ LostP l j v.f0 v.f1 t := by
  unfold lostO
  rw [fold_above (g := fun x : Wr => x.id) (c := fun x => x.res == 1 && (decide (x.done < (j : Int)) && (x.keys.any fun y => eqS v.f0 y))) (fun o x => by
    unfold lostS
    simp only [Bool.and_assoc]) _ v.f1 (Int.le_refl _)]
  constructor
  · rintro (h | ⟨y, hy, h1, h2⟩)
    · omega
    · obtain ⟨n, hn, e⟩ := List.getElem_of_mem hy
      obtain ⟨w, hw, h⟩ := hear_ws H hpb l.length (Nat.le_refl _) n y (by rw [List.getElem?_eq_getElem hn, e])
      rw [h.ks, norm_any] at h2
      simp only [Bool.and_eq_true, beq_iff_eq, decide_eq_true_eq] at h2
      obtain ⟨hr1, hd, hwr⟩ := h2
      rw [h.id] at h1
      rcases h.an with ⟨a, _, _⟩ | ⟨k, hk, _, hok, hres, hdone⟩
      · omega
      · obtain ⟨e1, e2⟩ := ans_one H hpb hw hk h.iw hok
        exact ⟨w, by omega, hw, h.iw.1, h1, hwr, k, hk, e1, by omega, by rw [← hres]; exact hr1⟩
  · rintro ⟨t, htj, ht, f0, hlt, hwr, k, hk, ha, hkj, h1⟩
    rcases ansI_spec l l[t] t with ⟨e, _⟩ | ⟨k', hk', _, e, hok, _⟩
    · omega
    · obtain rfl : k = k' := by omega
      by_cases h0 : l[t].f3 = 0
      · exact absurd hlt (by omega)
      · have iw : IsW l[t] := ⟨f0, h0⟩
        obtain ⟨n, y, _, hy, hpl, hdd⟩ := (hear_inv H hpb l.length (Nat.le_refl _)).h1 t ht ht iw
        obtain ⟨w, hw, h⟩ := hear_ws H hpb l.length (Nat.le_refl _) n y hy
        obtain rfl : t = w := by
          have := h.pl
          omega
        refine .inr ⟨y, List.mem_of_getElem? hy, by rw [h.id]; exact hlt, ?_⟩
        obtain ⟨r1, r2⟩ := hdd k hk hk ⟨(okA_iff.1 hok).1, (okA_iff.1 hok).2.1, (okA_iff.1 hok).2.2, h1⟩
        rw [h.ks, norm_any, r1, r2, hwr, decide_eq_true (by omega)]
        rfl
end
end Go.Proofs.YtiibjgnmdieicaaGreat.Hist
/- the rules that the judge finds broken, in the document's words; the least of them. -/
namespace Go.Proofs.YtiibjgnmdieicaaGreat.Hist
open Go.RowKit Go.Proofs.YtiibjgnmdieicaaGreatW.PrintWords Go.Sort
/-- a rule is broken by a told version: v, told at i, asked at p -/
def BrkP (l : List Evt) (i p : Nat) (all : List Ver) (v : Ver) (r : Int) : Prop := (r = 1 ∧ ForgP l i v) ∨ (r = 2 ∧ AbP l v.f1) ∨ (r = 3 ∧ ∃ u ∈ all, TornP l i v.f0 v.f1 u) ∨ (r = 4 ∧ ∃ t, t < p ∧ LostP l p v.f0 v.f1 t)
def RuleP (l : List Evt) (r : Int) : Prop := ∃ i, ∃ hi : i < l.length, ∃ p : Nat, l[i].f0 = 3 ∧ fidx (reqB l[i]) (l.take i) = (p : Int) ∧ ∃ v ∈ l[i].f6.f3, BrkP l i p l[i].f6.f3 v r
theorem judge_rules {l : List Evt} (hpb : properB l = true) (hv0 : ∀ i (hi : i < l.length), ∀ v ∈ l[i].f6.f3, 0 ≤ v.f1) (r : Int) : (∃ f ∈ judgeL l, f.rule = r) ↔ RuleP l r := by
  have H := prp hpb
  have hc := hear_inv H hpb l.length (Nat.le_refl _)
  unfold judgeL fnds RuleP
  rw [heN_all]
  have hone : ∀ i (hi : i < l.length) (p : Nat), l[i].f0 = 3 → fidx (reqB l[i]) (l.take i) = (p : Int) → askedOf (heN l l.length) l[i] = (p : Int) := fun i hi p k3 hp => by
    obtain ⟨p', hp', hpi, hr, hcc, ht, _⟩ := H.req i hi k3
    have e : fidx (reqB l[i]) (l.take i) = (p' : Int) := fidx_take hpi hp' (reqB_iff.2 ⟨hr, hcc, ht⟩) fun t htl htp => by
      rw [← Bool.not_eq_true, reqB_iff]
      rintro ⟨a1, a2, a3⟩
      have := H.uniq htl hp' a1 hr (a2.trans hcc.symm) (a3.trans ht.symm)
      omega
    have := hc.h3 p' hp' hp' hr
    rw [q_mk hcc ht] at this
    unfold askedOf
    rw [this]
    show (p' : Int) = _
    omega
  have hfn : ∀ i (hi : i < l.length) (p : Nat) (v : Ver), v ∈ l[i].f6.f3 → ((∃ f ∈ fndV (heN l l.length).ws l[i].f6.f3 i (p : Int) v, f.rule = r) ↔ BrkP l i p l[i].f6.f3 v r) := fun i hi p v hv => by
    unfold fndV BrkP
    have e1 := forged_iff H hpb (i := i) v
    have e2 := aborted_iff H hpb v
    have e3 := torn_iff H hpb (i := i) v l[i].f6.f3
    have e4 := lost_iff H hpb (j := p) v (hv0 i hi v hv)
    rw [← e1, ← e2, ← e3, ← e4]
    constructor
    · rintro ⟨f, hf, rfl⟩
      obtain ⟨n, hn, hf⟩ := List.mem_flatMap.1 hf
      have hn := List.mem_range.1 hn
      unfold fndR at hf
      split at hf
      · rename_i hb
        simp only [List.mem_singleton] at hf
        subst hf
        obtain rfl | rfl | rfl | rfl : n = 0 ∨ n = 1 ∨ n = 2 ∨ n = 3 := by omega
        · exact .inl ⟨rfl, hb⟩
        · exact .inr (.inl ⟨rfl, hb⟩)
        · exact .inr (.inr (.inl ⟨rfl, of_decide_eq_true hb⟩))
        · exact .inr (.inr (.inr ⟨rfl, of_decide_eq_true hb⟩))
      · cases hf
    · have put : ∀ n, n < 4 → (ruleR (heN l l.length).ws v l[i].f6.f3 i (p : Int) n).2 = true → ∃ f ∈ (List.range 4).flatMap (fndR (heN l l.length).ws v l[i].f6.f3 i (p : Int)), f.rule = 1 + n := fun n hn hb => by
        refine ⟨⟨(i : Int), 1 + n, v.f0, v.f1, (ruleR (heN l l.length).ws v l[i].f6.f3 i (p : Int) n).1⟩, List.mem_flatMap.2 ⟨n, List.mem_range.2 hn, ?_⟩, rfl⟩
        unfold fndR
        rw [if_pos hb]
        exact List.mem_singleton.2 rfl
      rintro (⟨rfl, h⟩ | ⟨rfl, h⟩ | ⟨rfl, h⟩ | ⟨rfl, h⟩)
      · exact put 0 (by decide) h
      · exact put 1 (by decide) h
      · exact put 2 (by decide) (decide_eq_true h)
      · exact put 3 (by decide) (decide_eq_true h)
  constructor
  · rintro ⟨f, hf, hr⟩
    obtain ⟨i, hi, hf⟩ := List.mem_flatMap.1 hf
    have hi := List.mem_range.1 hi
    rw [List.getElem?_eq_getElem hi] at hf
    obtain ⟨v, hv, hf⟩ := List.mem_flatMap.1 (show f ∈ fndE (heN l l.length) l[i] i from hf)
    have k3 := (H.vers hi fun e => by rw [e] at hv; cases hv).1
    obtain ⟨p, hp, hpi, hrq, hcc, ht, _⟩ := H.req i hi k3
    have e : fidx (reqB l[i]) (l.take i) = (p : Int) := fidx_take hpi hp (reqB_iff.2 ⟨hrq, hcc, ht⟩) fun t htl htp => by
      rw [← Bool.not_eq_true, reqB_iff]
      rintro ⟨a1, a2, a3⟩
      have := H.uniq htl hp a1 hrq (a2.trans hcc.symm) (a3.trans ht.symm)
      omega
    rw [hone i hi p k3 e] at hf
    exact ⟨i, hi, p, k3, e, v, hv, (hfn i hi p v hv).1 ⟨f, hf, hr⟩⟩
  · rintro ⟨i, hi, p, k3, e, v, hv, hb⟩
    obtain ⟨f, hf, hr⟩ := (hfn i hi p v hv).2 hb
    refine ⟨f, List.mem_flatMap.2 ⟨i, List.mem_range.2 hi, ?_⟩, hr⟩
    rw [List.getElem?_eq_getElem hi]
    show f ∈ fndE (heN l l.length) l[i] i
    refine List.mem_flatMap.2 ⟨v, hv, ?_⟩
    rw [hone i hi p k3 e]
    exact hf
/-- the least rule so far -/
def leastZ (m r : Int) : Int := if m == 0 || decide (r < m) then r else m
theorem leastZ_spec : ∀ (L : List Int) (m : Int), (∀ r ∈ L, 1 ≤ r) → 0 ≤ m → (L.foldl leastZ m = m ∨ L.foldl leastZ m ∈ L) ∧ (∀ r ∈ L, L.foldl leastZ m ≤ r) ∧ (m ≠ 0 → L.foldl leastZ m ≤ m) ∧ ((m ≠ 0 ∨ L ≠ []) → L.foldl leastZ m ≠ 0)
  | [], m, _, _ => ⟨.inl rfl, by simp, fun _ => Int.le_refl _, fun h => h.elim id fun h => absurd rfl h⟩
  | x :: r, m, hp, hm => by
    have hx := hp x List.mem_cons_self
    have hr : ∀ y ∈ r, 1 ≤ y := fun y hy => hp y (List.mem_cons_of_mem _ hy)
    rw [List.foldl_cons]
    by_cases h : (m == 0 || decide (x < m)) = true
    · have e : leastZ m x = x := by unfold leastZ; rw [if_pos h]
      rw [e]
      obtain ⟨a, b, c, d⟩ := leastZ_spec r x hr (by omega)
      simp only [Bool.or_eq_true, beq_iff_eq, decide_eq_true_eq] at h
      have hc := c (by omega)
      refine ⟨.inr (a.elim (fun e => by rw [e]; exact List.mem_cons_self) (List.mem_cons_of_mem _)), fun y hy => ?_, fun _ => by omega, fun _ => d (.inl (by omega))⟩
      rcases List.mem_cons.1 hy with e | e
      · omega
      · exact b y e
    · have e : leastZ m x = m := by unfold leastZ; rw [if_neg h]
      rw [e]
      obtain ⟨a, b, c, d⟩ := leastZ_spec r m hr hm
      simp only [Bool.or_eq_true, beq_iff_eq, decide_eq_true_eq, not_or] at h
      have hc := c h.1
      refine ⟨a.elim .inl fun g => .inr (List.mem_cons_of_mem _ g), fun y hy => ?_, c, fun _ => d (.inl h.1)⟩
      rcases List.mem_cons.1 hy with e | e
      · omega
      · exact b y e
theorem leastR_map (L : List Fnd) : leastR L = (L.map Fnd.rule).foldl leastZ 0 := by
  unfold leastR
  rw [List.foldl_map]
  rfl
/-- two lists of the same rules have one least -/
theorem least_same {L M : List Int} (hL : ∀ r ∈ L, 1 ≤ r) (h : ∀ r, r ∈ L ↔ r ∈ M) : L.foldl leastZ 0 = M.foldl leastZ 0 := by
  have hM : ∀ r ∈ M, 1 ≤ r := fun r hr => hL r ((h r).2 hr)
  obtain ⟨a, b, _, d⟩ := leastZ_spec L 0 hL (Int.le_refl _)
  obtain ⟨a', b', _, d'⟩ := leastZ_spec M 0 hM (Int.le_refl _)
  by_cases e : L = []
  · have e2 : M = [] := by
      cases M with
      | nil => rfl
      | cons x r => rw [e] at h; exact absurd ((h x).2 List.mem_cons_self) (by simp)
    rw [e, e2]
  · have e2 : M ≠ [] := fun e2 => by
      cases L with
      | nil => exact e rfl
      | cons x r => rw [e2] at h; exact absurd ((h x).1 List.mem_cons_self) (by simp)
    have h1 := a.resolve_left (d (.inr e))
    have h2 := a'.resolve_left (d' (.inr e2))
    have h3 := b' _ ((h _).1 h1)
    have h4 := b _ ((h _).2 h2)
    omega
end Go.Proofs.YtiibjgnmdieicaaGreat.Hist
/- why a list may not be, as the document has it. -/
namespace Go.Proofs.YtiibjgnmdieicaaGreat.Hist
open Go.RowKit Go.Proofs.YtiibjgnmdieicaaGreatW.PrintWords Go.Sort
theorem rule_pos {l : List Evt} {r : Int} (h : RuleP l r) : 1 ≤ r ∧ r ≤ 4 := by
  obtain ⟨i, hi, p, _, _, v, _, hb⟩ := h
  rcases hb with ⟨e, _⟩ | ⟨e, _⟩ | ⟨e, _⟩ | ⟨e, _⟩ <;> omega
/-- the judge's reason out of any list of the rules that are broken -/
theorem judged_least {l : List Evt} (hpb : properB l = true) (hv0 : ∀ i (hi : i < l.length), ∀ v ∈ l[i].f6.f3, 0 ≤ v.f1) {M : List Int} (hM : ∀ r, r ∈ M ↔ RuleP l r) :
    judgedB l = if 0 < M.foldl leastZ 0 then M.foldl leastZ 0 + 1 else 0 := by
  have hL : ∀ r, r ∈ (judgeL l).map Fnd.rule ↔ r ∈ M := fun r => by
    rw [hM, ← judge_rules hpb hv0, List.mem_map]
  have hMp : ∀ r ∈ M, 1 ≤ r := fun r hr => (rule_pos ((hM r).1 hr)).1
  have hLp : ∀ r ∈ (judgeL l).map Fnd.rule, 1 ≤ r := fun r hr => hMp r ((hL r).1 hr)
  have he := least_same hLp hL
  rw [← leastR_map] at he
  unfold judgedB
  rw [if_pos hpb, he]
  obtain ⟨a, _, _, d⟩ := leastZ_spec M 0 hMp (Int.le_refl _)
  generalize M.foldl leastZ 0 = m at *
  rcases a with e | e
  · rw [if_pos e, if_neg (by omega)]
  · have h1 := rule_pos ((hM m).1 e)
    rw [if_neg (by omega), if_pos (by omega)]
    unfold reasonB
    obtain rfl | rfl | rfl | rfl : m = 1 ∨ m = 2 ∨ m = 3 ∨ m = 4 := by omega
    all_goals rfl
end Go.Proofs.YtiibjgnmdieicaaGreat.Hist
/- the document's judge: Judge: words of its walk (the walk itself is to be written). -/
namespace Go.Proofs.YtiibjgnmdieicaaGreat.Hist
open Go.RowKit Go.Proofs.YtiibjgnmdieicaaGreatW.PrintWords Go.Sort
abbrev tFd : TypeId := 62
theorem infoFd : (Tryz.prog.info? tFd).map (fun i => (i.zero, i.size, i.bytes)) = some (some (.agg #[.int .i64 0, .int .i64 0, .string ByteArray.empty, .int .u64 0, .int .u64 0]), 5, 48) := by kernel_rfl
/-- the rules broken by the versions of the answers ahead of n, and by the first k of the answer at n -/
def RuleN (l : List Evt) (n : Nat) (r : Int) : Prop := ∃ i, ∃ hi : i < l.length, i < n ∧ ∃ p : Nat, l[i].f0 = 3 ∧ fidx (reqB l[i]) (l.take i) = (p : Int) ∧ ∃ v ∈ l[i].f6.f3, BrkP l i p l[i].f6.f3 v r
def RuleK (l : List Evt) (i p : Nat) (vs : List Ver) (k : Nat) (r : Int) : Prop := ∃ t, ∃ ht : t < vs.length, t < k ∧ BrkP l i p vs vs[t] r
theorem ruleN_zero (l : List Evt) (r : Int) : ¬ RuleN l 0 r := fun ⟨i, _, h, _⟩ => Nat.not_lt_zero i h
theorem ruleN_all (l : List Evt) (r : Int) : RuleN l l.length r ↔ RuleP l r := ⟨fun ⟨i, hi, _, h⟩ => ⟨i, hi, h⟩, fun ⟨i, hi, h⟩ => ⟨i, hi, hi, h⟩⟩
/-- an answer that tells nothing -/
theorem ruleN_skip {l : List Evt} {n : Nat} (hn : n < l.length) (h : l[n].f6.f3 = []) (r : Int) : RuleN l (n + 1) r ↔ RuleN l n r := by
  constructor
  · rintro ⟨i, hi, h1, p, k3, hp, v, hv, hb⟩
    by_cases e : i = n
    · subst e
      rw [h] at hv
      cases hv
    · exact ⟨i, hi, by omega, p, k3, hp, v, hv, hb⟩
  · rintro ⟨i, hi, h1, h2⟩
    exact ⟨i, hi, by omega, h2⟩
/-- an answer that tells -/
theorem ruleN_next {l : List Evt} {n p : Nat} (hn : n < l.length) (k3 : l[n].f0 = 3) (hp : fidx (reqB l[n]) (l.take n) = (p : Int)) (r : Int) : RuleN l (n + 1) r ↔ RuleN l n r ∨ RuleK l n p l[n].f6.f3 l[n].f6.f3.length r := by
  constructor
  · rintro ⟨i, hi, h1, q, a, b, v, hv, hb⟩
    by_cases e : i = n
    · subst e
      obtain rfl : p = q := by omega
      obtain ⟨t, ht, rfl⟩ := List.getElem_of_mem hv
      exact .inr ⟨t, ht, ht, hb⟩
    · exact .inl ⟨i, hi, by omega, q, a, b, v, hv, hb⟩
  · rintro (⟨i, hi, h1, h2⟩ | ⟨t, ht, _, hb⟩)
    · exact ⟨i, hi, by omega, h2⟩
    · exact ⟨n, hn, Nat.lt_succ_self n, p, k3, hp, _, List.getElem_mem ht, hb⟩
theorem ruleK_next {l : List Evt} {i p k : Nat} {vs : List Ver} (hk : k < vs.length) (r : Int) : RuleK l i p vs (k + 1) r ↔ RuleK l i p vs k r ∨ BrkP l i p vs vs[k] r := by
  constructor
  · rintro ⟨t, ht, h1, h2⟩
    by_cases e : t = k
    · subst e
      exact .inr h2
    · exact .inl ⟨t, ht, by omega, h2⟩
  · rintro (⟨t, ht, h1, h2⟩ | h2)
    · exact ⟨t, ht, by omega, h2⟩
    · exact ⟨k, hk, Nat.lt_succ_self k, h2⟩
/-- one rule more in a row of findings -/
theorem rule_put {L : List Fnd} {P : Int → Prop} (h : ∀ r, (∃ f ∈ L, f.rule = r) ↔ P r) (f : Fnd) : ∀ r, (∃ g ∈ L ++ [f], g.rule = r) ↔ P r ∨ r = f.rule := fun r => by
  rw [← h]
  constructor
  · rintro ⟨g, hg, e⟩
    rcases List.mem_append.1 hg with hg | hg
    · exact .inl ⟨g, hg, e⟩
    · rw [List.mem_singleton] at hg
      subst hg
      exact .inr e.symm
  · rintro (⟨g, hg, e⟩ | e)
    · exact ⟨g, List.mem_append_left _ hg, e⟩
    · exact ⟨f, List.mem_append_right _ (List.mem_singleton.2 rfl), e.symm⟩
end Go.Proofs.YtiibjgnmdieicaaGreat.Hist
