/- slices.Clone, slices.ContainsFunc and slices.SortFunc at pairs of texts (structs of two cells), in the words of the kinds. -/
import Derived.Test.YtjahalkgjnnapaaHandKeys
import Derived.Shelf.SlSortCmp.WholeK
import Derived.Shelf.SlicesQ.IndexFunc
import Derived.Sort.OwnSorted
namespace Go.Proofs.Ytjahalkgjnnapaa.Hand
open Go.RowKit Go.Shelf Go.Sort Go.Lib Go.Proofs.YtjahalkgjnnapaaW.PrintWords

abbrev Pr := ByteArray × ByteArray
def enc2 (p : Pr) : List Value := [.string p.1, .string p.2]
def kp : Kd Pr := Kd.pair Kd.string Kd.string
def flat (l : List Pr) : List Value := l.flatMap enc2
theorem kp_K {w : World} {p : Pr} {cs : List Value} (h : kp.K w p cs) : cs = enc2 p := by
  obtain ⟨c0, c1, rfl, h0, h1⟩ := h
  rw [show c0 = [.string p.1] from h0, show c1 = [.string p.2] from h1]
  rfl
theorem kp_M (w : World) (base : Nat) (ok : Nat → Prop) (p : Pr) : kp.M w base ok p (enc2 p) := ⟨[.string p.1], [.string p.2], rfl, rfl, rfl⟩
theorem flat_length (l : List Pr) : (flat l).length = l.length * 2 := by
  induction l with
  | nil => rfl
  | cons p r ih => simp [flat, enc2] at ih ⊢; omega
theorem flat_drop (l : List Pr) (j : Nat) (p : Pr) (h : l[j]? = some p) : ((flat l).drop (j * 2)).take 2 = enc2 p := by
  induction l generalizing j with
  | nil => simp at h
  | cons q r ih =>
    cases j with
    | zero =>
      simp at h
      subst h
      simp [flat, enc2]
    | succ j =>
      simp at h
      have := ih j h
      rw [show (j + 1) * 2 = j * 2 + 2 from by omega]
      simpa [flat, enc2] using this
theorem reps_flat (w : World) (base : Nat) (ok : Nat → Prop) (l : List Pr) : Reps (kp.M w base ok) 2 l (flat l) :=
  ⟨flat_length l, fun j p h => by rw [flat_drop l j p h]; exact kp_M w base ok p⟩
theorem flat_get (l : List Pr) (t : Nat) (u : Value) (h : (flat l)[t]? = some u) : ∃ p, l[t / 2]? = some p ∧ (enc2 p)[t % 2]? = some u := by
  have ht : t < l.length * 2 := by rw [← flat_length]; exact (List.getElem?_eq_some_iff.1 h).1
  have hj : t / 2 < l.length := by omega
  refine ⟨l[t / 2], List.getElem?_eq_getElem hj, ?_⟩
  rw [← flat_drop l (t / 2) l[t / 2] (List.getElem?_eq_getElem hj), List.getElem?_take_of_lt (by omega), List.getElem?_drop, ← h]
  congr 1
  omega
theorem flat_at (l : List Pr) (j i : Nat) (hj : j < l.length) (hi : i < 2) : (flat l)[j * 2 + i]? = (enc2 l[j])[i]? := by
  rw [← flat_drop l j l[j] (List.getElem?_eq_getElem hj), List.getElem?_take_of_lt hi, List.getElem?_drop]
/-- Cells that tell a row of pairs are that row's. -/
theorem reps_eq {R : Pr → List Value → Prop} (hR : ∀ p c, R p c → c = enc2 p) {l : List Pr} {cs : List Value} (h : Reps R 2 l cs) : cs = flat l := by
  apply List.ext_getElem?
  intro t
  rcases Nat.lt_or_ge t (l.length * 2) with ht | ht
  · have hj : t / 2 < l.length := by omega
    have h1 := hR _ _ (h.2 (t / 2) l[t / 2] (List.getElem?_eq_getElem hj))
    have h2 := flat_drop l (t / 2) l[t / 2] (List.getElem?_eq_getElem hj)
    have e : ∀ cs' : List Value, ((cs'.drop (t / 2 * 2)).take 2)[t % 2]? = cs'[t]? := fun cs' => by
      rw [List.getElem?_take_of_lt (by omega), List.getElem?_drop]
      congr 1
      omega
    rw [← e cs, ← e (flat l), h1, h2]
  · rw [List.getElem?_eq_none (by rw [h.1]; exact ht), List.getElem?_eq_none (by rw [flat_length]; exact ht)]

theorem own_of_R2 {w : World} {e base : Nat} {ok : Nat → Prop} {v : Value} {l : List Pr} (h : kp.R e w base ok v l) : w.ownsRow base e 2 v l.length (flat l) := by
  obtain ⟨_, inner, ho, hr⟩ := h
  have : inner = flat l := reps_eq (R := kp.M w base _) (fun p c hc => kp_K (kp.K_of_M hc)) hr
  subst this
  exact ho
theorem R2_of_own {w : World} {e base : Nat} {v : Value} {l : List Pr} (h : w.ownsRow base e 2 v l.length (flat l)) : kp.R e w base (fun _ => True) v l := ⟨fun _ _ => trivial, flat l, h, reps_flat _ _ _ _⟩

/-- where a slice of pairs that is not empty lies -/
theorem pairs_of_C {w : World} {A : Option Addr} {l : List Pr} (h : Kd.C kp w A l.length l) (h0 : 0 < l.length) :
    ∃ b o, A = some ⟨b, o, none⟩ ∧ b < w.heap.size ∧ ∀ t u, (flat l)[t]? = some u → w.cell? ⟨b, o + t, none⟩ = some u := by
  obtain ⟨_, _, hc⟩ := h
  obtain ⟨ad, rfl, hj⟩ := hc h0
  have key : ∀ t u, (flat l)[t]? = some u → w.cell? (ad.add t) = some u := fun t u hu => by
    obtain ⟨p, hp, hpu⟩ := flat_get l t u hu
    obtain ⟨c, hcl, hK, hcell⟩ := hj _ _ hp
    rw [kp_K hK] at hcell
    have := hcell _ _ hpu
    rw [show t / 2 * kp.sz + t % 2 = t from by rw [show kp.sz = 2 from rfl]; omega] at this
    exact this
  have h1 := key 0 (.string l[0].1) (by
    have := flat_at l 0 0 h0 (by omega)
    rw [show 0 * 2 + 0 = 0 from rfl] at this
    rw [this]; rfl)
  have hs := spot_none (by simpa [Addr.add] using h1 : w.cell? ad = some _)
  obtain ⟨b, o, s⟩ := ad
  obtain rfl : s = none := by injection hs
  have hb := World.block_lt_of_cell? w _ h1
  rw [add_none] at hb
  exact ⟨b, o, rfl, hb, fun t u hu => by have := key t u hu; rwa [add_none] at this⟩

theorem info41 : (Try.prog.info? 41).map (fun i => (i.zero, i.size, i.bytes)) = some (some (.agg #[.string ByteArray.empty, .string ByteArray.empty]), 2, 32) := by kernel_rfl

/-- slices.Clone of pairs, not empty -/
theorem clonePairs_any (A : Option Addr) (c : Nat) (l : List Pr) (w : World) (h0 : 0 < l.length) (hlen : l.length ≤ 1099511627776) (hC : Kd.C kp w A l.length l) :
    Calls Try.prog 44 #[.slice A l.length c] w fun e w' => ∃ v, e = .returned v ∧ w'.ownsRow w.heap.size 41 2 v l.length (flat l) ∧ v ≠ .slice none 0 0 ∧ Below w.heap.size w w' := by
  obtain ⟨b, o, rfl, hb, hj⟩ := pairs_of_C hC h0
  obtain ⟨i0, hi, hz0, hz1, hz2⟩ := info_parts info41
  exact AnyE.slices_Clone Try.laysClonePairs i0 _ 2 32 hi hz0 hz1 hz2 rfl (by decide) Try.sizeOf41 b o l.length c (flat l) w (flat_length l) (by unfold maxLen; omega) (by omega) hj (fun u hu => by
    obtain ⟨p, _, hp⟩ := List.mem_flatMap.1 hu
    simp [enc2] at hp
    rcases hp with rfl | rfl <;> rfl)

def big (p : Pr) : Bool := decide (65535 < p.2.size)
set_option maxHeartbeats 1000000 in
theorem big_pred (w : World) : PredBelow Try.prog 49 #[] (fun x => .agg (enc2 x).toArray) big w := fun W x hb => by
  show Calls Try.prog 49 #[.agg #[.string x.1, .string x.2]] W _
  have hb' := Lib.hid hb
  clear hb
  by_cases h : 65535 < x.2.size
  · have hr : Hid (big x = true) := Lib.hid (decide_eq_true h)
    have h' : (65535 : Int) < (x.2.size : Int) := by omega
    clear h
    go_enter Try.func49, Try.ntmps49
    go_wp2
    go_ret
    exact ⟨by rw [hr.out]; simp, hb'.out.alloc hb'.out.size _⟩
  · have hr : Hid (big x = false) := Lib.hid (decide_eq_false h)
    have h' : ¬ (65535 : Int) < (x.2.size : Int) := by omega
    clear h
    go_enter Try.func49, Try.ntmps49
    go_wp2
    go_ret
    exact ⟨by rw [hr.out]; simp, hb'.out.alloc hb'.out.size _⟩

/-- slices.ContainsFunc(l, value too long), l not empty -/
theorem containsPairs_any (A : Option Addr) (c : Nat) (l : List Pr) (w : World) (h0 : 0 < l.length) (hC : Kd.C kp w A l.length l) :
    Calls Try.prog 48 #[.slice A l.length c, .func (.func 49) #[] #[]] w fun e w' => e = .returned (.bool (l.any big)) ∧ Below w.heap.size w w' := by
  have hm : l.length ≤ 9223372036854775807 := hC.2.1
  obtain ⟨b, o, rfl, hb, hj⟩ := pairs_of_C hC h0
  have eg : ∀ args w, (callFunc 49 args).run Try.prog w = .ok (.enter 49 args) w := enters_of Try.func49 (by kernel_rfl) rfl
  have h := AnyQ.slices_ContainsFunc Try.laysContainsPairs 2 Try.isAgg41 Try.sizeOf41 enc2 (fun _ => rfl) big 49 #[] eg b o l.length c l w (big_pred w) (Nat.le_refl _) hm hb (fun j hl i v hi => by
    have hi2 : i < 2 := by have := (List.getElem?_eq_some_iff.1 hi).1; simpa [enc2] using this
    have := hj (j * 2 + i) v (by
      rw [flat_at l j i hl hi2]
      rw [← hi]
      simp [hl])
    rw [Nat.add_assoc]
    exact this)
  rw [List.take_length] at h
  exact h

/-- 'by their keys' -/
def cmpKey (a b : Pr) : Int := Lib.compareBytes a.1.data.toList b.1.data.toList
theorem compare_neg : ∀ (x y : List UInt8), Lib.compareBytes x y < 0 ↔ x < y
  | [], [] => by simp [Lib.compareBytes]
  | [], _ :: _ => by simp [Lib.compareBytes]
  | _ :: _, [] => by simp [Lib.compareBytes]
  | a :: x, b :: y => by
    rw [Lib.compareBytes, List.cons_lt_cons_iff]
    by_cases h1 : a < b
    · simp [h1]
    · by_cases h2 : b < a
      · have : a ≠ b := by rintro rfl; exact h1 h2
        simp [h1, h2, this]
      · have : a = b := by
          have h1' := UInt8.not_lt.1 h1
          have h2' := UInt8.not_lt.1 h2
          exact UInt8.le_antisymm h2' h1'
        subst this
        simp [compare_neg x y]
theorem lt_cmp (a b : Pr) : ltOf cmpKey a b = decide (txt a.1 < txt b.1) := by
  unfold ltOf cmpKey txt
  exact decide_eq_decide.2 (compare_neg _ _)
theorem swo_key : SWO (ltOf cmpKey) where
  irrefl x := by rw [lt_cmp]; simp
  trans x y z h1 h2 := by rw [lt_cmp] at *; simp at *; exact List.lt_trans h1 h2
  ntrans x y z h1 h2 := by rw [lt_cmp] at *; simp at *; exact List.le_trans h2 h1
set_option maxHeartbeats 1000000 in
theorem cmp_closure (x y : Pr) (W : World) : Calls Try.prog 46 #[.agg #[.string x.1, .string x.2], .agg #[.string y.1, .string y.2]] W fun e w' => e = .returned (.int .i64 (cmpKey x y)) ∧ ∃ q os', w' = grow (W.drewN q) os' := by
  have hcon := fun W' => Try.strings_Compare x.1 y.1 W'
  unfold cmpKey
  generalize Lib.compareBytes x.1.data.toList y.1.data.toList = r at hcon ⊢
  go_enter Try.func46, Try.ntmps46
  go_wp2_with (go_at_call 47; refine (hcon _).mono ?_; rintro e w' ⟨rfl, rfl⟩)
  go_ret
  exact ⟨rfl, 0, _, by rw [alloc_eq_grow, alloc_eq_grow, grow_grow]; rfl⟩
theorem cmp_lays (blk off size : Nat) (w : World) : CmpLays Try.prog 46 #[] enc2 2 cmpKey blk off size w := fun _ _ _ _ x y => cmp_closure x y _

theorem flatK_flat (l : List Pr) : (flatK enc2 2 l.toArray).toList = flat l := by
  apply List.ext_getElem?
  intro t
  rcases Nat.lt_or_ge t (l.length * 2) with ht | ht
  · have hj : t / 2 < l.length := by omega
    have h1 := flat_at l (t / 2) (t % 2) hj (by omega)
    rw [show t / 2 * 2 + t % 2 = t from by omega] at h1
    rw [h1]
    simp [flatK, ht, hj]
    have h2 : t % 2 < (enc2 l[t / 2]).length := by simp [enc2]; omega
    simp [h2]
  · rw [List.getElem?_eq_none (by simp [flatK]; omega), List.getElem?_eq_none (by rw [flat_length]; exact ht)]

theorem holdsK_of_own {w : World} {g : Nat} {cur : Array Value} {l : List Pr} (hb : w.heap[g]? = some (.cells cur 41 (0, 0))) (ht : cur.toList.take (l.length * 2) = flat l) : HoldsK enc2 2 w g 0 l.toArray := by
  intro j hj
  have hj' : j < l.length * 2 := by simpa using hj
  refine ⟨?_, by simp [World.frozen?, hb]⟩
  have h1 : (cur.toList.take (l.length * 2))[j]? = (flatK enc2 2 l.toArray).toList[j]? := by rw [ht, flatK_flat]
  rw [List.getElem?_take_of_lt hj'] at h1
  simp only [World.cell?, hb, Nat.zero_add]
  simp only [Option.isSome_none, Bool.false_eq_true, if_false]
  rw [← Array.getElem?_toList, h1]
  rw [Array.getElem?_toList]
  simp [hj']

theorem heap_sortedK {w : World} {g n : Nat} {os : Array Obj} {cur : Array Value} {e : TypeId} {fr : Nat × Nat} (d : Array Pr) (hb : w.heap[g]? = some (.cells cur e fr)) :
    (sortWorldK enc2 2 w g 0 n d os).heap[g]? = some (.cells (putCells id 0 (flatK enc2 2 d) cur) e fr) := by
  have hg : g < w.heap.size := (Array.getElem?_eq_some_iff.1 hb).1
  unfold sortWorldK
  rw [heap_grow_old _ _ (by simpa [putRowK, putRow, mapBlock] using hg)]
  simp [putRowK, putRow, mapBlock, Sort.ahead, Array.getElem?_modify, hb, onCells]
theorem grownBy_sortedK {w : World} {g n : Nat} {os : Array Obj} (d : Array Pr) : w.grownBy (sortWorldK enc2 2 w g 0 n d os) (some g) := by
  refine ⟨rfl, rfl, rfl, by simp [sortWorldK, putRowK, putRow, mapBlock, grow], fun k hk hne => ?_⟩
  unfold sortWorldK
  rw [heap_grow_old _ _ (by simpa [putRowK, putRow, mapBlock] using hk)]
  have : g ≠ k := fun e => hne (by rw [e])
  simp [putRowK, putRow, mapBlock, Sort.ahead, Array.getElem?_modify, this]
theorem take_putCellsK (cur : Array Value) (l : List Pr) (h : l.length * 2 ≤ cur.size) : (putCells id 0 (flatK enc2 2 l.toArray) cur).toList.take (l.length * 2) = flat l := by
  rw [← flatK_flat]
  apply List.ext_getElem?
  intro j
  by_cases hj : j < l.length * 2
  · rw [List.getElem?_take_of_lt hj, Array.getElem?_toList, Array.getElem?_toList]
    have h2 : j < (flatK enc2 2 l.toArray).size := by simpa using hj
    rw [Array.getElem?_eq_getElem h2]
    simp [putCells, hj, show j < cur.size by omega]
  · rw [List.getElem?_take_eq_none (by omega), List.getElem?_eq_none (by simp [flatK]; omega)]
theorem ownsRow_sortedK {w : World} {base g cap n : Nat} {os : Array Obj} {cur : Array Value} {l l' : List Pr} (hl : l'.length = l.length) (hbase : base ≤ g) (hb : w.heap[g]? = some (.cells cur 41 (0, 0)))
    (h1 : l.length ≤ cap) (h2 : cap ≤ maxLen) (h3 : cur.size = cap * 2) :
    (sortWorldK enc2 2 w g 0 n l'.toArray os).ownsRow base 41 2 (.slice (some ⟨g, 0, none⟩) l.length cap) l.length (flat l') :=
  ⟨by rw [flat_length, hl], .inr ⟨g, cap, _, rfl, hbase, heap_sortedK _ hb, h1, h2, by simp [putCells, h3], by rw [← hl]; exact take_putCellsK cur l' (by omega)⟩⟩

/-- the pairs in the order of their keys -/
def sortedPairs (l : List Pr) : List Pr := l.mergeSort fun a b => decide (txt a.1 ≤ txt b.1)
theorem sortedPairs_length (l : List Pr) : (sortedPairs l).length = l.length := by simp [sortedPairs]
theorem sortedPairs_pairwise (l : List Pr) : (sortedPairs l).Pairwise fun a b => txt a.1 ≤ txt b.1 := by
  have := List.pairwise_mergeSort (le := fun a b : Pr => decide (txt a.1 ≤ txt b.1)) (fun a b c h1 h2 => by simp at *; exact List.le_trans h1 h2) (fun a b => by simp; exact List.le_total _ _) l
  exact this.imp fun h => by simpa using h
theorem inj_nodup {α β : Type} (f : α → β) : ∀ {l : List α}, (l.map f).Nodup → ∀ {a b : α}, a ∈ l → b ∈ l → f a = f b → a = b
  | [], _, _, _, h, _, _ => by cases h
  | x :: l, hn, a, b, ha, hb, he => by
    rw [List.map_cons, List.nodup_cons] at hn
    rcases List.mem_cons.1 ha with rfl | ha'
    · rcases List.mem_cons.1 hb with rfl | hb'
      · rfl
      · exact absurd (List.mem_map.2 ⟨b, hb', he.symm⟩) hn.1
    · rcases List.mem_cons.1 hb with rfl | hb'
      · exact absurd (List.mem_map.2 ⟨a, ha', he⟩) hn.1
      · exact inj_nodup f hn.2 ha' hb' he
theorem sortedPairs_unique {l l' : List Pr} (hn : (l.map (·.1)).Nodup) (hp : l'.Perm l) (hs : l'.Pairwise fun a b => txt a.1 ≤ txt b.1) : l' = sortedPairs l := by
  have hp2 : l'.Perm (sortedPairs l) := hp.trans (List.mergeSort_perm l _).symm
  refine List.Perm.eq_of_pairwise (fun a b ha hb h1 h2 => ?_) hs (sortedPairs_pairwise l) hp2
  have he : txt a.1 = txt b.1 := List.le_antisymm h1 h2
  have hk : a.1 = b.1 := by rw [← strOf_txt a.1, ← strOf_txt b.1, he]
  have ha' : a ∈ l := hp.subset ha
  have hb' : b ∈ l := (List.mergeSort_perm l _).subset hb
  exact inj_nodup (·.1) hn ha' hb' hk

set_option maxHeartbeats 1000000 in
/-- slices.SortFunc of pairs in a row of the call's own, their keys all different. -/
theorem sortPairs_any {w W : World} {v : Value} {l : List Pr} (h0 : 0 < l.length) (hlen : l.length ≤ 1099511627776) (hown : W.ownsRow w.heap.size 41 2 v l.length (flat l)) (hb : Below w.heap.size w W) (hn : (l.map (·.1)).Nodup) :
    Calls Try.prog 45 #[v, .func (.func 46) #[] #[]] W fun e w' => e = .returned (.tuple #[]) ∧ w'.ownsRow w.heap.size 41 2 v l.length (flat (sortedPairs l)) ∧ Below w.heap.size w w' := by
  rcases hown.2 with ⟨rfl, hz⟩ | ⟨g, cap, cur, rfl, hbase, hgb, r1, r2, r3, r4⟩
  · omega
  · have hg : g < W.heap.size := (Array.getElem?_eq_some_iff.1 hgb).1
    have eg : ∀ args w, (callFunc 46 args).run Try.prog w = .ok (.enter 46 args) w := enters_of Try.func46 (by kernel_rfl) rfl
    have h := AnyQ.slices_SortFunc Try.laysSortPairs 2 Try.isAgg41 Try.sizeOf41 enc2 (fun _ => rfl) (fun x u hu => by simp [enc2] at hu; rcases hu with rfl | rfl <;> rfl) cmpKey swo_key 46 #[] g 0 cap l.toArray W eg (cmp_lays g 0 l.toArray.size W) (holdsK_of_own hgb (by simpa using r4)) hg (by simp; omega)
    rw [List.size_toArray] at h
    refine h.mono fun e w' ⟨he, d', n, os, hp, hs, hw⟩ => ?_
    have hl : d'.toList.length = l.length := by have := hp.1; simpa using this
    have hperm : d'.toList.Perm l := by
      have := hp.2.2
      have hz : d'.size = l.length := by simpa using hl
      have ht : d'.toList.take l.length = d'.toList := List.take_of_length_le (by omega)
      simpa [hz, ht] using this
    have hsort : d'.toList.Pairwise fun a b => txt a.1 ≤ txt b.1 := by
      rw [List.pairwise_iff_getElem]
      intro i j hi hj hij
      have := hs i j (Nat.zero_le _) hij (by omega)
      rw [lt_cmp] at this
      simp at this hi hj
      simpa [hi, hj] using this
    have hd : d'.toList = sortedPairs l := sortedPairs_unique hn hperm hsort
    refine ⟨he, ?_, ?_⟩
    · rw [hw, show d' = (sortedPairs l).toArray from by rw [← hd]]
      exact ownsRow_sortedK (sortedPairs_length l) hbase hgb r1 r2 r3
    · rw [hw]
      exact hb.grown (grownBy_sortedK _) hb.size (fun j hj => by cases hj; exact hbase)
end Go.Proofs.Ytjahalkgjnnapaa.Hand
