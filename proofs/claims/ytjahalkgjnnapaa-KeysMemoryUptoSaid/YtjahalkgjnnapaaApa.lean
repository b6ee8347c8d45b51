/- apart: its walk. -/
import Derived.Test.YtjahalkgjnnapaaRws
import Derived.Lib.Hide
import Derived.Outline
import Derived.BigRegion
import Derived.Deep.RegionLaw
import Derived.Deep.RegionLawGrows
import Derived.WalkLawsBesides
namespace Go.Proofs.Ytjahalkgjnnapaa.Rws
open Go.RowKit Go.Proofs.YtjahalkgjnnapaaW.PrintWords
def vl (rs : List Rw) (t : Nat) : Value := (rs.getD t (.slice none 0 0, [])).1
def tx (rs : List Rw) (t : Nat) : List ByteArray := (rs.getD t (.slice none 0 0, [])).2
def mk (t : Nat) : ByteArray := strOfNums [(t : Int)]
theorem vl_get (rs : List Rw) {t : Nat} (h : t < rs.length) : rs[t].1 = vl rs t := by simp [vl, h]
theorem tx_get (rs : List Rw) {t : Nat} (h : t < rs.length) : rs[t].2 = tx rs t := by simp [tx, h]
theorem info3 : (Try.prog.info? 3).map (fun i => (i.zero, i.size, i.bytes)) = some (some (.int .i64 0), 1, 8) := by kernel_rfl
theorem info9 : (Try.prog.info? 9).map (fun i => (i.zero, i.size, i.bytes)) = some (some (.string ByteArray.empty), 1, 16) := by kernel_rfl
def lens (rs : List Rw) : List Int := rs.map fun r => (r.2.length : Int)
def Nums (W : World) (base : Nat) (v : Value) (xs : List Int) : Prop := W.ownsRow base 3 1 v xs.length (nums .i64 xs)
def Outer (W : World) (base : Nat) (v : Value) (vs : List Value) : Prop := W.ownsRow base 22 1 v vs.length vs
theorem Outer.at {W : World} {base g n c : Nat} {vs : List Value} (h : Outer W base (.slice (some ⟨g, 0, none⟩) n c) vs) {j : Nat} (hj : j < vs.length) : W.cell? ⟨g, j, none⟩ = some vs[j] ∧ W.frozen? ⟨g, j, none⟩ = false := by
  have hc := World.ownsRow.cells h (g := g) rfl j vs[j] (by simp [hj])
  rw [add_plain] at hc
  refine ⟨hc, ?_⟩
  rcases h.2 with ⟨h', _⟩ | ⟨g', cap', cur, h', _, hh, _⟩
  · cases h'
  · have : g = g' := by injection h' with h'; injection h' with h'; injection h' with h'
    subst this
    simp [World.frozen?, hh]
theorem Nums.at {W : World} {base : Nat} {v : Value} {xs : List Int} (h : Nums W base v xs) {j : Nat} (hj : j < xs.length) : ∃ g c, v = .slice (some ⟨g, 0, none⟩) xs.length c ∧ W.cell? ⟨g, j, none⟩ = some (.int .i64 xs[j]) := by
  have h0 : W.ownsRow base 3 1 v xs.length (nums .i64 xs) := h
  rcases h0.2 with ⟨_, h2⟩ | ⟨g, cap, cur, e, hb, hh, h3, _⟩
  · simp at h2; subst h2; simp at hj
  · subst e
    refine ⟨g, cap, rfl, ?_⟩
    have hc := h0.cells (g := g) rfl j (.int .i64 xs[j]) (by simp [nums, hj])
    rwa [add_plain] at hc
theorem lens_take (rs : List Rw) {j : Nat} (h : j < rs.length) : (lens rs).take j ++ [((tx rs j).length : Int)] = (lens rs).take (j + 1) := by
  rw [List.take_succ_eq_append_getElem (by simpa [lens] using h)]
  simp [lens, tx, h]
theorem lens_take_len (rs : List Rw) {j : Nat} (h : j ≤ rs.length) : ((lens rs).take j).length = j := by simp [lens]; omega
theorem lens_at (rs : List Rw) {j m : Nat} (h : j < rs.length) (_hm : j < m) (hl : j < ((lens rs).take m).length) : ((lens rs).take m)[j] = ((tx rs j).length : Int) := by
  simp [lens, tx, h]
/-- the first phase: lists marked up to j, and list j up to m -/
def Ph1 (rs rs' : List Rw) (j m : Nat) : Prop := rs'.length = rs.length ∧ ∀ t, t < rs.length → vl rs' t = vl rs t ∧ (tx rs' t).length = (tx rs t).length ∧ (t < j → tx rs' t = List.replicate (tx rs t).length (mk t)) ∧ (t = j → (tx rs' t).take m = List.replicate m (mk t))
def vals (rs : List Rw) : List Value := rs.map (·.1)
def Rel1 (w : World) (va : Value) (rs : List Rw) (n i : Value) (wr : World) : Prop :=
  ∃ (vn : Value) (j : Nat) (rs' : List Rw), vn = n ∧ j ≤ rs.length ∧ i = .int .i64 j ∧ Nums wr w.heap.size vn ((lens rs).take j) ∧ All wr w.heap.size rs' ∧ Outer wr w.heap.size va (vals rs) ∧ Ph1 rs rs' j 0 ∧ Below w.heap.size w wr
def Rel1i (w : World) (va vn : Value) (rs : List Rw) (j : Nat) (k : Value) (wr : World) : Prop :=
  ∃ (m : Nat) (rs' : List Rw), m ≤ (tx rs j).length ∧ k = .int .i64 m ∧ Nums wr w.heap.size vn ((lens rs).take (j + 1)) ∧ All wr w.heap.size rs' ∧ Outer wr w.heap.size va (vals rs) ∧ Ph1 rs rs' j m ∧ Below w.heap.size w wr
theorem vals_len (rs : List Rw) : (vals rs).length = rs.length := by simp [vals]
theorem vals_at (rs : List Rw) {j : Nat} (h : j < rs.length) (h' : j < (vals rs).length) : (vals rs)[j] = vl rs j := by simp [vals, vl, h]
/-- rows of three kinds stand apart by their kinds -/
theorem nums_other {W : World} {b b' : Nat} {v v' : Value} {xs : List Int} {r : Rw} (h : Nums W b v xs) (h' : Own W b' (v', r.2)) : v.ownBlock = none ∨ v.ownBlock ≠ v'.ownBlock := own_type_ne h h' (by decide)
theorem after_nums {W W1 : World} {base b g c n : Nat} {v : Value} {xs : List Int} {rs : List Rw} {vs : List Value} (hn : Nums W b v xs) (hA : All W base rs) (hO : Outer W base (.slice (some ⟨g, 0, none⟩) n c) vs) (hg : W.grownBy W1 v.ownBlock) :
    All W1 base rs ∧ Outer W1 base (.slice (some ⟨g, 0, none⟩) n c) vs :=
  ⟨hA.other hg (fun i hi => own_type_ne (hA.1 i hi) hn (by decide)), own_other hO hg (own_type_ne hO hn (by decide))⟩
theorem conv1 (t : Nat) (g : Nat) (W : World) (h : W.cell? ⟨g, 0, none⟩ = some (.int .u8 (t : Int))) : (convert 59 9 (.slice (some ⟨g, 0, none⟩) 1 1)).run Try.prog W = .ok (.string (mk t)) W :=
  run_convert_bytes_arg W 59 5 Try.underlying59 Try.underlying5 g 0 1 1 [(t : Int)] rfl (fun i hi => by
    obtain rfl : i = 0 := by omega
    simpa using h) 9 Try.underlying9
theorem vl_set (rs : List Rw) {j : Nat} (r : Rw) (h : j < rs.length) (t : Nat) : vl (rs.set j r) t = if t = j then r.1 else vl rs t := by
  unfold vl
  by_cases e : t = j
  · subst e; simp [h]
  · rw [if_neg e]
    simp [List.getD_eq_getElem?_getD, List.getElem?_set_ne (show j ≠ t by omega)]
theorem tx_set (rs : List Rw) {j : Nat} (r : Rw) (h : j < rs.length) (t : Nat) : tx (rs.set j r) t = if t = j then r.2 else tx rs t := by
  unfold tx
  by_cases e : t = j
  · subst e; simp [h]
  · rw [if_neg e]
    simp [List.getD_eq_getElem?_getD, List.getElem?_set_ne (show j ≠ t by omega)]
theorem take_set_snoc (l : List ByteArray) (m : Nat) (x : ByteArray) (h : m < l.length) : (l.set m x).take (m + 1) = l.take m ++ [x] := by
  rw [List.take_succ_eq_append_getElem (by simpa using h)]
  simp [List.take_set_of_le]
theorem Ph1.step {rs rq : List Rw} {j m : Nat} (h : Ph1 rs rq j m) (hj : j < rs.length) (hm : m < (tx rs j).length) : Ph1 rs (rq.set j (vl rq j, (tx rq j).set m (mk j))) j (m + 1) := by
  obtain ⟨h1, h2⟩ := h
  refine ⟨by simpa using h1, fun t ht => ?_⟩
  rw [vl_set _ _ (by omega), tx_set _ _ (by omega)]
  obtain ⟨q1, q2, q3, q4⟩ := h2 t ht
  by_cases e : t = j
  · subst e
    rw [if_pos rfl, if_pos rfl]
    refine ⟨q1, by simpa using q2, fun h => absurd h (by omega), fun _ => ?_⟩
    show ((tx rq t).set m (mk t)).take (m + 1) = _
    rw [take_set_snoc _ _ _ (by omega), q4 rfl, List.replicate_succ']
  · rw [if_neg e, if_neg e]
    exact ⟨q1, q2, q3, fun h => absurd h e⟩
theorem Ph1.next {rs rq : List Rw} {j m : Nat} (h : Ph1 rs rq j m) (hj : j < rs.length) (hm : m = (tx rs j).length) : Ph1 rs rq (j + 1) 0 := by
  obtain ⟨h1, h2⟩ := h
  refine ⟨h1, fun t ht => ?_⟩
  obtain ⟨q1, q2, q3, q4⟩ := h2 t ht
  refine ⟨q1, q2, fun h => ?_, fun _ => by simp⟩
  by_cases e : t = j
  · subst e
    have := q4 rfl
    rw [List.take_of_length_le (by omega), hm] at this
    exact this
  · exact q3 (by omega)
/-- a text of one list is written over, then things are made -/
theorem store_all {w wr : World} {g c n gj cj m : Nat} {vn : Value} {xs : List Int} {vs : List Value} {rq : List Rw} {j : Nat} (hn : Nums wr w.heap.size vn xs) (hA : All wr w.heap.size rq) (hO : Outer wr w.heap.size (.slice (some ⟨g, 0, none⟩) n c) vs) (hB : Below w.heap.size w wr)
    (hj : j < rq.length) (ev : vl rq j = .slice (some ⟨gj, 0, none⟩) (tx rq j).length cj) (x : ByteArray) (o : Obj) :
    Nums (((wr.setCell ⟨gj, m, none⟩ (.string x)).alloc o).drew) w.heap.size vn xs ∧ All (((wr.setCell ⟨gj, m, none⟩ (.string x)).alloc o).drew) w.heap.size (rq.set j (vl rq j, (tx rq j).set m x)) ∧ Outer (((wr.setCell ⟨gj, m, none⟩ (.string x)).alloc o).drew) w.heap.size (.slice (some ⟨g, 0, none⟩) n c) vs ∧ Below w.heap.size w (((wr.setCell ⟨gj, m, none⟩ (.string x)).alloc o).drew) := by
  obtain ⟨h1, h2⟩ := hA.store hj (by rw [vl_get, tx_get]; exact ev) m x
  rw [vl_get, tx_get] at h1
  rw [vl_get] at h2
  have hr : Own wr w.heap.size rq[j] := hA.1 j hj
  have hb : Below (wr.setCell ⟨gj, m, none⟩ (.string x)).heap.size (wr.setCell ⟨gj, m, none⟩ (.string x)) (((wr.setCell ⟨gj, m, none⟩ (.string x)).alloc o).drew) := below_drew ((Below.refl _ _).alloc (Nat.le_refl _) o)
  have ne1 : vn.ownBlock = none ∨ vn.ownBlock ≠ (vl rq j).ownBlock := by rw [← vl_get _ hj]; exact own_type_ne hn hr (by decide)
  have ne2 : (Value.slice (some ⟨g, 0, none⟩) n c).ownBlock = none ∨ (Value.slice (some ⟨g, 0, none⟩) n c).ownBlock ≠ (vl rq j).ownBlock := by rw [← vl_get _ hj]; exact own_type_ne hO hr (by decide)
  have hB1 : Below w.heap.size w (wr.setCell ⟨gj, m, none⟩ (.string x)) := pw_below_grown hB _ hB.size h2 (fun k hk => own_base hr k (by rw [vl_get]; exact hk))
  exact ⟨pw_own_below (own_other hn h2 ne1) hb, h1.below hb, pw_own_below (own_other hO h2 ne2) hb, below_then hB1 hB1.size hb⟩
/-- the end of the first phase, and the second: list t is its marks, and e of the second marks -/
def Tg (rs : List Rw) (t e : Nat) : List ByteArray := List.replicate (tx rs t).length (mk t) ++ List.replicate e (mk (100 + t))
def Ph2 (rs rq : List Rw) (e : Nat → Nat) : Prop := rq.length = rs.length ∧ ∀ t, t < rs.length → tx rq t = Tg rs t (e t)
theorem Ph1.ends {rs rq : List Rw} {m : Nat} (h : Ph1 rs rq rs.length m) : Ph2 rs rq (fun t => if t < 0 then 64 else 0) ∧ vals rq = vals rs := by
  obtain ⟨h1, h2⟩ := h
  refine ⟨⟨h1, fun t ht => ?_⟩, ?_⟩
  · rw [(h2 t ht).2.2.1 ht]
    simp [Tg]
  · apply List.ext_getElem (by simp [vals, h1])
    intro t q1 q2
    have ht : t < rs.length := by simpa [vals] using q2
    rw [vals_at _ (by omega), vals_at _ ht, (h2 t ht).1]
theorem Tg_len (rs : List Rw) (t e : Nat) : (Tg rs t e).length = (tx rs t).length + e := by simp [Tg]
def e2 (j k : Nat) (t : Nat) : Nat := if t < j then 64 else if t = j then k else 0
theorem Ph2.step {rs rq : List Rw} {j k : Nat} {v : Value} (h : Ph2 rs rq (e2 j k)) (hj : j < rs.length) : Ph2 rs (rq.set j (v, tx rq j ++ [mk (100 + j)])) (e2 j (k + 1)) := by
  obtain ⟨h1, h2⟩ := h
  refine ⟨by simpa using h1, fun t ht => ?_⟩
  rw [tx_set _ _ (by omega)]
  by_cases e : t = j
  · subst e
    rw [if_pos rfl]
    show tx rq t ++ [mk (100 + t)] = _
    rw [h2 t ht]
    simp [Tg, e2, List.replicate_succ']
  · rw [if_neg e, h2 t ht]
    simp [e2, e]
theorem Ph2.first {rs rq : List Rw} {j : Nat} (h : Ph2 rs rq (fun t => if t < j then 64 else 0)) : Ph2 rs rq (e2 j 0) := by
  refine ⟨h.1, fun t ht => ?_⟩
  rw [h.2 t ht]
  simp only [e2]
  congr 1
  split <;> simp
theorem Ph2.next {rs rq : List Rw} {j : Nat} (h : Ph2 rs rq (e2 j 64)) : Ph2 rs rq (fun t => if t < j + 1 then 64 else 0) := by
  refine ⟨h.1, fun t ht => ?_⟩
  rw [h.2 t ht]
  simp only [e2]
  congr 1
  by_cases h1 : t < j
  · rw [if_pos h1, if_pos (by omega)]
  · rw [if_neg h1]
    by_cases h2 : t = j
    · rw [if_pos h2, if_pos (by omega)]
    · rw [if_neg h2, if_neg (by omega)]
def Rel2 (w : World) (va vn : Value) (rs : List Rw) (i : Value) (wr : World) : Prop :=
  ∃ (j : Nat) (rq : List Rw), j ≤ rs.length ∧ i = .int .i64 j ∧ Nums wr w.heap.size vn (lens rs) ∧ All wr w.heap.size rq ∧ Outer wr w.heap.size va (vals rq) ∧ Ph2 rs rq (fun t => if t < j then 64 else 0) ∧ Below w.heap.size w wr
def Rel2i (w : World) (va vn : Value) (rs : List Rw) (j : Nat) (k : Value) (wr : World) : Prop :=
  ∃ (m : Nat) (rq : List Rw), m ≤ 64 ∧ k = .int .i64 m ∧ Nums wr w.heap.size vn (lens rs) ∧ All wr w.heap.size rq ∧ Outer wr w.heap.size va (vals rq) ∧ Ph2 rs rq (e2 j m) ∧ Below w.heap.size w wr
theorem vals_set (rq : List Rw) (j : Nat) (r : Rw) : vals (rq.set j r) = (vals rq).set j r.1 := by simp [vals, List.map_set]
/-- behind the append to one list: all lists; what else is there -/
theorem append_all {w W w1 : World} {g c n j : Nat} {vn v1 : Value} {xs : List Int} {rq : List Rw} {l : List ByteArray} (hn : Nums W w.heap.size vn xs) (hA : All W w.heap.size rq) (hO : Outer W w.heap.size (.slice (some ⟨g, 0, none⟩) n c) (vals rq))
    (hj : j < rq.length) (ho : w1.ownsRow w.heap.size 9 1 v1 l.length (strs l)) (hg : W.grownBy w1 (vl rq j).ownBlock) (hat : v1.ownBlock = (vl rq j).ownBlock ∨ ∃ b, v1.ownBlock = some b ∧ W.heap.size ≤ b) :
    Nums w1 w.heap.size vn xs ∧ All w1 w.heap.size (rq.set j (v1, l)) ∧ Outer w1 w.heap.size (.slice (some ⟨g, 0, none⟩) n c) (vals rq) := by
  have hr : Own W w.heap.size rq[j] := hA.1 j hj
  have ne1 : vn.ownBlock = none ∨ vn.ownBlock ≠ (vl rq j).ownBlock := by rw [← vl_get _ hj]; exact own_type_ne hn hr (by decide)
  have ne2 : (Value.slice (some ⟨g, 0, none⟩) n c).ownBlock = none ∨ (Value.slice (some ⟨g, 0, none⟩) n c).ownBlock ≠ (vl rq j).ownBlock := by rw [← vl_get _ hj]; exact own_type_ne hO hr (by decide)
  exact ⟨own_other hn hg ne1, hA.put (r' := (v1, l)) hj (by rw [vl_get]; exact hg) ho (by rw [vl_get]; exact hat), own_other hO hg ne2⟩
/-- a list's value is written into the outer row -/
theorem put_all {w W : World} {g c n j : Nat} {vn : Value} {xs : List Int} {rq : List Rw} {vs : List Value} (hn : Nums W w.heap.size vn xs) (hA : All W w.heap.size rq) (hO : Outer W w.heap.size (.slice (some ⟨g, 0, none⟩) n c) vs) (hlen : vs.length = n) (hB : Below w.heap.size w W) (v1 : Value) :
    Nums (W.setCell ⟨g, j, none⟩ v1) w.heap.size vn xs ∧ All (W.setCell ⟨g, j, none⟩ v1) w.heap.size rq ∧ Outer (W.setCell ⟨g, j, none⟩ v1) w.heap.size (.slice (some ⟨g, 0, none⟩) n c) (vs.set j v1) ∧ Below w.heap.size w (W.setCell ⟨g, j, none⟩ v1) := by
  subst hlen
  obtain ⟨h1, h2⟩ := World.ownsRow.stored (g := g) hO j v1
  refine ⟨own_other hn h2 (own_type_ne hn hO (by decide)), hA.other h2 (fun i hi => own_type_ne (hA.1 i hi) hO (by decide)), ?_, pw_below_grown hB _ hB.size h2 (fun k hk => own_base hO k hk)⟩
  unfold Outer
  rw [List.length_set]
  exact h1
def Rel3 (Wp : World) (N : Nat) (i : Value) (wr : World) : Prop := ∃ j : Nat, j ≤ N ∧ i = .int .i64 j ∧ Below Wp.heap.size Wp wr
theorem Tg_at1 (rs : List Rw) (t e q : Nat) (h : q < (tx rs t).length) (h' : q < (Tg rs t e).length) : (Tg rs t e)[q] = mk t := by
  simp only [Tg]
  rw [List.getElem_append_left (by simpa using h)]
  simp
theorem Tg_at2 (rs : List Rw) (t e q : Nat) (h : ¬ q < (tx rs t).length) (h' : q < (Tg rs t e).length) : (Tg rs t e)[q] = mk (100 + t) := by
  simp only [Tg]
  rw [List.getElem_append_right (by simpa using h)]
  simp
theorem cell_alloc_ {w : World} {a : Addr} {v : Value} (h : w.cell? a = some v) (o : Obj) : (w.alloc o).cell? a = some v := pw_cell_below (below_alloc (Below.refl _ _) o) h
theorem cell_drew_ {w : World} {a : Addr} {v : Value} (h : w.cell? a = some v) : w.drew.cell? a = some v := pw_cell_below (below_drew (Below.refl _ _)) h
set_option maxHeartbeats 4000000 in
set_option maxRecDepth 100000 in
theorem apart_any (w W : World) (g c : Nat) (rs : List Rw) (hB : Below w.heap.size w W) (ho : Outer W w.heap.size (.slice (some ⟨g, 0, none⟩) rs.length c) (vals rs)) (ha : All W w.heap.size rs) (hN : rs.length ≤ 100) (hn : ∀ t, (tx rs t).length ≤ 2000) :
    Calls Try.prog 34 #[.slice (some ⟨g, 0, none⟩) rs.length c] W fun e w' => e = .returned (.bool true) ∧ Below w.heap.size w w' := by
  have HB := Lib.hid hB
  have HO := Lib.hid ho
  have HA := Lib.hid ha
  have HN := Lib.hid hn
  clear hB ho ha hn
  go_enter Try.func34, Try.ntmps34
  go_wp2
  go_loopw [3, 4] (fun n i wr => Rel1 w (.slice (some ⟨g, 0, none⟩) rs.length c) rs n i wr) (fun _ i _ => rs.length - (intOf i).toNat)
  case atStart => exact ⟨_, 0, rs, rfl, Nat.zero_le _, rfl, own_nil _ _ _ _, HA.out, HO.out, ⟨rfl, fun t _ => ⟨rfl, rfl, fun h => absurd h (by omega), fun _ => by simp⟩⟩, HB.out⟩
  case round =>
    obtain ⟨n, j, rs', rfl, hj, rfl, hn, hA, hO, hP, hB⟩ := hrel
    by_cases hlt : j < rs.length
    · have hc := (hO.at (j := j) (by rw [vals_len]; exact hlt)).1
      rw [vals_at rs hlt] at hc
      have hPj := hP.2 j hlt
      obtain ⟨Aj, cj, ej, hcj⟩ := (hA.1 j (by rw [hP.1]; exact hlt)).len
      rw [vl_get, tx_get, hPj.1, hPj.2.1] at ej
      rw [tx_get, hPj.2.1] at hcj
      have HL := HN.out j
      have HT := Lib.hid (lens_take rs hlt)
      generalize hL : (tx rs j).length = L at *
      rw [ej] at hc
      have h8 : (((lens rs).take j).length + 1) * 8 ≤ 140737488355328 := by rw [lens_take_len rs (by omega)]; omega
      replace hn := Lib.hid hn
      replace hA := Lib.hid hA
      replace hO := Lib.hid hO
      replace hP := Lib.hid hP
      replace hB := Lib.hid hB
      replace hPj := Lib.hid hPj
      replace ej := Lib.hid ej
      replace hL := Lib.hid hL
      go_wp2_with (at_builtin; refine print_append_num (P := Try.prog) (w0 := w) w.heap.size rfl (.tmp 16) (.tmp 22) 58 3 .i64 8 rfl Try.underlying58 info3 (by decide) n ((lens rs).take j) (L : Int) rfl rfl hn.out hB.out hB.out.size h8 ?_; intro v1 w1 hn1 hb1 hg1 hat1; replace hn1 := Lib.hid hn1; replace hb1 := Lib.hid hb1; replace hg1 := Lib.hid hg1; replace hat1 := Lib.hid hat1)
      have hN2 : Nums w1 w.heap.size v1 ((lens rs).take (j + 1)) := by rw [← HT.out]; exact hn1.out
      obtain ⟨hA2, hO2⟩ := after_nums hn.out hA.out hO.out hg1.out
      obtain ⟨gn, cn, e, _⟩ := hN2.at (j := j) (by rw [lens_take_len rs (by omega)]; omega)
      rw [lens_take_len rs (by omega)] at e
      subst e
      have hP2 : Hid (Ph1 rs rs' j 0) := hP.out
      replace hN2 := Lib.hid hN2
      replace hA2 := Lib.hid hA2
      replace hO2 := Lib.hid hO2
      clear hn hA hO hP hB hg1 hat1 hn1 hc hPj
      go_loopw [5] (fun k wq => Rel1i w (.slice (some ⟨g, 0, none⟩) rs.length c) (.slice (some ⟨gn, 0, none⟩) (j + 1) cn) rs j k wq) (fun k _ => L - (intOf k).toNat)
      case atStart => exact ⟨0, rs', Nat.zero_le _, rfl, hN2.out, hA2.out, hO2.out, hP2.out, hb1.out⟩
      case round =>
        clear hN2 hA2 hO2 hP2 hb1
        obtain ⟨m, rq, hm, rfl, hn, hA, hO, hP, hB⟩ := hrel
        rw [hL.out] at hm
        have hc := (hO.at (j := j) (by rw [vals_len]; exact hlt)).1
        rw [vals_at rs hlt, ej.out] at hc
        obtain ⟨gn', cn', e, hcn⟩ := hn.at (j := j) (by rw [lens_take_len rs (by omega)]; omega)
        rw [lens_at rs hlt (by omega), hL.out] at hcn
        obtain rfl : gn = gn' := by injection e with e; injection e with e; injection e
        by_cases hml : m < L
        · have hlen : (tx rq j).length = L := (hP.2 j hlt).2.1.trans hL.out
          obtain ⟨gj, cj', ej', _, _, hgj, hcm, hfm⟩ := (hA.1 j (by rw [hP.1]; exact hlt)).at (k := m) (by rw [tx_get, hlen]; exact hml)
          have ev : vl rq j = .slice Aj L cj := (hP.2 j hlt).1.trans ej.out
          rw [vl_get, ev] at ej'
          obtain rfl : Aj = some ⟨gj, 0, none⟩ := by injection ej'
          clear ej' e
          replace hn := Lib.hid hn
          replace hA := Lib.hid hA
          replace hO := Lib.hid hO
          replace hP := Lib.hid hP
          replace hB := Lib.hid hB
          replace ev := Lib.hid ev
          replace hlen := Lib.hid hlen
          have hcv := conv1 j
          have hgb : g < wr.heap.size := World.block_lt_of_cell? wr _ hc
          have hgnb : gn < wr.heap.size := World.block_lt_of_cell? wr _ hcn
          go_wp2
          go_region
          go_wp2
          go_roundw
          case rel =>
            have hm' : m < (tx rs j).length := by rw [hL.out]; exact hml
            obtain ⟨s1, s2, s3, s4⟩ := store_all (m := m) (j := j) hn.out hA.out hO.out hB.out (by rw [hP.out.1]; exact hlt) (by rw [hlen.out]; exact ev.out) (mk j) (Obj.cells #[.int .u8 (j : Int)] 5)
            exact ⟨m + 1, _, by omega, by go_num, s1, s2, s3, hP.out.step hlt hm', s4⟩
          case measure => simp [intOf]; omega
        · obtain rfl : m = L := by omega
          have hP' := Lib.hid (hP.next hlt hL.out.symm)
          replace hn := Lib.hid hn
          replace hA := Lib.hid hA
          replace hO := Lib.hid hO
          replace hB := Lib.hid hB
          clear hP e
          go_wp2
          go_roundw
          case rel => exact ⟨_, j + 1, _, rfl, by omega, by go_num, hn.out, hA.out, hO.out, hP'.out, hB.out⟩
          case measure => simp [intOf]; omega
    · obtain rfl : j = rs.length := by omega
      obtain ⟨hP2, hV⟩ := hP.ends
      rw [← hV] at hO
      rw [show (lens rs).take rs.length = lens rs from List.take_of_length_le (by simp [lens])] at hn
      replace hn := Lib.hid hn
      replace hA := Lib.hid hA
      replace hO := Lib.hid hO
      replace hP2 := Lib.hid hP2
      replace hB := Lib.hid hB
      clear hP hV
      go_wp2
      go_loopw [6] (fun i wq => Rel2 w (.slice (some ⟨g, 0, none⟩) rs.length c) n rs i wq) (fun i _ => rs.length - (intOf i).toNat)
      case atStart => exact ⟨0, rs', Nat.zero_le _, rfl, hn.out, hA.out, hO.out, hP2.out, hB.out⟩
      case round =>
        clear hn hA hO hP2 hB
        obtain ⟨j, rq, hj, rfl, hn, hA, hO, hP, hB⟩ := hrel
        by_cases hlt : j < rs.length
        · have hP0 := Lib.hid hP.first
          replace hn := Lib.hid hn
          replace hA := Lib.hid hA
          replace hO := Lib.hid hO
          replace hB := Lib.hid hB
          clear hP
          go_wp2
          go_loopw [7] (fun k wq => Rel2i w (.slice (some ⟨g, 0, none⟩) rs.length c) n rs j k wq) (fun k _ => 64 - (intOf k).toNat)
          case atStart => exact ⟨0, rq, Nat.zero_le _, rfl, hn.out, hA.out, hO.out, hP0.out, hB.out⟩
          case round =>
            clear hn hA hO hP0 hB
            obtain ⟨m, rz, hm, rfl, hn, hA, hO, hP, hB⟩ := hrel
            by_cases hml : m < 64
            · have hjz : j < rz.length := by rw [hP.1]; exact hlt
              obtain ⟨hc, hf⟩ := hO.at (j := j) (by rw [vals_len]; exact hjz)
              rw [vals_at rz hjz] at hc
              have hrow : wr.ownsRow w.heap.size 9 1 (vl rz j) (tx rz j).length (strs (tx rz j)) := by have := hA.1 j hjz; unfold Own at this; rw [vl_get, tx_get] at this; exact this
              have hl2 : (tx rz j).length ≤ 2064 := by
                rw [hP.2 j hlt, Tg_len]
                have := HN.out j
                simp [e2]
                omega
              obtain ⟨A3, c3, e3⟩ := own_slice hrow
              obtain ⟨l3, hl3⟩ : ∃ l, l = tx rz j := ⟨_, rfl⟩
              obtain ⟨v3, hv3⟩ : ∃ v, v = vl rz j := ⟨_, rfl⟩
              rw [← hl3] at hrow e3 hl2
              rw [← hv3] at hrow e3 hc
              have hcv : ∀ (g : Nat) (W : World), W.cell? ⟨g, 0, none⟩ = some (.int .u8 (100 + (j : Int))) → (convert 59 9 (.slice (some ⟨g, 0, none⟩) 1 1)).run Try.prog W = .ok (.string (mk (100 + j))) W := fun g W h => conv1 (100 + j) g W (by rw [h]; simp)
              have hgb : g < wr.heap.size := World.block_lt_of_cell? wr _ hc
              replace hrow := Lib.hid hrow
              replace hn := Lib.hid hn
              replace hA := Lib.hid hA
              replace hO := Lib.hid hO
              replace hP := Lib.hid hP
              replace hB := Lib.hid hB
              replace hl3 := Lib.hid hl3
              replace hv3 := Lib.hid hv3
              rw [e3] at hc
              replace e3 := Lib.hid e3
              have hw1 : IntKind.i64.wrap (100 + (j : Int)) = 100 + (j : Int) := IntWalk.i64_in _ (by omega)
              have hw2 : IntKind.u8.wrap (100 + (j : Int)) = 100 + (j : Int) := by simp [IntKind.wrap, IntKind.signed, IntKind.bits]; omega
              go_wp2
              have s1 : ∀ u ∈ [Value.string (mk (100 + j))], u.oneCell' = true := fun u hu => by
                rw [List.mem_singleton] at hu
                subst hu
                rfl
              have bw : Below wr.heap.size wr (wr.alloc (.cells #[.int .u8 (100 + (j : Int))] 5)).drew := below_drew ((Below.refl _ _).alloc (Nat.le_refl _) _)
              have s2 : Hid ((wr.alloc (.cells #[.int .u8 (100 + (j : Int))] 5)).drew.ownsRow w.heap.size 9 1 (.slice A3 l3.length c3) l3.length (strs l3)) := by rw [← e3.out]; exact pw_own_below hrow.out bw
              have s3 : Hid (Below w.heap.size w (wr.alloc (.cells #[.int .u8 (100 + (j : Int))] 5)).drew) := below_then hB.out hB.out.size bw
              have s5 : (l3.length + 1) * 16 ≤ 140737488355328 := by omega
              have n2 : Hid (Nums (wr.alloc (.cells #[.int .u8 (100 + (j : Int))] 5)).drew w.heap.size n (lens rs)) := pw_own_below hn.out bw
              have a2 : Hid (All (wr.alloc (.cells #[.int .u8 (100 + (j : Int))] 5)).drew w.heap.size rz) := hA.out.below bw
              have o2 : Hid (Outer (wr.alloc (.cells #[.int .u8 (100 + (j : Int))] 5)).drew w.heap.size (.slice (some ⟨g, 0, none⟩) rs.length c) (vals rz)) := pw_own_below hO.out bw
              replace bw := Lib.hid bw
              replace s1 := Lib.hid s1
              go_region_law (refine step_append_cells (P := Try.prog) (w0 := w) (W := (wr.alloc (.cells #[.int .u8 (100 + (j : Int))] 5)).drew) w.heap.size rfl (.tmp 57) (.tmp 63) 22 9 (.string ByteArray.empty) 1 16 rfl Try.underlying22 info9 rfl (by decide) (by decide) (.slice A3 l3.length c3) l3.length (strs l3) [.string (mk (100 + j))] (by simp [Act.eval]) (by simp [Act.eval]) rfl s1.out s2.out s3.out s3.out.size s5 ?_; intro v1 w1 own1 bel1 gr1 at1; obtain ⟨A1, c1, rfl⟩ := own_slice own1; have o3 := Lib.hid (append_all n2.out a2.out o2.out hjz (l := l3 ++ [mk (100 + j)]) (by rw [List.length_append, strs, encs_append]; exact own1) (by rw [← hv3.out, e3.out]; exact gr1) (by rw [← hv3.out, e3.out]; exact at1)); have b3 := Lib.hid bel1; obtain ⟨hc1, hf1⟩ := o3.out.2.2.at (j := j) (by rw [vals_len]; exact hjz); clear own1 bel1 gr1 at1)
              all_goals
                go_wp2
                go_roundw
                case rel =>
                  obtain ⟨p1, p2, p3, p4⟩ := put_all (j := j) o3.out.1 o3.out.2.1 o3.out.2.2 (by rw [vals_len, hP.out.1]) b3.out (.slice A1 (l3.length + 1) c1)
                  have hS := hP.out.step (v := .slice A1 (l3.length + 1) c1) hlt
                  rw [← hl3.out] at hS
                  rw [show (vals rz).set j (.slice A1 (l3.length + 1) c1) = vals (rz.set j (.slice A1 (l3.length + 1) c1, l3 ++ [mk (100 + j)])) from (vals_set rz j (.slice A1 (l3.length + 1) c1, l3 ++ [mk (100 + j)])).symm] at p3
                  exact ⟨m + 1, _, by omega, by go_num, p1, p2, p3, hS, p4⟩
                case measure => simp [intOf]; omega
            · obtain rfl : m = 64 := by omega
              have hP' := Lib.hid hP.next
              replace hn := Lib.hid hn
              replace hA := Lib.hid hA
              replace hO := Lib.hid hO
              replace hB := Lib.hid hB
              clear hP
              go_wp2
              go_roundw
              case rel => exact ⟨j + 1, _, by omega, by go_num, hn.out, hA.out, hO.out, hP'.out, hB.out⟩
              case measure => simp [intOf]; omega
        · obtain rfl : j = rs.length := by omega
          replace hn := Lib.hid hn
          replace hA := Lib.hid hA
          replace hO := Lib.hid hO
          replace hP := Lib.hid hP
          replace hB := Lib.hid hB
          go_wp2
          obtain ⟨Wp, hWp⟩ : ∃ Wp : World, Wp = wr := ⟨_, rfl⟩
          go_loopw [8] (fun i wq => Rel3 wr rs.length i wq) (fun i _ => rs.length - (intOf i).toNat)
          case atStart => exact ⟨0, Nat.zero_le _, rfl, Below.refl _ _⟩
          case round =>
            subst hWp
            obtain ⟨j, hj, rfl, hq⟩ := hrel
            replace hq := Lib.hid hq
            by_cases hlt : j < rs.length
            · have hLj := Lib.hid (show tx rq j = Tg rs j 64 by have := hP.out.2 j hlt; simpa [hlt] using this)
              have hjq : j < rq.length := by rw [hP.out.1]; exact hlt
              obtain ⟨A3, c3, e3, _⟩ := (hA.out.1 j hjq).len
              have hlen := Lib.hid (show (tx rq j).length = (tx rs j).length + 64 by rw [hLj.out, Tg_len])
              rw [vl_get, tx_get, hlen.out] at e3
              have hnb := HN.out j
              generalize hL : (tx rs j).length = L at *
              have hc0 : Hid (Wp.cell? ⟨g, j, none⟩ = some (.slice A3 (L + 64) c3)) := by
                have := (hO.out.at (j := j) (by rw [vals_len]; exact hjq)).1
                rw [vals_at rq hjq, e3] at this
                exact this
              replace e3 := Lib.hid e3
              replace hL := Lib.hid hL
              obtain ⟨gn, cn, en, hcn0⟩ := hn.out.at (j := j) (by simpa [lens] using hlt)
              rw [show (lens rs)[j]'(by simpa [lens] using hlt) = (L : Int) from by rw [← hL.out]; simp [lens, tx, hlt]] at hcn0
              rw [show (lens rs).length = rs.length from by simp [lens]] at en
              subst en
              replace hcn0 := Lib.hid hcn0
              have hc := pw_cell_below hq.out hc0.out
              go_wp2
              go_loopw [9] (fun k wq => Rel3 wr (L + 64) k wq) (fun k _ => L + 64 - (intOf k).toNat)
              case atStart => exact ⟨0, Nat.zero_le _, rfl, Below.refl _ _⟩
              case round =>
                clear hc
                obtain ⟨m, hm, rfl, hz⟩ := hrel
                have hqz := Lib.hid (hq.out.trans (hz.mono hq.out.size))
                replace hz := Lib.hid hz
                have hc := pw_cell_below hqz.out hc0.out
                have hcn := pw_cell_below hqz.out hcn0.out
                by_cases hml : m < L + 64
                · obtain ⟨gj, cj', ej', _, _, hgj, hcm0, _⟩ := (hA.out.1 j hjq).at (k := m) (by rw [tx_get, hlen.out]; exact hml)
                  rw [vl_get, e3.out] at ej'
                  obtain rfl : A3 = some ⟨gj, 0, none⟩ := by injection ej'
                  have hcm := pw_cell_below hqz.out hcm0
                  clear hcm0 ej'
                  have hgb : g < wr.heap.size := World.block_lt_of_cell? wr _ hc
                  have hgnb : gn < wr.heap.size := World.block_lt_of_cell? wr _ hcn
                  have hgjb : gj < wr.heap.size := World.block_lt_of_cell? wr _ hcm
                  have hmL := hlen.out
                  by_cases hmn : m < L
                  · have hx : (rq[j].2)[m]'(by rw [tx_get, hlen.out]; exact hml) = mk j := by
                      simp only [tx_get, hLj.out]
                      exact Tg_at1 rs j 64 m (by rw [hL.out]; exact hmn) _
                    rw [hx] at hcm
                    have hcv := conv1 j
                    have d1 : decide ((m : Int) < (L : Int)) = true := by simp; omega
                    have d2 : decide ((L : Int) ≤ (m : Int)) = false := by simp; omega
                    have d3 : decide (m < L) = true := by simp; omega
                    have d4 : decide (L ≤ m) = false := by simp; omega
                    have hw0 : IntKind.u8.wrap (j : Int) = (j : Int) := IntWalk.u8_in _ (by omega)
                    clear hx hmL
                    go_wp2
                    go_region
                    all_goals
                      go_wp2
                      go_roundw
                      case rel => exact ⟨m + 1, by omega, by go_num, below_then hz.out hz.out.size (below_drew ((Below.refl _ _).alloc (Nat.le_refl _) _))⟩
                      case measure => simp [intOf]; omega
                  · have hx : (rq[j].2)[m]'(by rw [tx_get, hlen.out]; exact hml) = mk (100 + j) := by
                      simp only [tx_get, hLj.out]
                      exact Tg_at2 rs j 64 m (by rw [hL.out]; exact hmn) _
                    rw [hx] at hcm
                    have hcv : ∀ (g : Nat) (W : World), W.cell? ⟨g, 0, none⟩ = some (.int .u8 (100 + (j : Int))) → (convert 59 9 (.slice (some ⟨g, 0, none⟩) 1 1)).run Try.prog W = .ok (.string (mk (100 + j))) W := fun g W h => conv1 (100 + j) g W (by rw [h]; simp)
                    have d1 : decide ((m : Int) < (L : Int)) = false := by simp; omega
                    have d2 : decide ((L : Int) ≤ (m : Int)) = true := by simp; omega
                    have d3 : decide (m < L) = false := by simp; omega
                    have d4 : decide (L ≤ m) = true := by simp; omega
                    have hw1 : IntKind.i64.wrap (100 + (j : Int)) = 100 + (j : Int) := IntWalk.i64_in _ (by omega)
                    have hw2 : IntKind.u8.wrap (100 + (j : Int)) = 100 + (j : Int) := IntWalk.u8_in _ (by omega)
                    clear hx hmL
                    go_wp2
                    go_region
                    all_goals
                      go_wp2
                      go_roundw
                      case rel => exact ⟨m + 1, by omega, by go_num, below_then hz.out hz.out.size (below_drew ((Below.refl _ _).alloc (Nat.le_refl _) _))⟩
                      case measure => simp [intOf]; omega
                · obtain rfl : m = L + 64 := by omega
                  go_wp2
                  go_roundw
                  case rel => exact ⟨j + 1, by omega, by go_num, hqz.out⟩
                  case measure => simp [intOf]; omega
            · obtain rfl : j = rs.length := by omega
              go_wp2
              go_ret
              exact ⟨rfl, below_then hB.out hB.out.size hq.out⟩
end Go.Proofs.Ytjahalkgjnnapaa.Rws
