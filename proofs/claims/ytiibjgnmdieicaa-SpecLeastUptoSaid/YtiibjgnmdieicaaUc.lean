/- spec's laws: has, below, walked. -/
import Derived.Test.YtiibjgnmdieicaaQm
import Derived.Test.YtiibjgnmdieicaaUb
import Derived.Test.YtiibjgnmdieicaaUa
namespace Go.Proofs.Ytiibjgnmdieicaa.Hist
open Go.RowKit Go.Proofs.YtiibjgnmdieicaaW.PrintWords Go.Sort
theorem any_at {α : Type} {p : α → Bool} {l : List α} {j : Nat} (h : j < l.length) (hp : p l[j] = true) : l.any p = true := List.any_eq_true.2 ⟨_, List.getElem_mem h, hp⟩
theorem any_no {α : Type} {p : α → Bool} {l : List α} (h : ∀ t, (ht : t < l.length) → p l[t] = false) : l.any p = false := by
  rw [List.any_eq_false]
  intro x hx
  obtain ⟨t, ht, rfl⟩ := List.getElem_of_mem hx
  rw [h t ht]
  decide
set_option maxHeartbeats 4000000 in
set_option maxRecDepth 100000 in
theorem has_any (x : Evt) (A4 : Option Addr) (c4 : Nat) (A5 : Option Addr) (c5 : Nat) (A9 : Option Addr) (c9 : Nat) (k : ByteArray) (w : World) (hC : Kd.C kPai w A4 x.f4.length x.f4) :
    Calls Try.prog 35 #[.agg #[.int .i64 x.f0, .int .i64 x.f1, .int .i64 x.f2, .int .u64 x.f3, .slice A4 x.f4.length c4, .slice A5 x.f5.length c5, .int .i64 x.f6.f0, .int .i64 x.f6.f1, .int .u64 x.f6.f2, .slice A9 x.f6.f3.length c9], .string k] w fun e w' => e = .returned (.bool (wroteB x k)) ∧ Below w.heap.size w w' := by
  have hm : x.f4.length ≤ 9223372036854775807 := hC.2.1
  have hbe : Below w.heap.size w (w.alloc (.cells #[.int .i64 x.f0, .int .i64 x.f1, .int .i64 x.f2, .int .u64 x.f3, .slice A4 x.f4.length c4, .slice A5 x.f5.length c5, .int .i64 x.f6.f0, .int .i64 x.f6.f1, .int .u64 x.f6.f2, .slice A9 x.f6.f3.length c9] 36)) := below_alloc (Below.refl _ _) _
  have hX := heap_alloc_new w (.cells #[.int .i64 x.f0, .int .i64 x.f1, .int .i64 x.f2, .int .u64 x.f3, .slice A4 x.f4.length c4, .slice A5 x.f5.length c5, .int .i64 x.f6.f0, .int .i64 x.f6.f1, .int .u64 x.f6.f2, .slice A9 x.f6.f3.length c9] 36)
  replace hC := Lib.hid (Kd.C_below hC hbe)
  replace hX := Lib.hid hX
  replace hbe := Lib.hid hbe
  obtain ⟨r, hr⟩ : ∃ r, r = wroteB x k := ⟨_, rfl⟩
  rw [← hr]
  unfold wroteB at hr
  replace hr := Lib.hid hr
  go_enter Try.func35, Try.ntmps35
  go_wp2
  generalize (w.alloc (.cells #[.int .i64 x.f0, .int .i64 x.f1, .int .i64 x.f2, .int .u64 x.f3, .slice A4 x.f4.length c4, .slice A5 x.f5.length c5, .int .i64 x.f6.f0, .int .i64 x.f6.f1, .int .u64 x.f6.f2, .slice A9 x.f6.f3.length c9] 36)) = w1 at *
  generalize x.f4 = l at *
  go_loopw [5] (fun s wr => RelI w1 (fun p : Pai => eqS p.f0 k) l s wr) (fun s _ => l.length - (intOf s).toNat)
  case atStart => exact ⟨0, Nat.zero_le _, rfl, (fun t _ h => absurd h (Nat.not_lt_zero t)), Below.refl _ _⟩
  case round =>
    obtain ⟨j, hj, rfl, hp, hB⟩ := hrel
    have hX2 := blk_below hX.out hB
    have e4 := blk_cell hX2 4
    have el := blk_lt hX2
    simp only [List.getElem?_toArray, List.getElem?_cons_zero, List.getElem?_cons_succ] at e4
    replace hX2 := Lib.hid hX2
    by_cases hlt : j < l.length
    · obtain ⟨ad, rfl, q0, q1⟩ := pair_at (Kd.C_below hC.out hB) hlt
      have hnx : eqS l[j].f0 k = false → ∀ t, (ht : t < l.length) → t < j + 1 → eqS l[t].f0 k = false := fun h t ht h1 => by
        by_cases e : t = j
        · subst e; exact h
        · exact hp t ht (by omega)
      have hye : eqS l[j].f0 k = true → r = true := fun h => hr.out.trans (any_at (p := fun p : Pai => eqS p.f0 k) hlt h)
      unfold eqS at hnx hye
      replace hnx := Lib.hid hnx
      replace hye := Lib.hid hye
      replace hp := Lib.hid hp
      replace hB := Lib.hid hB
      cases hb : (l[j].f0.toList == k.toList) with
      | false =>
        have hnx2 := Lib.hid (hnx.out hb)
        go_wp2
        go_roundw
        case rel => exact ⟨j + 1, by omega, by go_num, hnx2.out, hB.out⟩
        case measure => simp [intOf]; omega
      | true =>
        have hq1 := Lib.hid (hye.out hb)
        go_wp2
        go_ret
        exact ⟨by rw [hq1.out]; rfl, below_then hbe.out hbe.out.size (hB.out)⟩
    · have hno := Lib.hid (hr.out.trans (any_no (p := fun p : Pai => eqS p.f0 k) (l := l) (fun t ht => hp t ht (by omega))))
      replace hB := Lib.hid hB
      replace hp := Lib.hid hp
      go_wp2
      go_ret
      exact ⟨by rw [hno.out]; rfl, below_then hbe.out hbe.out.size hB.out⟩
def okB (y e : Evt) : Bool := e.f0 == 3 && e.f1 == y.f1 && e.f2 == y.f2 && e.f6.f1 == 1
def okAt (l : List Evt) (y : Evt) (k : Nat) : Bool := match l[k]? with
  | some e => okB y e
  | none => false
theorem okAt_lt {l : List Evt} {y : Evt} {k : Nat} (h : k < l.length) : okAt l y k = okB y l[k] := by
  unfold okAt
  rw [List.getElem?_eq_getElem h]
def belowB (l : List Evt) (w q : Nat) (x y : Evt) : Bool := (x.f6.f3.any fun v => v.f1 == y.f3) || (List.range q).any fun k => decide (w ≤ k) && okAt l y k
theorem below_t1 {l : List Evt} {w q : Nat} {x y : Evt} (h : (x.f6.f3.any fun v => v.f1 == y.f3) = true) : belowB l w q x y = true := by
  unfold belowB
  rw [h]
  rfl
theorem below_t2 {l : List Evt} {w q : Nat} {x y : Evt} {k : Nat} (h1 : w ≤ k) (h2 : k < q) (hk : k < l.length) (h : okB y l[k] = true) : belowB l w q x y = true := by
  unfold belowB
  rw [Bool.or_eq_true]
  refine .inr (List.any_eq_true.2 ⟨k, List.mem_range.2 h2, ?_⟩)
  rw [okAt_lt hk, h, decide_eq_true h1]
  rfl
theorem below_f {l : List Evt} {w q : Nat} {x y : Evt} (hq : q ≤ l.length) (h1 : (x.f6.f3.any fun v => v.f1 == y.f3) = false) (h2 : ∀ k (hk : k < l.length), w ≤ k → k < q → okB y l[k] = false) : belowB l w q x y = false := by
  unfold belowB
  rw [h1, Bool.false_or, List.any_eq_false]
  intro k hk
  have hk := List.mem_range.1 hk
  have hkl : k < l.length := by omega
  rw [okAt_lt hkl]
  by_cases h : w ≤ k
  · rw [h2 k hkl h hk]
    simp
  · rw [decide_eq_false h]
    simp
def RelBl (w0 : World) (l : List Evt) (w q : Nat) (y : Evt) (s : Value) (wr : World) : Prop := ∃ j : Nat, w ≤ j ∧ (j ≤ q ∨ j = w) ∧ s = .int .i64 j ∧ (∀ k (hk : k < l.length), w ≤ k → k < j → okB y l[k] = false) ∧ Below w0.heap.size w0 wr
set_option maxHeartbeats 4000000 in
set_option maxRecDepth 100000 in
theorem below_any (A : Option Addr) (c : Nat) (l : List Evt) (i w q : Nat) (hi : i < l.length) (hw : w < l.length) (hq : q ≤ l.length) (w0 : World) (hC : kEvt.C w0 A l.length l) :
    Calls Try.prog 34 #[.slice A l.length c, .int .i64 w, .int .i64 i, .int .i64 q] w0 fun e w' => e = .returned (.bool (belowB l w q l[i] l[w])) ∧ Below w0.heap.size w0 w' := by
  have hm : l.length ≤ 9223372036854775807 := hC.2.1
  obtain ⟨r, hr⟩ : ∃ r, r = belowB l w q l[i] l[w] := ⟨_, rfl⟩
  rw [← hr]
  have ht1 : (l[i].f6.f3.any fun v => v.f1 == l[w].f3) = true → r = true := fun h => by rw [hr]; exact below_t1 h
  have ht2 : ∀ k (hk : k < l.length), w ≤ k → k < q → okB l[w] l[k] = true → r = true := fun k hk h1 h2 h3 => by rw [hr]; exact below_t2 h1 h2 hk h3
  have hf : (l[i].f6.f3.any fun v => v.f1 == l[w].f3) = false → (∀ k (hk : k < l.length), w ≤ k → k < q → okB l[w] l[k] = false) → r = false := fun h1 h2 => by rw [hr]; exact below_f hq h1 h2
  clear hr
  obtain ⟨ad, A4, c4, A5, c5, A9, c9, rfl, q0, q1, q2, q3, q4, q5, q6, q7, q8, q9, hK, hl9, hk9⟩ := evt_at hC hi
  obtain ⟨ad', B4, d4, B5, d5, B9, d9, he, g0, g1, g2, g3, g4, g5, g6, g7, g8, g9, hK', hl9', hk9'⟩ := evt_at hC hw
  cases he
  clear q0 q1 q2 q3 q4 q5 q6 q7 q8 g0 g4 g5 g6 g7 g8 g9 hK hK' hl9 hl9' hk9'
  have hmv : l[i].f6.f3.length ≤ 9223372036854775807 := hk9.2.1
  generalize hvs : l[i].f6.f3 = vs at *
  generalize hy : l[w] = y at *
  clear hvs
  replace hy := Lib.hid hy
  have hqs := Lib.hid fun (W : World) (hb : Below w0.heap.size w0 W) => And.intro (pw_cell_below hb q9) (And.intro (pw_cell_below hb g1) (And.intro (pw_cell_below hb g2) (And.intro (pw_cell_below hb g3) (Kd.C_below hk9 hb))))
  clear q9 g1 g2 g3 hk9
  replace hC := Lib.hid hC
  replace ht1 := Lib.hid ht1
  replace ht2 := Lib.hid ht2
  replace hf := Lib.hid hf
  go_enter Try.func34, Try.ntmps34
  go_wp2
  go_loopw [9] (fun s wr => RelI w0 (fun v : Ver => v.f1 == y.f3) vs s wr) (fun s _ => vs.length - (intOf s).toNat)
  case atStart => exact ⟨0, Nat.zero_le _, rfl, (fun t _ h => absurd h (Nat.not_lt_zero t)), Below.refl _ _⟩
  case round =>
    obtain ⟨j, hj, rfl, hp, hB⟩ := hrel
    obtain ⟨q9, g1, g2, g3, hk9⟩ := hqs.out wr hB
    clear g1 g2
    by_cases hlt : j < vs.length
    · obtain ⟨av, A3, c3, rfl, v0, v1, v2, v3, hx1, hx2⟩ := ver_at hk9 hlt
      clear v0 v2 v3 hx1 hx2 hk9
      have hnx : (vs[j].f1 == y.f3) = false → ∀ t, (ht : t < vs.length) → t < j + 1 → (vs[t].f1 == y.f3) = false := fun h t ht h1 => by
        by_cases e : t = j
        · subst e; exact h
        · exact hp t ht (by omega)
      have hye := fun h => ht1.out (any_at (p := fun v : Ver => v.f1 == y.f3) hlt h)
      replace hnx := Lib.hid hnx
      replace hye := Lib.hid hye
      replace hp := Lib.hid hp
      replace hB := Lib.hid hB
      cases hb : (vs[j].f1 == y.f3) with
      | false =>
        have hnx2 := Lib.hid (hnx.out hb)
        go_wp2
        go_quiet (fail)
        go_wp2
        go_roundw
        case rel => exact ⟨j + 1, by omega, by go_num, hnx2.out, below_then hB.out hB.out.size (pw_below_drewN (Below.refl _ _) _)⟩
        case measure => simp [intOf]; omega
      | true =>
        obtain rfl := hye.out hb
        go_wp2
        go_quiet (fail)
        go_wp2
        go_ret
        exact ⟨rfl, below_then hB.out hB.out.size (pw_below_drewN (Below.refl _ _) _)⟩
    · have hno := Lib.hid (any_no (p := fun v : Ver => v.f1 == y.f3) (l := vs) (fun t ht => hp t ht (by omega)))
      replace hB := Lib.hid hB
      clear hp hk9
      go_wp2
      clear q9 g3
      go_loopw [10] (fun s wr => RelBl w0 l w q y s wr) (fun s _ => q - (intOf s).toNat)
      case atStart => exact ⟨w, Nat.le_refl _, .inr rfl, rfl, (fun k hk h1 h2 => absurd h1 (by omega)), hB.out⟩
      case round =>
        clear hB
        obtain ⟨k, hk1, hk2, rfl, hp, hB⟩ := hrel
        obtain ⟨q9, g1, g2, g3, hk9⟩ := hqs.out wr hB
        clear g3 hk9 q9
        by_cases hlt2 : k < q
        · have hkl : k < l.length := by omega
          obtain ⟨ad', C4, e4, C5, e5, C9, e9, he, x0, x1, x2, x3, x4, x5, x6, x7, x8, x9, hK, hl9, hk9⟩ := evt_at (Kd.C_below hC.out hB) hkl
          cases he
          clear x3 x4 x5 x6 x8 x9 hK hl9 hk9
          have hnx : okB y l[k] = false → ∀ t, (ht : t < l.length) → w ≤ t → t < k + 1 → okB y l[t] = false := fun h t ht h0 h1 => by
            by_cases e : t = k
            · subst e; exact h
            · exact hp t ht h0 (by omega)
          have hye := ht2.out k hkl hk1 hlt2
          have a1 : IntKind.i64.wrap ((k : Int) + 1) = (k : Int) + 1 := IntWalk.i64_in _ (by omega)
          unfold okB at hnx hye
          generalize l[k] = e at *
          replace hnx := Lib.hid hnx
          replace hye := Lib.hid hye
          replace hp := Lib.hid hp
          replace hB := Lib.hid hB
          replace hk2 := Lib.hid hk2
          cases b0 : (e.f0 == 3) <;> cases b1 : (e.f1 == y.f1) <;> cases b2 : (e.f2 == y.f2) <;> cases b3 : (e.f6.f1 == 1)
          case true.true.true.true =>
            obtain rfl := hye.out (by rw [b0, b1, b2, b3]; rfl)
            go_wp2
            go_quiet (fail)
            go_wp2
            go_ret
            exact ⟨rfl, below_then hB.out hB.out.size (pw_below_drewN (Below.refl _ _) _)⟩
          all_goals
            have hnx2 := Lib.hid (hnx.out (by rw [b0, b1, b2, b3]; rfl))
            clear hnx hye
            go_wp2
            go_quiet (fail)
            go_wp2
            go_roundw
            case rel => exact ⟨k + 1, by omega, .inl (by omega), by go_num, hnx2.out, below_then hB.out hB.out.size (pw_below_drewN (Below.refl _ _) _)⟩
            case measure => simp [intOf]; omega
        · obtain rfl := hf.out hno.out (fun t ht h1 h2 => hp t ht h1 (by omega))
          have b0 : decide ((k : Int) < (q : Int)) = false := decide_eq_false (by omega)
          replace hB := Lib.hid hB
          replace hp := Lib.hid hp
          replace hk2 := Lib.hid hk2
          clear g1 g2
          go_wp2
          go_ret
          exact ⟨rfl, hB.out⟩
end Go.Proofs.Ytiibjgnmdieicaa.Hist
/- spec's laws: all constraints, in plain words. -/
namespace Go.Proofs.Ytiibjgnmdieicaa.Hist
open Go.RowKit Go.Proofs.YtiibjgnmdieicaaW.PrintWords Go.Sort
def tcB (x y : Evt) : Bool := x.f0 == 1 && y.f0 == 1 && x.f3 != 0 && y.f3 != 0 && x.f1 == y.f1
def tcP (x y : Evt) : List (Int × Int) := if tcB x y = true then [(x.f3, y.f3)] else []
def at2 (f : Evt → Evt → List (Int × Int)) (l : List Evt) (i k : Nat) : List (Int × Int) := match l[i]?, l[k]? with
  | some x, some y => f x y
  | _, _ => []
theorem at2_lt {f : Evt → Evt → List (Int × Int)} {l : List Evt} {i k : Nat} (hi : i < l.length) (hk : k < l.length) : at2 f l i k = f l[i] l[k] := by
  unfold at2
  rw [List.getElem?_eq_getElem hi, List.getElem?_eq_getElem hk]
theorem mem_at2 {f : Evt → Evt → List (Int × Int)} {l : List Evt} {i k : Nat} {p : Int × Int} : p ∈ at2 f l i k ↔ ∃ hi : i < l.length, ∃ hk : k < l.length, p ∈ f l[i] l[k] := by
  by_cases hi : i < l.length
  · by_cases hk : k < l.length
    · rw [at2_lt hi hk]
      exact ⟨fun h => ⟨hi, hk, h⟩, fun ⟨_, _, h⟩ => h⟩
    · unfold at2
      rw [List.getElem?_eq_none (by omega : l.length ≤ k)]
      refine ⟨fun h => ?_, fun ⟨_, h, _⟩ => absurd h hk⟩
      split at h
      · rename_i h2
        cases h2
      · cases h
  · unfold at2
    rw [List.getElem?_eq_none (by omega : l.length ≤ i)]
    refine ⟨fun h => ?_, fun ⟨h, _⟩ => absurd h hi⟩
    split at h
    · rename_i h2 _
      cases h2
    · cases h
def upTo (f : Nat → List (Int × Int)) (n : Nat) : List (Int × Int) := (List.range n).flatMap f
theorem upTo_succ (f : Nat → List (Int × Int)) (n : Nat) : upTo f (n + 1) = upTo f n ++ f n := by
  unfold upTo
  rw [List.range_succ, List.flatMap_append]
  simp
theorem mem_upTo {f : Nat → List (Int × Int)} {n : Nat} {p : Int × Int} : p ∈ upTo f n ↔ ∃ i, i < n ∧ p ∈ f i := by
  unfold upTo
  simp only [List.mem_flatMap, List.mem_range]
theorem upTo_len {f : Nat → List (Int × Int)} {b : Nat} : ∀ (n : Nat), (∀ i, i < n → (f i).length ≤ b) → (upTo f n).length ≤ n * b
  | 0, _ => by simp [upTo]
  | n + 1, h => by
    have h1 := upTo_len n (fun i hi => h i (by omega))
    have h2 := h n (by omega)
    rw [upTo_succ, List.length_append, Nat.add_mul]
    omega
/-- of a client's own order: the writes behind the one at i, n of them -/
def tieC (l : List Evt) (i n : Nat) : List (Int × Int) := upTo (fun t => at2 tcP l i (i + 1 + t)) n
def tieCn (l : List Evt) (n : Nat) : List (Int × Int) := upTo (fun i => tieC l i (l.length - (i + 1))) n
/-- of a read: a write and what was told -/
def rB (y : Evt) (v : Ver) : Bool := v.f1 != y.f3 && wroteB y v.f0
def rP (y : Evt) (vs : List Ver) : List (Int × Int) := (vs.filter (rB y)).map fun v => (y.f3, v.f1)
def rqB (l : List Evt) (w : Nat) (x y : Evt) : Bool := y.f0 == 1 && y.f3 != 0 && belowB l w (firstI l x) x y
def tieE (l : List Evt) (w : Nat) (x y : Evt) : List (Int × Int) := if rqB l w x y = true then rP y x.f6.f3 else []
def rW (l : List Evt) (i n : Nat) : List (Int × Int) := upTo (fun w => at2 (tieE l w) l i w) n
def rN (l : List Evt) (n : Nat) : List (Int × Int) := upTo (fun i => rW l i i) n
def okT (T : List (Int × Int)) : Bool := T.all fun p => p.2 != 0
def tiesL (l : List Evt) : List (Int × Int) := tieCn l l.length ++ rN l l.length
theorem okT_app (a b : List (Int × Int)) : okT (a ++ b) = (okT a && okT b) := List.all_append
theorem rP_take {y : Evt} {vs : List Ver} {k : Nat} (h : k < vs.length) : rP y (vs.take (k + 1)) = rP y (vs.take k) ++ if rB y vs[k] = true then [(y.f3, vs[k].f1)] else [] := by
  unfold rP
  rw [← List.take_append_getElem h, List.filter_append, List.map_append]
  congr 1
  simp only [List.filter_cons, List.filter_nil]
  split <;> rfl
theorem rP_len (y : Evt) (vs : List Ver) : (rP y vs).length ≤ vs.length := by
  unfold rP
  rw [List.length_map]
  exact List.length_filter_le _ _
theorem rW_nil {l : List Evt} {i : Nat} (hi : i < l.length) (h : l[i].f6.f3 = []) (n : Nat) : rW l i n = [] := by
  rw [List.eq_nil_iff_forall_not_mem]
  intro p hp
  obtain ⟨w, _, hw⟩ := mem_upTo.1 hp
  obtain ⟨_, _, hw⟩ := mem_at2.1 hw
  unfold tieE at hw
  rw [h] at hw
  split at hw <;> cases hw
theorem firstI_spec {l : List Evt} {i : Nat} (hi : i < l.length) : firstI l l[i] ≤ i ∧ ∀ t, (ht : t < l.length) → t < firstI l l[i] → (l[t].f1 == l[i].f1 && l[t].f2 == l[i].f2) = false := by
  unfold firstI
  constructor
  · refine Nat.le_of_not_lt fun h => ?_
    have := List.not_of_lt_findIdx h
    simp at this
  · intro t ht h
    have := List.not_of_lt_findIdx h
    simpa using this
theorem firstI_at {l : List Evt} {x : Evt} {j : Nat} (hj : j < l.length) (hb : ∀ t, (ht : t < l.length) → t < j → (l[t].f1 == x.f1 && l[t].f2 == x.f2) = false) (h : (l[j].f1 == x.f1 && l[j].f2 == x.f2) = true) : firstI l x = j := by
  unfold firstI
  rw [List.findIdx_eq hj]
  exact ⟨h, fun t ht => hb t (by omega) ht⟩
theorem tcB_iff (x y : Evt) : tcB x y = true ↔ IsW x ∧ IsW y ∧ x.f1 = y.f1 := by
  unfold tcB IsW
  simp only [Bool.and_eq_true, beq_iff_eq, bne_iff_ne]
  omega
theorem mem_tCn {l : List Evt} {a b : Int} : (a, b) ∈ tieCn l l.length ↔ TieC l a b := by
  unfold tieCn tieC TieC
  rw [mem_upTo]
  constructor
  · rintro ⟨i, _, h⟩
    obtain ⟨t, _, h⟩ := mem_upTo.1 h
    obtain ⟨hi, hk, h⟩ := mem_at2.1 h
    unfold tcP at h
    split at h
    · rename_i hb
      obtain ⟨h1, h2, h3⟩ := (tcB_iff _ _).1 hb
      rw [List.mem_singleton, Prod.mk.injEq] at h
      exact ⟨i, _, hi, hk, by omega, h1, h2, h3, h.1, h.2⟩
    · cases h
  · rintro ⟨i, k, hi, hk, hik, h1, h2, h3, rfl, rfl⟩
    refine ⟨i, hi, mem_upTo.2 ⟨k - (i + 1), by omega, mem_at2.2 ⟨hi, by omega, ?_⟩⟩⟩
    have e : i + 1 + (k - (i + 1)) = k := by omega
    simp only [e]
    unfold tcP
    rw [if_pos ((tcB_iff _ _).2 ⟨h1, h2, h3⟩)]
    exact List.mem_singleton.2 rfl
theorem belowB_iff {l : List Evt} {w i q : Nat} (hw : w < l.length) (hi : i < l.length) (hq : q ≤ l.length) : belowB l w q l[i] l[w] = true ↔ BelowP l w i q hw hi := by
  unfold belowB BelowP
  rw [Bool.or_eq_true, List.any_eq_true, List.any_eq_true]
  constructor
  · rintro (⟨k, hk, h⟩ | ⟨k, hk, h⟩)
    · exact .inl ⟨k, hk, beq_iff_eq.1 h⟩
    · have hk := List.mem_range.1 hk
      have hkl : k < l.length := by omega
      rw [okAt_lt hkl] at h
      unfold okB at h
      simp only [Bool.and_eq_true, beq_iff_eq, decide_eq_true_eq] at h
      exact .inr ⟨k, hkl, h.1, hk, h.2.1.1.1, h.2.1.1.2, h.2.1.2, h.2.2⟩
  · rintro (⟨k, hk, h⟩ | ⟨k, hkl, h1, h2, h3, h4, h5, h6⟩)
    · exact .inl ⟨k, hk, beq_iff_eq.2 h⟩
    · refine .inr ⟨k, List.mem_range.2 h2, ?_⟩
      rw [okAt_lt hkl]
      unfold okB
      simp only [Bool.and_eq_true, beq_iff_eq, decide_eq_true_eq]
      exact ⟨h1, ⟨⟨h3, h4⟩, h5⟩, h6⟩
theorem mem_rN {l : List Evt} {a b : Int} : (a, b) ∈ rN l l.length ↔ TieR l a b := by
  unfold rN rW TieR
  rw [mem_upTo]
  constructor
  · rintro ⟨i, hi, h⟩
    obtain ⟨w, hwi, h⟩ := mem_upTo.1 h
    obtain ⟨hi, hw, h⟩ := mem_at2.1 h
    have hq := (firstI_spec hi).1
    unfold tieE at h
    split at h
    · rename_i hb
      unfold rqB at hb
      simp only [Bool.and_eq_true, beq_iff_eq, bne_iff_ne] at hb
      obtain ⟨v, hv, he⟩ := List.mem_map.1 h
      obtain ⟨hv, hr⟩ := List.mem_filter.1 hv
      unfold rB at hr
      simp only [Bool.and_eq_true, bne_iff_ne] at hr
      rw [Prod.mk.injEq] at he
      exact ⟨i, hi, w, hw, hwi, ⟨hb.1.1, hb.1.2⟩, (belowB_iff hw hi (by omega)).1 hb.2, v, hv, hr.1, hr.2, he.1.symm, he.2.symm⟩
    · cases h
  · rintro ⟨i, hi, w, hw, hwi, iw, hb, v, hv, hne, hwr, rfl, rfl⟩
    have hq := (firstI_spec hi).1
    refine ⟨i, hi, mem_upTo.2 ⟨w, hwi, mem_at2.2 ⟨hi, hw, ?_⟩⟩⟩
    unfold tieE rqB
    rw [if_pos (by
      simp only [Bool.and_eq_true, beq_iff_eq, bne_iff_ne]
      exact ⟨⟨iw.1, iw.2⟩, (belowB_iff hw hi (by omega)).2 hb⟩)]
    refine List.mem_map.2 ⟨v, List.mem_filter.2 ⟨hv, ?_⟩, rfl⟩
    unfold rB
    simp only [Bool.and_eq_true, bne_iff_ne]
    exact ⟨hne, hwr⟩
theorem mem_ties {l : List Evt} {a b : Int} : (a, b) ∈ tiesL l ↔ TieC l a b ∨ TieR l a b := by
  unfold tiesL
  rw [List.mem_append, mem_tCn, mem_rN]
theorem ok_ties {l : List Evt} : okT (rN l l.length) = true ↔ ∀ a, ¬ TieR l a 0 := by
  unfold okT
  rw [List.all_eq_true]
  constructor
  · intro h a ht
    have := h _ (mem_rN.2 ht)
    simp at this
  · rintro h ⟨a, b⟩ hp
    have ht := mem_rN.1 hp
    rw [bne_iff_ne]
    rintro rfl
    exact h a ht
/-- how many -/
theorem tC_len {l : List Evt} {i n : Nat} : (tieC l i n).length ≤ n := by
  have := upTo_len (f := fun t => at2 tcP l i (i + 1 + t)) (b := 1) n fun t _ => by
    show (at2 tcP l i (i + 1 + t)).length ≤ 1
    unfold at2
    split
    · unfold tcP
      split <;> simp
    · simp
  unfold tieC
  omega
theorem tCn_len {l : List Evt} {n : Nat} : (tieCn l n).length ≤ n * l.length := upTo_len n fun _ _ => Nat.le_trans tC_len (Nat.sub_le _ _)
theorem rE_len {l : List Evt} {w : Nat} {x y : Evt} : (tieE l w x y).length ≤ x.f6.f3.length := by
  unfold tieE
  split
  · exact rP_len _ _
  · exact Nat.zero_le _
theorem rW_len {l : List Evt} {i n B : Nat} (hB : ∀ j (h : j < l.length), l[j].f6.f3.length ≤ B) : (rW l i n).length ≤ n * B := upTo_len n fun w _ => by
  show (at2 (tieE l w) l i w).length ≤ B
  by_cases hi : i < l.length
  · by_cases hw : w < l.length
    · rw [at2_lt hi hw]
      exact Nat.le_trans rE_len (hB i hi)
    · refine Nat.le_trans (Nat.le_of_eq ?_) (Nat.zero_le _)
      rw [List.length_eq_zero_iff, List.eq_nil_iff_forall_not_mem]
      exact fun p hp => hw (mem_at2.1 hp).2.1
  · refine Nat.le_trans (Nat.le_of_eq ?_) (Nat.zero_le _)
    rw [List.length_eq_zero_iff, List.eq_nil_iff_forall_not_mem]
    exact fun p hp => hi (mem_at2.1 hp).1
theorem rN_len {l : List Evt} {n B : Nat} (hn : n ≤ l.length) (hB : ∀ j (h : j < l.length), l[j].f6.f3.length ≤ B) : (rN l n).length ≤ n * (l.length * B) := upTo_len n fun i hi => Nat.le_trans (rW_len hB) (Nat.mul_le_mul_right _ (by omega))
end Go.Proofs.Ytiibjgnmdieicaa.Hist
/- spec's laws: ties, walked. -/
namespace Go.Proofs.Ytiibjgnmdieicaa.Hist
open Go.RowKit Go.Proofs.YtiibjgnmdieicaaW.PrintWords Go.Sort
abbrev tTie : TypeId := 79
def RT (p : Int × Int) (cs : List Value) : Prop := cs = [.int .u64 p.1, .int .u64 p.2]
theorem infoTie : (Try.prog.info? tTie).map (fun i => (i.zero, i.size, i.bytes)) = some (some (.agg #[.int .u64 0, .int .u64 0]), 2, 16) := by kernel_rfl
theorem oneT (a b : Int) : ∀ u ∈ ([.int .u64 a, .int .u64 b] : List Value), u.oneCell' = true := by
  intro u hu
  simp at hu
  rcases hu with rfl | rfl <;> rfl
/-- the constraints so far, in a row of the walk's own -/
def TR (w wr : World) (T : List (Int × Int)) (s : Value) : Prop := OwnRow RT tTie 2 wr w.heap.size s T ∧ Below w.heap.size w wr
theorem TR.below {w W W1 : World} {T : List (Int × Int)} {s : Value} (h : TR w W T s) (hb : Below W.heap.size W W1) : TR w W1 T s := ⟨h.1.below hb, below_then h.2 h.2.size hb⟩
def T1 (w : World) (l : List Evt) (s4 s5 : Value) (wr : World) : Prop := ∃ i : Nat, i ≤ l.length ∧ s5 = .int .i64 i ∧ TR w wr (tieCn l i) s4
def T2 (w : World) (l : List Evt) (i : Nat) (s4 s6 : Value) (wr : World) : Prop := ∃ t : Nat, t ≤ l.length - (i + 1) ∧ s6 = .int .i64 ((i + 1 + t : Nat) : Int) ∧ TR w wr (tieCn l i ++ tieC l i t) s4
def T3 (w : World) (l : List Evt) (s4 s7 s8 : Value) (wr : World) : Prop := ∃ i : Nat, i ≤ l.length ∧ s8 = .int .i64 i ∧ s7 = .bool (okT (rN l i)) ∧ TR w wr (tieCn l l.length ++ rN l i) s4
def TA (w0 : World) (q : Nat) (s10 : Value) (wr : World) : Prop := ∃ j : Nat, j ≤ q ∧ s10 = .int .i64 j ∧ Below w0.heap.size w0 wr
def T4 (w : World) (l : List Evt) (TC R : List (Int × Int)) (i : Nat) (s4 s7 s11 : Value) (wr : World) : Prop := ∃ t : Nat, t ≤ i ∧ s11 = .int .i64 t ∧ s7 = .bool (okT (R ++ rW l i t)) ∧ TR w wr (TC ++ (R ++ rW l i t)) s4
def T5 (w : World) (TC R : List (Int × Int)) (y : Evt) (vs : List Ver) (s4 s7 s12 : Value) (wr : World) : Prop := ∃ k : Nat, k ≤ vs.length ∧ s12 = .int .i64 k ∧ s7 = .bool (okT (R ++ rP y (vs.take k))) ∧ TR w wr (TC ++ (R ++ rP y (vs.take k))) s4
theorem and5 (a b c d e : Bool) : a = false ∨ (a = true ∧ b = false) ∨ (a = true ∧ b = true ∧ c = false) ∨ (a = true ∧ b = true ∧ c = true ∧ d = false) ∨ (a = true ∧ b = true ∧ c = true ∧ d = true ∧ e = false) ∨ (a = true ∧ b = true ∧ c = true ∧ d = true ∧ e = true) := by
  cases a <;> cases b <;> cases c <;> cases d <;> cases e <;> simp
set_option maxHeartbeats 16000000 in
set_option maxRecDepth 100000 in
theorem ties_any (A : Option Addr) (c : Nat) (l : List Evt) (w : World) (hC : kEvt.C w A l.length l) (hfew : l.length ≤ 60) (hvs : ∀ j (h : j < l.length), l[j].f6.f3.length ≤ 400) :
    Calls Try.prog 14 #[.slice A l.length c] w fun e w' => ∃ v, e = .returned (.tuple #[v, .bool (okT (rN l l.length))]) ∧ TR w w' (tiesL l) v := by
  have hm : l.length ≤ 9223372036854775807 := hC.2.1
  replace hC := Lib.hid hC
  replace hvs := Lib.hid hvs
  go_enter Try.func14, Try.ntmps14
  go_wp2
  go_loopw [4, 5] (fun s4 s5 wr => T1 w l s4 s5 wr) (fun _ s5 _ => l.length - (intOf s5).toNat)
  case atStart => exact ⟨0, Nat.zero_le _, rfl, OwnRow.none_ _ _ _ _ _, Below.refl _ _⟩
  case round =>
    obtain ⟨i, hi, rfl, hT⟩ := hrel
    by_cases hlt : i < l.length
    · have a1 : IntKind.i64.wrap ((i : Int) + 1) = (i : Int) + 1 := IntWalk.i64_in _ (by omega)
      replace hT := Lib.hid hT
      go_wp2
      go_loopw [4, 6] (fun s4 s6 wr => T2 w l i s4 s6 wr) (fun _ s6 _ => l.length - (intOf s6).toNat)
      case atStart => exact ⟨0, Nat.zero_le _, by go_num, by rw [show tieC l i 0 = [] from rfl, List.append_nil]; exact hT.out⟩
      case round =>
        clear hT
        obtain ⟨t, ht, rfl, hT⟩ := hrel
        generalize hk : i + 1 + t = k at *
        by_cases hlk : k < l.length
        · have hnx : tieC l i (t + 1) = tieC l i t ++ tcP l[i] l[k] := by
            unfold tieC
            rw [upTo_succ, hk, at2_lt hlt hlk]
          have hln := @tCn_len l i
          have hln2 := @tC_len l i t
          have hml : i * l.length ≤ 60 * 60 := Nat.mul_le_mul (by omega) hfew
          obtain ⟨ad, A4, c4, A5, c5, A9, c9, rfl, q0, q1, q2, q3, q4, q5, q6, q7, q8, q9, hK, hl9, hk9⟩ := evt_at (Kd.C_below hC.out hT.2) hlt
          obtain ⟨ad', B4, d4, B5, d5, B9, d9, he, g0, g1, g2, g3, g4, g5, g6, g7, g8, g9, hK', hl9', hk9'⟩ := evt_at (Kd.C_below hC.out hT.2) hlk
          cases he
          clear q2 q4 q5 q6 q7 q8 q9 g2 g4 g5 g6 g7 g8 g9 hK hK' hl9 hl9' hk9 hk9'
          have hs5 : ((tieCn l i ++ tieC l i t).length + 1) * 16 ≤ 140737488355328 := by
            rw [List.length_append]
            omega
          have a2 : IntKind.i64.wrap ((k : Int) + 1) = (k : Int) + 1 := IntWalk.i64_in _ (by omega)
          clear hln hln2 hml
          have hnx2 : tcB l[i] l[k] = false → ∀ W s, TR w W (tieCn l i ++ tieC l i t) s → TR w W (tieCn l i ++ tieC l i (t + 1)) s := fun h W s hT => by
            rw [hnx]
            unfold tcP
            rw [if_neg (by rw [h]; decide), List.append_nil]
            exact hT
          have hnx3 : tcB l[i] l[k] = true → tieCn l i ++ tieC l i (t + 1) = (tieCn l i ++ tieC l i t) ++ [(l[i].f3, l[k].f3)] := fun h => by
            rw [hnx]
            unfold tcP
            rw [if_pos h, List.append_assoc]
          clear hnx
          obtain ⟨RA, rc, rfl⟩ := slice_of hT.1 rfl
          generalize tieCn l i ++ tieC l i t = T at *
          unfold tcB at hnx2 hnx3
          generalize l[i] = x at *
          generalize l[k] = y at *
          replace hnx2 := Lib.hid hnx2
          replace hnx3 := Lib.hid hnx3
          replace hT := Lib.hid hT
          replace hk := Lib.hid hk
          replace hs5 := Lib.hid hs5
          rcases and5 (x.f0 == 1) (y.f0 == 1) (x.f3 != 0) (y.f3 != 0) (x.f1 == y.f1) with b0 | ⟨b0, b1⟩ | ⟨b0, b1, b2⟩ | ⟨b0, b1, b2, b3⟩ | ⟨b0, b1, b2, b3, b4⟩ | ⟨b0, b1, b2, b3, b4⟩
          case inr.inr.inr.inr.inr =>
            have hn3 := Lib.hid (hnx3.out (by rw [b0, b1, b2, b3, b4]; rfl))
            have hnn := Lib.hid (List.length_append : (T ++ [(x.f3, y.f3)]).length = T.length + 1)
            clear hnx2 hnx3
            go_wp2
            go_quiet (fail)
            go_wp2
            have hb3 := pw_below_drewN (Below.refl wr.heap.size wr) nq
            have hT3 := hT.out.below hb3
            replace q3 := pw_cell_below hb3 q3
            replace g3 := pw_cell_below hb3 g3
            clear q0 q1 g0 g1 hT hb3
            generalize wr.drewN nq = W3 at *
            have sT := Lib.hid (hT3.below (below_drew (Below.refl _ _)))
            clear hT3
            go_region_law (refine append_shape (P := Try.prog) (R := RT) (w0 := w) (W := W3.drew) w.heap.size rfl (.tmp 70) (.tmp 82) 42 tTie (.agg #[.int .u64 0, .int .u64 0]) 2 16 rfl Try.underlying42 infoTie rfl (by decide) (by decide) (.slice RA T.length rc) T (x.f3, y.f3) [.int .u64 x.f3, .int .u64 y.f3] (by simp [Act.eval]) (by simp [Act.eval]) rfl rfl (oneT _ _) (by exact sT.out.1) (by exact sT.out.2) (by exact sT.out.2.size) (by exact hs5.out) (T.length + 1) (by exact hnn.out) ?_; intro A1 cc1 w1 own1 bel1 _gr1; replace own1 := Lib.hid own1; replace bel1 := Lib.hid bel1; clear _gr1)
            all_goals
              go_wp2
              go_roundw
              case rel => exact ⟨t + 1, by have := hk.out; omega, by have := hk.out; go_num, by rw [hn3.out]; exact ⟨own1.out, bel1.out⟩⟩
              case measure => simp [intOf]; omega
          all_goals
            have hnx := Lib.hid (hnx2.out (by simp only [b0, Bool.false_and] <;> simp [*]))
            clear hnx2 hnx3
            go_wp2
            go_quiet (fail)
            go_wp2
            go_roundw
            case rel => exact ⟨t + 1, by have := hk.out; omega, by have := hk.out; go_num, hnx.out _ _ (hT.out.below (pw_below_drewN (Below.refl _ _) _))⟩
            case measure => simp [intOf]; omega
        · obtain rfl : t = l.length - (i + 1) := by omega
          have hnx : tieCn l (i + 1) = tieCn l i ++ tieC l i (l.length - (i + 1)) := by
            unfold tieCn
            rw [upTo_succ]
          rw [← hnx] at hT
          have b0 : decide ((k : Int) < (l.length : Int)) = false := decide_eq_false (by omega)
          clear hnx
          replace hT := Lib.hid hT
          replace hk := Lib.hid hk
          go_wp2
          go_roundw
          case rel => exact ⟨i + 1, by omega, by go_num, hT.out⟩
          case measure => simp [intOf]; omega
    · obtain rfl : i = l.length := by omega
      replace hT := Lib.hid hT
      go_wp2
      go_loopw [4, 7, 8] (fun s4 s7 s8 wr => T3 w l s4 s7 s8 wr) (fun _ _ s8 _ => l.length - (intOf s8).toNat)
      case atStart => exact ⟨0, Nat.zero_le _, rfl, rfl, by rw [show rN l 0 = [] from rfl, List.append_nil]; exact hT.out⟩
      case round =>
        clear hT
        obtain ⟨i, hi, rfl, rfl, hT⟩ := hrel
        by_cases hlt : i < l.length
        · have hnI : rN l (i + 1) = rN l i ++ rW l i i := by
            unfold rN
            rw [upTo_succ]
          have hnil := @rW_nil l i hlt
          obtain ⟨ad, A4, c4, A5, c5, A9, c9, rfl, q0, q1, q2, q3, q4, q5, q6, q7, q8, q9, hK, hl9, hk9⟩ := evt_at hC.out hlt
          clear q0 q3 q4 q5 q6 q7 q8 hK hl9
          have hq := firstI_spec hlt
          have hqe : firstI l l[i] < l.length := by omega
          have hqm : (l[firstI l l[i]].f1 == l[i].f1 && l[firstI l l[i]].f2 == l[i].f2) = true := List.findIdx_getElem (p := fun x : Evt => x.f1 == l[i].f1 && x.f2 == l[i].f2)
          have hq1 := hq.1
          have hvl := hvs.out i hlt
          have a1 : IntKind.i64.wrap ((i : Int) + 1) = (i : Int) + 1 := IntWalk.i64_in _ (by omega)
          have hbl := Lib.hid fun W (hb : Below w.heap.size w W) t (ht : t < l.length) => below_any (some ad) c l i t (firstI l l[i]) hlt ht (by omega) W (Kd.C_below hC.out hb)
          have hstep := fun t (ht : t < l.length) => (by unfold rW; rw [upTo_succ, at2_lt hlt ht] : rW l i (t + 1) = rW l i t ++ tieE l t l[i] l[t])
          have hln0 := @tCn_len l l.length
          have hln1 := rN_len (l := l) (n := i) (B := 400) hi hvs.out
          have hln2 := fun t => rW_len (l := l) (i := i) (n := t) (B := 400) hvs.out
          have hm0 : l.length * l.length ≤ 60 * 60 := Nat.mul_le_mul hfew hfew
          have hm1 : i * (l.length * 400) ≤ 60 * (60 * 400) := Nat.mul_le_mul (by omega) (Nat.mul_le_mul_right _ hfew)
          have hlen : ∀ t ≤ i, (tieCn l l.length).length + (rN l i).length + (rW l i t).length ≤ 2000000 := fun t ht => by
            have := hln2 t
            have : t * 400 ≤ 60 * 400 := Nat.mul_le_mul_right _ (by omega)
            omega
          clear hln0 hln1 hln2 hm0 hm1
          unfold tieE rqB at hstep
          generalize hR : rN l i = R at *
          generalize hTC : tieCn l l.length = TC at *
          generalize hqg : firstI l l[i] = q at *
          generalize hx : l[i] = x at *
          replace hR := Lib.hid hR
          replace hTC := Lib.hid hTC
          replace hqg := Lib.hid hqg
          replace hx := Lib.hid hx
          replace hstep := Lib.hid hstep
          replace hlen := Lib.hid hlen
          replace hnI := Lib.hid hnI
          replace hnil := Lib.hid hnil
          replace hq := Lib.hid hq
          replace hqm := Lib.hid hqm
          generalize hvg : x.f6.f3 = vs at *
          replace hvg := Lib.hid hvg
          cases hvz : vs with
          | nil =>
            subst hvz
            have hR1 : rN l (i + 1) = R := by rw [hnI.out, hnil.out rfl, List.append_nil]
            have hT1 := Lib.hid hT
            replace hR1 := Lib.hid hR1
            replace q9 := pw_cell_below hT.2 q9
            clear hT hk9 q1 q2
            go_wp2
            go_roundw
            case rel => exact ⟨i + 1, by omega, by go_num, by rw [hR1.out], by rw [hR1.out, hTC.out]; exact hT1.out⟩
            case measure => simp [intOf]; omega
          | cons v0 vr =>
            have b0 : ((vs.length : Int) == 0) = false := by
              rw [hvz]
              simp only [List.length_cons, beq_eq_false_iff_ne]
              omega
            clear hvz hnil vr v0
            have hT0 := hT.2
            obtain ⟨n, hn⟩ : ∃ n, (TC ++ R).length = n := ⟨_, rfl⟩
            obtain ⟨RA, rc, rfl⟩ := slice_of hT.1 hn
            clear hn
            have hqs := Lib.hid fun (W : World) (hb : Below w.heap.size w W) => And.intro (pw_cell_below hb q1) (And.intro (pw_cell_below hb q2) (And.intro (pw_cell_below hb q9) (Kd.C_below hk9 hb)))
            have hqT := Lib.hid fun (W : World) (hb : Below wr.heap.size wr W) => hT.below hb
            replace q9 := pw_cell_below hT.2 q9
            clear hk9 q1 q2 hT
            go_wp2
            clear q9
            go_loopw [10] (fun s10 w2 => TA wr q s10 w2) (fun s10 _ => q - (intOf s10).toNat)
            case atStart => exact ⟨0, Nat.zero_le _, rfl, Below.refl _ _⟩
            case round =>
              obtain ⟨j, hj, rfl, hB⟩ := hrel
              have hb2 := (hqT.out _ hB).2
              obtain ⟨q1, q2, q9, hV⟩ := hqs.out _ hb2
              clear hV
              have hjl : j < l.length := by omega
              obtain ⟨ad', B4, d4, B5, d5, B9, d9, he, g0, g1, g2, g3, g4, g5, g6, g7, g8, g9, hK', hl9', hk9'⟩ := evt_at (Kd.C_below hC.out hb2) hjl
              cases he
              clear g0 g3 g4 g5 g6 g7 g8 g9 hK' hl9' hk9' q9
              have a2 : IntKind.i64.wrap ((j : Int) + 1) = (j : Int) + 1 := IntWalk.i64_in _ (by omega)
              by_cases hjq : j < q
              · have hno := hq.out.2 j hjl hjq
                generalize l[j] = z at *
                replace hB := Lib.hid hB
                replace hb2 := Lib.hid hb2
                by_cases c1 : z.f1 = x.f1
                · have b1 : (z.f1 != x.f1) = false := by simp [c1]
                  have b2 : (z.f2 != x.f2) = true := by
                    rw [bne_iff_ne]
                    intro c2
                    rw [c1, c2] at hno
                    simp at hno
                  clear hno
                  replace c1 := Lib.hid c1
                  go_wp2
                  go_quiet (fail)
                  go_wp2
                  go_roundw
                  case rel => exact ⟨j + 1, by omega, by go_num, below_then hB.out hB.out.size (pw_below_drewN (Below.refl _ _) _)⟩
                  case measure => simp [intOf]; omega
                · have b1 : (z.f1 != x.f1) = true := by simpa using c1
                  clear hno
                  replace c1 := Lib.hid c1
                  go_wp2
                  go_quiet (fail)
                  go_wp2
                  go_roundw
                  case rel => exact ⟨j + 1, by omega, by go_num, below_then hB.out hB.out.size (pw_below_drewN (Below.refl _ _) _)⟩
                  case measure => simp [intOf]; omega
              · obtain rfl : j = q := by omega
                have hye := hqm.out
                generalize l[j] = z at *
                simp only [Bool.and_eq_true, beq_iff_eq] at hye
                have b1 : (z.f1 != x.f1) = false := by simp [hye.1]
                have b2 : (z.f2 != x.f2) = false := by simp [hye.2]
                clear hye
                replace hB := Lib.hid hB
                replace hb2 := Lib.hid hb2
                go_wp2
                go_quiet (fail)
                go_wp2
                have hT3 := hqT.out _ (below_then hB.out hB.out.size (pw_below_drewN (Below.refl _ _) nq))
                clear q1 q2 g1 g2 hqm hq hqg hB hb2 hqT
                generalize wr.drewN nq = W3 at *
                replace hT3 := Lib.hid hT3
                go_loopw [4, 7, 11] (fun s4 s7 s11 w3 => T4 w l TC R i s4 s7 s11 w3) (fun _ _ s11 _ => i - (intOf s11).toNat)
                case atStart => exact ⟨0, Nat.zero_le _, rfl, by rw [show rW l i 0 = [] from rfl, List.append_nil], by rw [show rW l i 0 = [] from rfl, List.append_nil]; exact hT3.out⟩
                case round =>
                  clear hT3
                  obtain ⟨t, ht, rfl, rfl, hT⟩ := hrel
                  by_cases hti : t < i
                  · have htl : t < l.length := by omega
                    have hst := hstep.out t htl
                    have hsz := hlen.out t ht
                    obtain ⟨ad', B4, d4, B5, d5, B9, d9, he, g0, g1, g2, g3, g4, g5, g6, g7, g8, g9, hK', hl9', hk9'⟩ := evt_at hC.out htl
                    cases he
                    have hg4 := (evt_open hK').2.1
                    clear hK' hl9' hk9'
                    have hcall := hbl.out wr hT.2 t htl
                    have a3 : IntKind.i64.wrap ((t : Int) + 1) = (t : Int) + 1 := IntWalk.i64_in _ (by omega)
                    generalize hRW : rW l i t = RW at *
                    generalize hy : l[t] = y at *
                    generalize belowB l t j x y = bb at *
                    have hhas := Lib.hid fun W (hb : Below w.heap.size w W) k => has_any y B4 d4 B5 d5 B9 d9 k W (Kd.C_below hg4 hb)
                    have hgs := Lib.hid fun (W : World) (hb : Below w.heap.size w W) => And.intro (pw_cell_below hb g0) (And.intro (pw_cell_below hb g1) (And.intro (pw_cell_below hb g2) (And.intro (pw_cell_below hb g3) (And.intro (pw_cell_below hb g4) (And.intro (pw_cell_below hb g5) (And.intro (pw_cell_below hb g6) (And.intro (pw_cell_below hb g7) (And.intro (pw_cell_below hb g8) (pw_cell_below hb g9)))))))))
                    replace g0 := pw_cell_below hT.2 g0
                    replace g3 := pw_cell_below hT.2 g3
                    clear g1 g2 g4 g5 g6 g7 g8 g9 hg4
                    obtain ⟨n2, hn2⟩ : ∃ n, (TC ++ (R ++ RW)).length = n := ⟨_, rfl⟩
                    obtain ⟨RA2, rc2, rfl⟩ := slice_of hT.1 hn2
                    clear hn2
                    replace hT := Lib.hid hT
                    replace hRW := Lib.hid hRW
                    replace hy := Lib.hid hy
                    replace hcall := Lib.hid hcall
                    replace hsz := Lib.hid hsz
                    by_cases c0 : y.f0 = 1
                    · by_cases c3 : y.f3 = 0
                      · have hst' : rW l i (t + 1) = RW := by rw [hst, if_neg (by simp [c3]), List.append_nil]
                        have b1 : (y.f0 != 1) = false := by simp [c0]
                        have b2 : (y.f3 == 0) = true := by simp [c3]
                        replace hst' := Lib.hid hst'
                        replace hst := Lib.hid hst
                        replace c0 := Lib.hid c0
                        replace c3 := Lib.hid c3
                        clear hhas hgs
                        go_wp2
                        go_roundw
                        case rel => exact ⟨t + 1, by omega, by go_num, by rw [hst'.out], by rw [hst'.out]; exact hT.out⟩
                        case measure => simp [intOf]; omega
                      · have b1 : (y.f0 != 1) = false := by simp [c0]
                        have b2 : (y.f3 == 0) = false := by simp [c3]
                        cases bb with
                        | false =>
                          have hst' : rW l i (t + 1) = RW := by rw [hst, if_neg (by simp), List.append_nil]
                          replace hst' := Lib.hid hst'
                          replace hst := Lib.hid hst
                          replace c0 := Lib.hid c0
                          replace c3 := Lib.hid c3
                          clear hhas hgs
                          go_wp2_with (first | (go_at_call 34; refine hcall.out.mono ?_; rintro e W4 ⟨rfl, hb4⟩; have hT4 := Lib.hid (hT.out.below hb4); clear hb4) | go_in)
                          go_roundw
                          case rel => exact ⟨t + 1, by omega, by go_num, by rw [hst'.out], by rw [hst'.out]; exact hT4.out⟩
                          case measure => simp [intOf]; omega
                        | true =>
                          have hst' : rW l i (t + 1) = RW ++ rP y vs := by
                            rw [hst, if_pos]
                            simp [c0, c3]
                          replace hst' := Lib.hid hst'
                          replace hst := Lib.hid hst
                          replace c0 := Lib.hid c0
                          replace c3 := Lib.hid c3
                          go_wp2_with (first | (go_at_call 34; refine hcall.out.mono ?_; rintro e W4 ⟨rfl, hb4⟩; have hT4 := Lib.hid (hT.out.below hb4); clear hb4) | go_in)
                          clear g0 g3 hT hcall hst hbl hstep hlen
                          go_loopw [4, 7, 12] (fun s4 s7 s12 w5 => T5 w TC (R ++ RW) y vs s4 s7 s12 w5) (fun _ _ s12 _ => vs.length - (intOf s12).toNat)
                          case atStart => exact ⟨0, Nat.zero_le _, rfl, by rw [show rP y (vs.take 0) = [] from rfl, List.append_nil], by rw [show rP y (vs.take 0) = [] from rfl, List.append_nil]; exact hT4.out⟩
                          case round =>
                            clear hT4
                            obtain ⟨k, hk, rfl, rfl, hT⟩ := hrel
                            by_cases hkl : k < vs.length
                            · have hnx := rP_take (y := y) hkl
                              have hpl := rP_len y (vs.take k)
                              rw [List.length_take] at hpl
                              have hbw := hT.2
                              obtain ⟨_, _, _, hV⟩ := hqs.out w (Below.refl _ _)
                              obtain ⟨g0, g1, g2, g3, g4, g5, g6, g7, g8, g9⟩ := hgs.out _ hbw
                              obtain ⟨av, A3, c3', rfl, v0, v1, v2, v3, hx1, hx2⟩ := ver_at hV hkl
                              have hvv := Lib.hid fun (W : World) (hb : Below w.heap.size w W) => pw_cell_below hb v1
                              have hTS : Hid (∀ W', Below w.heap.size w W' → W'.cell? (ad.add (t * 10)) = some (.int .i64 y.f0) ∧ W'.cell? ⟨(ad.add (t * 10)).block, (ad.add (t * 10)).off + 1, none⟩ = some (.int .i64 y.f1) ∧ W'.cell? ⟨(ad.add (t * 10)).block, (ad.add (t * 10)).off + 2, none⟩ = some (.int .i64 y.f2) ∧ W'.cell? ⟨(ad.add (t * 10)).block, (ad.add (t * 10)).off + 3, none⟩ = some (.int .u64 y.f3) ∧ W'.cell? ⟨(ad.add (t * 10)).block, (ad.add (t * 10)).off + 4, none⟩ = some (.slice B4 y.f4.length d4) ∧ W'.cell? ⟨(ad.add (t * 10)).block, (ad.add (t * 10)).off + 5, none⟩ = some (.slice B5 y.f5.length d5) ∧ W'.cell? ⟨(ad.add (t * 10)).block, (ad.add (t * 10)).off + 6, none⟩ = some (.int .i64 y.f6.f0) ∧ W'.cell? ⟨(ad.add (t * 10)).block, (ad.add (t * 10)).off + 7, none⟩ = some (.int .i64 y.f6.f1) ∧ W'.cell? ⟨(ad.add (t * 10)).block, (ad.add (t * 10)).off + 8, none⟩ = some (.int .u64 y.f6.f2) ∧ W'.cell? ⟨(ad.add (t * 10)).block, (ad.add (t * 10)).off + 9, none⟩ = some (.slice B9 y.f6.f3.length d9) ∧ W'.cell? (av.add (k * 4)) = some (.string vs[k].f0) ∧ W'.cell? ⟨(av.add (k * 4)).block, (av.add (k * 4)).off + 1, none⟩ = some (.int .u64 vs[k].f1)) := fun W' hb => by
                                obtain ⟨g0, g1, g2, g3, g4, g5, g6, g7, g8, g9⟩ := hgs.out _ hb
                                exact ⟨g0, g1, g2, g3, g4, g5, g6, g7, g8, g9, pw_cell_below hb v0, pw_cell_below hb v1⟩
                              replace v0 := pw_cell_below hbw v0
                              replace v1 := pw_cell_below hbw v1
                              clear v2 v3 hx1 hx2 hV
                              have a4 : IntKind.i64.wrap ((k : Int) + 1) = (k : Int) + 1 := IntWalk.i64_in _ (by omega)
                              have hs5 : ((TC ++ (R ++ RW ++ rP y (vs.take k))).length + 1) * 16 ≤ 140737488355328 := by
                                have := hsz.out
                                simp only [List.length_append]
                                omega
                              unfold rB at hnx
                              generalize rP y (vs.take k) = P at *
                              generalize hP1 : rP y (vs.take (k + 1)) = P1 at *
                              generalize hv : vs[k] = v at *
                              obtain ⟨n5, hn5⟩ : ∃ n, (TC ++ (R ++ RW ++ P)).length = n := ⟨_, rfl⟩
                              obtain ⟨RA5, rc5, rfl⟩ := slice_of hT.1 hn5
                              rw [hn5] at hs5
                              obtain ⟨ob, hob⟩ : ∃ b, okT (R ++ RW ++ P) = b := ⟨_, rfl⟩
                              rw [hob]
                              clear hpl
                              replace hob := Lib.hid hob
                              replace hP1 := Lib.hid hP1
                              replace hv := Lib.hid hv
                              replace hn5 := Lib.hid hn5
                              replace hs5 := Lib.hid hs5
                              replace hbw := Lib.hid hbw
                              have hno : (v.f1 != y.f3 && wroteB y v.f0) = false → P1 = P := fun h => by rw [hnx, if_neg (by rw [h]; decide), List.append_nil]
                              have hye : (v.f1 != y.f3 && wroteB y v.f0) = true → P1 = P ++ [(y.f3, v.f1)] := fun h => by rw [hnx, if_pos h]
                              clear hnx
                              replace hno := Lib.hid hno
                              replace hye := Lib.hid hye
                              cases c5 : (v.f1 != y.f3) with
                              | false =>
                                have hp := Lib.hid (hno.out (by rw [c5]; rfl))
                                replace hT := Lib.hid hT
                                clear hno hye hhas
                                go_wp2
                                go_quiet (fail)
                                go_wp2
                                go_roundw
                                case rel => exact ⟨k + 1, by omega, by go_num, by rw [hP1.out, hp.out, hob.out], by rw [hP1.out, hp.out]; exact hT.out.below (pw_below_drewN (Below.refl _ _) _)⟩
                                case measure => simp [intOf]; omega
                              | true =>
                                have hbD : Below wr.heap.size wr wr.drew := below_drew (Below.refl _ _)
                                have hca := Lib.hid (hhas.out wr.drew (below_then hbw.out hbw.out.size hbD) v.f0)
                                have hTD := Lib.hid (hT.below hbD)
                                clear hbD hT hbw
                                have hHeld := Lib.hid (hTS.out _ hTD.out.2)
                                clear g0 g1 g2 g3 g4 g5 g6 g7 g8 g9 v0 v1
                                go_wp2
                                go_region_held3 (fun W' => W'.cell? (ad.add (t * 10)) = some (.int .i64 y.f0) ∧ W'.cell? ⟨(ad.add (t * 10)).block, (ad.add (t * 10)).off + 1, none⟩ = some (.int .i64 y.f1) ∧ W'.cell? ⟨(ad.add (t * 10)).block, (ad.add (t * 10)).off + 2, none⟩ = some (.int .i64 y.f2) ∧ W'.cell? ⟨(ad.add (t * 10)).block, (ad.add (t * 10)).off + 3, none⟩ = some (.int .u64 y.f3) ∧ W'.cell? ⟨(ad.add (t * 10)).block, (ad.add (t * 10)).off + 4, none⟩ = some (.slice B4 y.f4.length d4) ∧ W'.cell? ⟨(ad.add (t * 10)).block, (ad.add (t * 10)).off + 5, none⟩ = some (.slice B5 y.f5.length d5) ∧ W'.cell? ⟨(ad.add (t * 10)).block, (ad.add (t * 10)).off + 6, none⟩ = some (.int .i64 y.f6.f0) ∧ W'.cell? ⟨(ad.add (t * 10)).block, (ad.add (t * 10)).off + 7, none⟩ = some (.int .i64 y.f6.f1) ∧ W'.cell? ⟨(ad.add (t * 10)).block, (ad.add (t * 10)).off + 8, none⟩ = some (.int .u64 y.f6.f2) ∧ W'.cell? ⟨(ad.add (t * 10)).block, (ad.add (t * 10)).off + 9, none⟩ = some (.slice B9 y.f6.f3.length d9) ∧ W'.cell? (av.add (k * 4)) = some (.string v.f0) ∧ W'.cell? ⟨(av.add (k * 4)).block, (av.add (k * 4)).off + 1, none⟩ = some (.int .u64 v.f1)) (first | exact hTS.out _ hT6.out.2 | exact hHeld.out) (first | (go_at_call 35; refine hca.out.mono ?_; rintro e w6 ⟨rfl, hb6⟩; have hT6 := Lib.hid (hTD.out.below hb6); clear hb6))
                                cases c6 : wroteB y v.f0 with
                                | false =>
                                  have hp := Lib.hid (hno.out (by rw [c6, Bool.and_false]))
                                  go_wp2
                                  go_roundw
                                  case rel => exact ⟨k + 1, by omega, by go_num, by rw [hP1.out, hp.out, hob.out], by rw [hP1.out, hp.out]; exact hT6.out⟩
                                  case measure => simp [intOf]; omega
                                | true =>
                                  have hp := hye.out (by rw [c5, c6]; rfl)
                                  have hok : okT (R ++ RW ++ P1) = (ob && (v.f1 != 0)) := by
                                    rw [hp, ← List.append_assoc, okT_app (R ++ RW ++ P), hob.out]
                                    simp [okT]
                                  have hlist : TC ++ (R ++ RW ++ P1) = TC ++ (R ++ RW ++ P) ++ [(y.f3, v.f1)] := by rw [hp]; simp only [List.append_assoc]
                                  have hl1 : (TC ++ (R ++ RW ++ P) ++ [(y.f3, v.f1)]).length = n5 + 1 := by rw [List.length_append, hn5.out]; rfl
                                  have hs6 := hs5.out
                                  rw [← hn5.out] at hs6
                                  clear hno hye hhas hs5
                                  obtain ⟨_, _, _, y3, _⟩ := hgs.out _ hT6.out.2
                                  have z1 := hvv.out _ hT6.out.2
                                  have sT := Lib.hid (hT6.out.below (below_drew (Below.refl _ _)))
                                  clear hob
                                  replace hp := Lib.hid hp
                                  replace hs6 := Lib.hid hs6
                                  replace hl1 := Lib.hid hl1
                                  replace hok := Lib.hid hok
                                  replace hlist := Lib.hid hlist
                                  clear hTD hca hT6
                                  go_wp2
                                  generalize TC ++ (R ++ RW ++ P) = T at *
                                  go_region_law (refine append_shape (P := Try.prog) (R := RT) (w0 := w) (W := w6.drew) w.heap.size rfl (.tmp 181) (.tmp 193) 42 tTie (.agg #[.int .u64 0, .int .u64 0]) 2 16 rfl Try.underlying42 infoTie rfl (by decide) (by decide) (.slice RA5 n5 rc5) T (y.f3, v.f1) [.int .u64 y.f3, .int .u64 v.f1] (by simp [Act.eval]) (by simp [Act.eval]) rfl rfl (oneT _ _) (by exact sT.out.1) (by exact sT.out.2) (by exact sT.out.2.size) (by exact hs6.out) (n5 + 1) (by exact hl1.out) ?_; intro A1 cc1 w1 own1 bel1 _gr1; have z2 := hvv.out _ bel1; replace own1 := Lib.hid own1; replace bel1 := Lib.hid bel1; clear _gr1)
                                  all_goals
                                    cases ob
                                    all_goals
                                      go_wp2
                                      go_roundw
                                      case rel => exact ⟨k + 1, by omega, by go_num, by rw [hP1.out, hok.out]; rfl, by rw [hP1.out, hlist.out]; exact ⟨own1.out, bel1.out⟩⟩
                                      case measure => simp [intOf]; omega
                            · obtain rfl : k = vs.length := by omega
                              rw [List.take_of_length_le (Nat.le_refl _), List.append_assoc, ← hst'.out] at hT
                              rw [List.take_of_length_le (Nat.le_refl _), List.append_assoc, ← hst'.out]
                              replace hT := Lib.hid hT
                              clear hhas hgs
                              go_wp2
                              go_roundw
                              case rel => exact ⟨t + 1, by omega, by go_num, rfl, hT.out⟩
                              case measure => simp [intOf]; omega
                    · have hst' : rW l i (t + 1) = RW := by rw [hst, if_neg (by simp [c0]), List.append_nil]
                      have b1 : (y.f0 != 1) = true := by simp [c0]
                      replace hst' := Lib.hid hst'
                      replace hst := Lib.hid hst
                      replace c0 := Lib.hid c0
                      clear hhas hgs
                      go_wp2
                      go_roundw
                      case rel => exact ⟨t + 1, by omega, by go_num, by rw [hst'.out], by rw [hst'.out]; exact hT.out⟩
                      case measure => simp [intOf]; omega
                  · obtain rfl : t = i := by omega
                    have b1 : decide ((t : Int) < (t : Int)) = false := decide_eq_false (by omega)
                    replace hT := Lib.hid hT
                    clear hti
                    go_wp2
                    go_roundw
                    case rel => exact ⟨t + 1, by omega, by go_num, by rw [hnI.out], by rw [hnI.out, hTC.out]; exact hT.out⟩
                    case measure => simp [intOf]; omega
        · obtain rfl : i = l.length := by omega
          replace hT := Lib.hid hT
          go_wp2
          go_ret2
          exact ⟨_, rfl, hT.out⟩
end Go.Proofs.Ytiibjgnmdieicaa.Hist
/- spec's laws: meets, walked. -/
namespace Go.Proofs.Ytiibjgnmdieicaa.Hist
open Go.RowKit Go.Proofs.YtiibjgnmdieicaaW.PrintWords Go.Sort
theorem tie_at {W : World} {A : Option Addr} {T : List (Int × Int)} (h : RowC RT 2 W A T) {j : Nat} (hj : j < T.length) : ∃ ad, A = some ad ∧ W.cell? (ad.add (j * 2)) = some (.int .u64 T[j].1) ∧ W.cell? ⟨(ad.add (j * 2)).block, (ad.add (j * 2)).off + 1, none⟩ = some (.int .u64 T[j].2) := by
  obtain ⟨ad, ea, hc⟩ := h.2.2 (by omega)
  refine ⟨ad, ea, ?_⟩
  obtain ⟨cs, h1, h2, h3⟩ := hc j T[j] (List.getElem?_eq_getElem hj)
  unfold RT at h2
  subst h2
  have h0 := h3 0 _ rfl
  have h4 := h3 1 _ rfl
  rw [← Go.Deep.add_add] at h4
  exact ⟨by simpa using h0, h4⟩
def metB (L : List Int) (p : Int × Int) : Bool := !(decide (placeI L p.1 < 0) || decide (placeI L p.2 < 0) || decide (placeI L p.2 ≤ placeI L p.1))
def meetsB (L : List Int) (T : List (Int × Int)) : Bool := T.all (metB L)
def RelMt (w : World) (L : List Int) (T : List (Int × Int)) (s : Value) (wr : World) : Prop := ∃ j : Nat, j ≤ T.length ∧ s = .int .i64 j ∧ (∀ t, (ht : t < T.length) → t < j → metB L T[t] = true) ∧ Below w.heap.size w wr
set_option maxHeartbeats 4000000 in
set_option maxRecDepth 100000 in
theorem meets_any (A B : Option Addr) (c d : Nat) (L : List Int) (T : List (Int × Int)) (w : World) (hL : RowC RID 1 w A L) (hT : RowC RT 2 w B T) :
    Calls Try.prog 16 #[.slice A L.length c, .slice B T.length d] w fun e w' => e = .returned (.bool (meetsB L T)) ∧ Below w.heap.size w w' := by
  have hm : T.length ≤ 9223372036854775807 := hT.2.1
  obtain ⟨r, hr⟩ : ∃ r, r = meetsB L T := ⟨_, rfl⟩
  rw [← hr]
  unfold meetsB at hr
  have hpl := Lib.hid fun W (hb : Below w.heap.size w W) id => place_any A c L id W (hL.below hb)
  replace hr := Lib.hid hr
  replace hT := Lib.hid hT
  clear hL
  go_enter Try.func16, Try.ntmps16
  go_wp2
  go_loopw [5] (fun s wr => RelMt w L T s wr) (fun s _ => T.length - (intOf s).toNat)
  case atStart => exact ⟨0, Nat.zero_le _, rfl, (fun t _ h => absurd h (Nat.not_lt_zero t)), Below.refl _ _⟩
  case round =>
    obtain ⟨j, hj, rfl, hp, hB⟩ := hrel
    by_cases hlt : j < T.length
    · obtain ⟨ad, rfl, q0, q1⟩ := tie_at (hT.out.below hB) hlt
      have hnx : metB L T[j] = true → ∀ t, (ht : t < T.length) → t < j + 1 → metB L T[t] = true := fun h t ht h1 => by
        by_cases e : t = j
        · subst e; exact h
        · exact hp t ht (by omega)
      have hno : metB L T[j] = false → r = false := fun h => by
        rw [hr.out, List.all_eq_false]
        exact ⟨_, List.getElem_mem hlt, by rw [h]; decide⟩
      have hc1 := hpl.out wr hB T[j].1
      have hc2 := fun W (hb : Below wr.heap.size wr W) => And.intro (pw_cell_below hb q1) (hpl.out W (below_then hB hB.size hb) T[j].2)
      have a1 : IntKind.i64.wrap ((j : Int) + 1) = (j : Int) + 1 := IntWalk.i64_in _ (by omega)
      unfold metB at hnx hno
      generalize placeI L T[j].1 = x at *
      generalize placeI L T[j].2 = y at *
      replace hnx := Lib.hid hnx
      replace hno := Lib.hid hno
      replace hc1 := Lib.hid hc1
      replace hc2 := Lib.hid hc2
      replace hp := Lib.hid hp
      replace hB := Lib.hid hB
      go_wp2_with fail
      refine hc1.out.mono ?_
      rintro e W1 ⟨rfl, hb1⟩
      obtain ⟨r1, hc3⟩ := hc2.out W1 hb1
      replace hc3 := Lib.hid hc3
      have hB1 := Lib.hid (below_then hB.out hB.out.size hb1)
      clear q0 q1 hb1 hc1 hc2
      go_wp2_with fail
      refine hc3.out.mono ?_
      rintro e W2 ⟨rfl, hb2⟩
      have hB2 := Lib.hid (below_then hB1.out hB1.out.size hb2)
      clear r1 hb2 hc3
      cases b1 : decide (x < 0) with
      | true =>
        obtain rfl := hno.out (by rw [b1]; rfl)
        clear hnx
        go_wp2
        go_ret
        exact ⟨rfl, hB2.out⟩
      | false =>
        cases b2 : decide (y < 0) with
        | true =>
          obtain rfl := hno.out (by rw [b1, b2]; rfl)
          clear hnx
          go_wp2
          go_ret
          exact ⟨rfl, hB2.out⟩
        | false =>
          cases b3 : decide (y ≤ x) with
          | true =>
            obtain rfl := hno.out (by rw [b1, b2, b3]; rfl)
            clear hnx
            go_wp2
            go_ret
            exact ⟨rfl, hB2.out⟩
          | false =>
            have hn2 := Lib.hid (hnx.out (by rw [b1, b2, b3]; rfl))
            clear hno hnx
            go_wp2
            go_roundw
            case rel => exact ⟨j + 1, by omega, by go_num, hn2.out, hB2.out⟩
            case measure => simp [intOf]; omega
    · have hr1 : r = true := by
        rw [hr.out, List.all_eq_true]
        intro p hp'
        obtain ⟨t, ht, rfl⟩ := List.getElem_of_mem hp'
        exact hp t ht (by omega)
      subst hr1
      replace hB := Lib.hid hB
      replace hp := Lib.hid hp
      go_wp2
      go_ret
      exact ⟨rfl, hB.out⟩
/-- the constraints are met -/
theorem meets_of {L : List Int} {T : List (Int × Int)} (h : ∀ a b, (a, b) ∈ T → 0 ≤ placeI L a ∧ 0 ≤ placeI L b ∧ placeI L a < placeI L b) : meetsB L T = true := by
  unfold meetsB
  rw [List.all_eq_true]
  rintro ⟨a, b⟩ hp
  obtain ⟨h1, h2, h3⟩ := h a b hp
  unfold metB
  simp only [Bool.not_eq_true', Bool.or_eq_false_iff, decide_eq_false_iff_not]
  omega
theorem of_meets {L : List Int} {T : List (Int × Int)} (h : meetsB L T = true) {a b : Int} (hp : (a, b) ∈ T) : 0 ≤ placeI L a ∧ 0 ≤ placeI L b ∧ placeI L a < placeI L b := by
  unfold meetsB at h
  have := List.all_eq_true.1 h _ hp
  unfold metB at this
  simp only [Bool.not_eq_true', Bool.or_eq_false_iff, decide_eq_false_iff_not] at this
  omega
end Go.Proofs.Ytiibjgnmdieicaa.Hist
/- small words of the laws' walks. -/
namespace Go.Proofs.Ytiibjgnmdieicaa.Hist
open Go.RowKit Go.Proofs.YtiibjgnmdieicaaW.PrintWords Go.Sort
theorem LawIn.vrs {l : List Evt} (hh : heavyB l = false) (j : Nat) (hj : j < l.length) : l[j].f6.f3.length ≤ 400 := by
  have h1 := light hh
  have h2 := wt_sum l j hj
  unfold wtE at h2
  omega
theorem ties_row {w W : World} {T : List (Int × Int)} {v : Value} (h : TR w W T v) : ∃ A c, v = .slice A T.length c ∧ RowC RT 2 W A T ∧ Below w.heap.size w W := by
  obtain ⟨A, c, rfl⟩ := slice_of h.1 rfl
  exact ⟨A, c, rfl, (RowC.own h.1).1, h.2⟩
end Go.Proofs.Ytiibjgnmdieicaa.Hist
