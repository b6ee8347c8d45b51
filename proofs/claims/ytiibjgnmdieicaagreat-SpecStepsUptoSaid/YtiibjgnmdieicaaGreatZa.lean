/- the document's judge: its small words, walked. -/
import Derived.Test.YtiibjgnmdieicaaGreatVe
import Derived.Test.YtiibjgnmdieicaaGreatVc
namespace Go.Proofs.YtiibjgnmdieicaaGreat.Hist
open Go.RowKit Go.Proofs.YtiibjgnmdieicaaGreatW.PrintWords Go.Sort
set_option maxHeartbeats 4000000 in
set_option maxRecDepth 100000 in
theorem rwrote24_any (x : Evt) (A4 : Option Addr) (c4 : Nat) (A5 : Option Addr) (c5 : Nat) (A9 : Option Addr) (c9 : Nat) (k : ByteArray) (w : World) (hC : Kd.C kPai w A4 x.f4.length x.f4) :
    Calls Tryz.prog 72 #[.agg #[.int .i64 x.f0, .int .i64 x.f1, .int .i64 x.f2, .int .u64 x.f3, .slice A4 x.f4.length c4, .slice A5 x.f5.length c5, .int .i64 x.f6.f0, .int .i64 x.f6.f1, .int .u64 x.f6.f2, .slice A9 x.f6.f3.length c9], .string k] w fun e w' => e = .returned (.bool (wroteB x k)) ∧ Below w.heap.size w w' := by
  have hm : x.f4.length ≤ 9223372036854775807 := hC.2.1
  have hbe : Below w.heap.size w (w.alloc (.cells #[.int .i64 x.f0, .int .i64 x.f1, .int .i64 x.f2, .int .u64 x.f3, .slice A4 x.f4.length c4, .slice A5 x.f5.length c5, .int .i64 x.f6.f0, .int .i64 x.f6.f1, .int .u64 x.f6.f2, .slice A9 x.f6.f3.length c9] 38)) := below_alloc (Below.refl _ _) _
  have hX := heap_alloc_new w (.cells #[.int .i64 x.f0, .int .i64 x.f1, .int .i64 x.f2, .int .u64 x.f3, .slice A4 x.f4.length c4, .slice A5 x.f5.length c5, .int .i64 x.f6.f0, .int .i64 x.f6.f1, .int .u64 x.f6.f2, .slice A9 x.f6.f3.length c9] 38)
  replace hC := Lib.hid (Kd.C_below hC hbe)
  replace hX := Lib.hid hX
  replace hbe := Lib.hid hbe
  obtain ⟨r, hr⟩ : ∃ r, r = wroteB x k := ⟨_, rfl⟩
  rw [← hr]
  unfold wroteB at hr
  replace hr := Lib.hid hr
  go_enter Tryz.func72, Tryz.ntmps72
  go_wp2
  generalize (w.alloc (.cells #[.int .i64 x.f0, .int .i64 x.f1, .int .i64 x.f2, .int .u64 x.f3, .slice A4 x.f4.length c4, .slice A5 x.f5.length c5, .int .i64 x.f6.f0, .int .i64 x.f6.f1, .int .u64 x.f6.f2, .slice A9 x.f6.f3.length c9] 38)) = w1 at *
  generalize x.f4 = l at *
  go_loopw [5] (fun s wr => RelI w1 (fun p : Pai => eqS p.f0 k) l s wr) (fun s _ => l.length - (intOf s).toNat)
  case atStart => exact ⟨0, Nat.zero_le _, rfl, (fun t _ h => absurd h (Nat.not_lt_zero t)), Below.refl _ _⟩
  case round =>
    obtain ⟨j, hj, rfl, hp, hB⟩ := hrel
    have hX2 := blk_below hX.out hB
    have e4 := blk_cell hX2 4
    have el := blk_lt hX2
    simp only [List.getElem?_toArray, List.getElem?_cons_zero, List.getElem?_cons_succ] at e4
    replace hX2 := Lib.hid hX2
    by_cases hlt : j < l.length
    · obtain ⟨ad, rfl, q0, q1⟩ := pair_at (Kd.C_below hC.out hB) hlt
      have hnx : eqS l[j].f0 k = false → ∀ t, (ht : t < l.length) → t < j + 1 → eqS l[t].f0 k = false := fun h t ht h1 => by
        by_cases e : t = j
        · subst e; exact h
        · exact hp t ht (by omega)
      have hye : eqS l[j].f0 k = true → r = true := fun h => hr.out.trans (any_at (p := fun p : Pai => eqS p.f0 k) hlt h)
      unfold eqS at hnx hye
      replace hnx := Lib.hid hnx
      replace hye := Lib.hid hye
      replace hp := Lib.hid hp
      replace hB := Lib.hid hB
      cases hb : (l[j].f0.toList == k.toList) with
      | false =>
        have hnx2 := Lib.hid (hnx.out hb)
        go_wp2
        go_roundw
        case rel => exact ⟨j + 1, by omega, by go_num, hnx2.out, hB.out⟩
        case measure => simp [intOf]; omega
      | true =>
        have hq1 := Lib.hid (hye.out hb)
        go_wp2
        go_ret
        exact ⟨by rw [hq1.out]; rfl, below_then hbe.out hbe.out.size (hB.out)⟩
    · have hno := Lib.hid (hr.out.trans (any_no (p := fun p : Pai => eqS p.f0 k) (l := l) (fun t ht => hp t ht (by omega))))
      replace hB := Lib.hid hB
      replace hp := Lib.hid hp
      go_wp2
      go_ret
      exact ⟨by rw [hno.out]; rfl, below_then hbe.out hbe.out.size hB.out⟩
set_option maxHeartbeats 4000000 in
set_option maxRecDepth 100000 in
theorem rreq24_any (A : Option Addr) (c : Nat) (l : List Evt) (i : Nat) (hi : i < l.length) (w : World) (hC : kEvt.C w A l.length l) :
    Calls Tryz.prog 46 #[.slice A l.length c, .int .i64 i] w fun e w' => e = .returned (.int .i64 (fidx (reqB l[i]) (l.take i))) ∧ Below w.heap.size w w' := by
  have hm : l.length ≤ 9223372036854775807 := hC.2.1
  obtain ⟨r, hr⟩ : ∃ r, r = fidx (reqB l[i]) (l.take i) := ⟨_, rfl⟩
  rw [← hr]
  have hy : ∀ k (hk : k < l.length), k < i → (∀ t (ht : t < l.length), 0 ≤ t → t < k → reqB l[i] l[t] = false) → reqB l[i] l[k] = true → r = (k : Int) := fun k hk h1 h2 h3 => hr.trans (fidx_take h1 hk h3 fun t ht => h2 t ht (Nat.zero_le _))
  have hn : (∀ t (ht : t < l.length), 0 ≤ t → t < i → reqB l[i] l[t] = false) → r = -1 := fun h => hr.trans (fidx_take_no fun t ht => h t ht (Nat.zero_le _))
  clear hr
  obtain ⟨ad, A4, c4, A5, c5, A9, c9, rfl, q0, q1, q2, q3, q4, q5, q6, q7, q8, q9, hK, hl9, hk9⟩ := evt_at hC hi
  clear q0 q3 q4 q5 q6 q7 q8 q9 hK hl9 hk9
  generalize hy0 : l[i] = y at *
  replace hy0 := Lib.hid hy0
  have hqs := Lib.hid fun (W : World) (hb : Below w.heap.size w W) => And.intro (pw_cell_below hb q1) (pw_cell_below hb q2)
  clear q1 q2
  replace hC := Lib.hid hC
  replace hy := Lib.hid hy
  replace hn := Lib.hid hn
  go_enter Tryz.func46, Tryz.ntmps46
  go_wp2
  go_loopw [5] (fun s wr => RelSg w l 0 i (reqB y) s wr) (fun s _ => i - (intOf s).toNat)
  case atStart => exact ⟨0, Nat.le_refl _, .inr rfl, rfl, (fun t _ _ h => absurd h (Nat.not_lt_zero t)), Below.refl _ _⟩
  case round =>
    obtain ⟨j, h0, hj, rfl, hp, hB⟩ := hrel
    obtain ⟨q1, q2⟩ := hqs.out wr hB
    by_cases hlt : j < i
    · have hjl : j < l.length := by omega
      obtain ⟨ad', C4, e4, C5, e5, C9, e9, he, x0, x1, x2, x3, x4, x5, x6, x7, x8, x9, hK, hl9, hk9⟩ := evt_at (Kd.C_below hC.out hB) hjl
      cases he
      clear x3 x4 x5 x6 x7 x8 x9 hK hl9 hk9
      have hnx := seg_next (p := reqB y) hp hjl
      have hye := hy.out j hjl hlt hp
      have a1 : IntKind.i64.wrap ((j : Int) + 1) = (j : Int) + 1 := IntWalk.i64_in _ (by omega)
      unfold reqB at hnx hye
      generalize l[j] = e at *
      replace hnx := Lib.hid hnx
      replace hye := Lib.hid hye
      replace hp := Lib.hid hp
      replace hB := Lib.hid hB
      replace hj := Lib.hid hj
      replace h0 := Lib.hid h0
      cases b0 : (e.f0 != 3) <;> cases b1 : (e.f1 == y.f1) <;> cases b2 : (e.f2 == y.f2)
      case true.true.true =>
        obtain rfl := hye.out (by rw [b0, b1, b2]; rfl)
        go_wp2
        go_quiet (fail)
        go_wp2
        go_ret
        exact ⟨rfl, below_then hB.out hB.out.size (pw_below_drewN (Below.refl _ _) _)⟩
      all_goals
        have hnx2 := Lib.hid (hnx.out (by rw [b0, b1, b2]; rfl))
        clear hnx hye
        go_wp2
        go_quiet (fail)
        go_wp2
        go_roundw
        case rel => exact ⟨j + 1, Nat.zero_le _, .inl (by omega), by go_num, hnx2.out, below_then hB.out hB.out.size (pw_below_drewN (Below.refl _ _) _)⟩
        case measure => simp [intOf]; omega
    · obtain rfl := hn.out (fun t ht h1 h2 => hp t ht h1 (by omega))
      replace hB := Lib.hid hB
      replace hp := Lib.hid hp
      replace hj := Lib.hid hj
      clear q1 q2
      go_wp2
      go_ret
      exact ⟨rfl, hB.out⟩
set_option maxHeartbeats 4000000 in
set_option maxRecDepth 100000 in
theorem rwrite24_any (A : Option Addr) (c : Nat) (l : List Evt) (n : Nat) (hi : n ≤ l.length) (id : Int) (w : World) (hC : kEvt.C w A l.length l) :
    Calls Tryz.prog 69 #[.slice A l.length c, .int .i64 n, .int .u64 id] w fun e w' => e = .returned (.int .i64 (fidx (wrB id) (l.take n))) ∧ Below w.heap.size w w' := by
  have hm : l.length ≤ 9223372036854775807 := hC.2.1
  obtain ⟨r, hr⟩ : ∃ r, r = fidx (wrB id) (l.take n) := ⟨_, rfl⟩
  rw [← hr]
  have hy : ∀ k (hk : k < l.length), k < n → (∀ t (ht : t < l.length), 0 ≤ t → t < k → wrB id l[t] = false) → wrB id l[k] = true → r = (k : Int) := fun k hk h1 h2 h3 => hr.trans (fidx_take h1 hk h3 fun t ht => h2 t ht (Nat.zero_le _))
  have hn : (∀ t (ht : t < l.length), 0 ≤ t → t < n → wrB id l[t] = false) → r = -1 := fun h => hr.trans (fidx_take_no fun t ht => h t ht (Nat.zero_le _))
  clear hr
  replace hC := Lib.hid hC
  replace hy := Lib.hid hy
  replace hn := Lib.hid hn
  go_enter Tryz.func69, Tryz.ntmps69
  go_wp2
  go_loopw [7] (fun s wr => RelSg w l 0 n (wrB id) s wr) (fun s _ => n - (intOf s).toNat)
  case atStart => exact ⟨0, Nat.le_refl _, .inr rfl, rfl, (fun t _ _ h => absurd h (Nat.not_lt_zero t)), Below.refl _ _⟩
  case round =>
    obtain ⟨j, h0, hj, rfl, hp, hB⟩ := hrel
    by_cases hlt : j < n
    · have hjl : j < l.length := by omega
      obtain ⟨ad', C4, e4, C5, e5, C9, e9, rfl, x0, x1, x2, x3, x4, x5, x6, x7, x8, x9, hK, hl9, hk9⟩ := evt_at (Kd.C_below hC.out hB) hjl
      clear x1 x2 x4 x5 x6 x7 x8 x9 hK hl9 hk9
      have hnx := seg_next (p := wrB id) hp hjl
      have hye := hy.out j hjl hlt hp
      have a1 : IntKind.i64.wrap ((j : Int) + 1) = (j : Int) + 1 := IntWalk.i64_in _ (by omega)
      unfold wrB at hnx hye
      generalize l[j] = e at *
      replace hnx := Lib.hid hnx
      replace hye := Lib.hid hye
      replace hp := Lib.hid hp
      replace hB := Lib.hid hB
      replace hj := Lib.hid hj
      replace h0 := Lib.hid h0
      cases b0 : (e.f0 == 1) <;> cases b1 : (e.f3 == id) <;> cases b2 : (id != 0)
      case true.true.true =>
        obtain rfl := hye.out (by rw [b0, b1, b2]; rfl)
        go_wp2
        go_ret
        exact ⟨rfl, hB.out⟩
      all_goals
        have hnx2 := Lib.hid (hnx.out (by rw [b0, b1, b2]; rfl))
        clear hnx hye
        go_wp2
        go_roundw
        case rel => exact ⟨j + 1, Nat.zero_le _, .inl (by omega), by go_num, hnx2.out, hB.out⟩
        case measure => simp [intOf]; omega
    · obtain rfl := hn.out (fun t ht h1 h2 => hp t ht h1 (by omega))
      replace hB := Lib.hid hB
      replace hp := Lib.hid hp
      replace hj := Lib.hid hj
      go_wp2
      go_ret
      exact ⟨rfl, hB.out⟩
/-- the place of the answer behind a -/
def ansI (l : List Evt) (y : Evt) (a : Nat) : Int := if fidx (okA y) (l.drop (a + 1)) < 0 then -1 else fidx (okA y) (l.drop (a + 1)) + ((a : Int) + 1)
theorem ansI_at {l : List Evt} {y : Evt} {a k : Nat} (h1 : a + 1 ≤ k) (hk : k < l.length) (hp : okA y l[k] = true) (hb : ∀ t (ht : t < l.length), a + 1 ≤ t → t < k → okA y l[t] = false) : ansI l y a = (k : Int) := by
  have : fidx (okA y) (l.drop (a + 1)) = ((k - (a + 1) : Nat) : Int) := by
    refine fidx_at (by rw [List.length_drop]; omega) (fun t ht htk => ?_) ?_
    · rw [List.getElem_drop]
      exact hb _ _ (by omega) (by omega)
    · rw [List.getElem_drop]
      have e : a + 1 + (k - (a + 1)) = k := by omega
      simp only [e]
      exact hp
  unfold ansI
  rw [this, if_neg (by omega)]
  omega
theorem ansI_no {l : List Evt} {y : Evt} {a : Nat} (h : ∀ t (ht : t < l.length), a + 1 ≤ t → t < l.length → okA y l[t] = false) : ansI l y a = -1 := by
  unfold ansI
  rw [fidx_none fun t ht => ?_, if_pos (by decide)]
  rw [List.getElem_drop]
  rw [List.length_drop] at ht
  exact h _ (by omega) (by omega) (by omega)
theorem ansI_spec (l : List Evt) (y : Evt) (a : Nat) : (ansI l y a = -1 ∧ ∀ t (ht : t < l.length), a < t → okA y l[t] = false) ∨ ∃ k, ∃ hk : k < l.length, a < k ∧ ansI l y a = (k : Int) ∧ okA y l[k] = true ∧ ∀ t (ht : t < l.length), a < t → t < k → okA y l[t] = false := by
  by_cases h : ∃ k, ∃ hk : k < l.length, a < k ∧ okA y l[k] = true
  · obtain ⟨k, ⟨hk, h1, h2⟩, hm⟩ := least_of (p := fun k => ∃ hk : k < l.length, a < k ∧ okA y l[k] = true) h
    have hb : ∀ t (ht : t < l.length), a < t → t < k → okA y l[t] = false := fun t ht g1 g2 => by
      have := hm t g2
      rw [← Bool.not_eq_true]
      exact fun g => this ⟨ht, g1, g⟩
    exact .inr ⟨k, hk, h1, ansI_at h1 hk h2 fun t ht g1 g2 => hb t ht g1 g2, h2, hb⟩
  · have hb : ∀ t (ht : t < l.length), a < t → okA y l[t] = false := fun t ht g1 => by
      rw [← Bool.not_eq_true]
      exact fun g => h ⟨t, ht, g1, g⟩
    exact .inl ⟨ansI_no fun t ht g1 _ => hb t ht g1, hb⟩
set_option maxHeartbeats 4000000 in
set_option maxRecDepth 100000 in
theorem ranswer24_any (A : Option Addr) (c : Nat) (l : List Evt) (p : Nat) (hp : p < l.length) (w : World) (hC : kEvt.C w A l.length l) :
    Calls Tryz.prog 71 #[.slice A l.length c, .int .i64 p] w fun e w' => e = .returned (.int .i64 (ansI l l[p] p)) ∧ Below w.heap.size w w' := by
  have hm : l.length ≤ 9223372036854775807 := hC.2.1
  obtain ⟨r, hr⟩ : ∃ r, r = ansI l l[p] p := ⟨_, rfl⟩
  rw [← hr]
  have hy : ∀ k (hk : k < l.length), p + 1 ≤ k → (∀ t (ht : t < l.length), p + 1 ≤ t → t < k → okA l[p] l[t] = false) → okA l[p] l[k] = true → r = (k : Int) := fun k hk h1 h2 h3 => hr.trans (ansI_at h1 hk h3 h2)
  have hno : (∀ t (ht : t < l.length), p + 1 ≤ t → t < l.length → okA l[p] l[t] = false) → r = -1 := fun h => hr.trans (ansI_no h)
  clear hr
  obtain ⟨ad, A4, c4, A5, c5, A9, c9, rfl, q0, q1, q2, q3, q4, q5, q6, q7, q8, q9, hK, hl9, hk9⟩ := evt_at hC hp
  clear q0 q3 q4 q5 q6 q7 q8 q9 hK hl9 hk9
  generalize hy0 : l[p] = y at *
  replace hy0 := Lib.hid hy0
  have hqs := Lib.hid fun (W : World) (hb : Below w.heap.size w W) => And.intro (pw_cell_below hb q1) (pw_cell_below hb q2)
  clear q1 q2
  have a0 : IntKind.i64.wrap ((p : Int) + 1) = (p : Int) + 1 := IntWalk.i64_in _ (by omega)
  replace hC := Lib.hid hC
  replace hy := Lib.hid hy
  replace hno := Lib.hid hno
  go_enter Tryz.func71, Tryz.ntmps71
  go_wp2
  go_loopw [5] (fun s wr => RelSg w l (p + 1) l.length (okA y) s wr) (fun s _ => l.length - (intOf s).toNat)
  case atStart => exact ⟨p + 1, Nat.le_refl _, .inr rfl, by go_num, (fun t _ h1 h => absurd h1 (by omega)), Below.refl _ _⟩
  case round =>
    obtain ⟨j, h0, hj, rfl, hp2, hB⟩ := hrel
    obtain ⟨q1, q2⟩ := hqs.out wr hB
    by_cases hlt : j < l.length
    · obtain ⟨ad', C4, e4, C5, e5, C9, e9, he, x0, x1, x2, x3, x4, x5, x6, x7, x8, x9, hK, hl9, hk9⟩ := evt_at (Kd.C_below hC.out hB) hlt
      cases he
      clear x3 x4 x5 x6 x7 x8 x9 hK hl9 hk9
      have hnx := seg_next (p := okA y) hp2 hlt
      have hye := hy.out j hlt h0 hp2
      have a1 : IntKind.i64.wrap ((j : Int) + 1) = (j : Int) + 1 := IntWalk.i64_in _ (by omega)
      unfold okA at hnx hye
      generalize l[j] = e at *
      replace hnx := Lib.hid hnx
      replace hye := Lib.hid hye
      replace hp2 := Lib.hid hp2
      replace hB := Lib.hid hB
      replace hj := Lib.hid hj
      replace h0 := Lib.hid h0
      rcases or4 (e.f0 == 3) (e.f1 == y.f1) (e.f2 == y.f2) with c0 | ⟨c0, c1⟩ | ⟨c0, c1, c2⟩ | ⟨c0, c1, c2⟩
      case inr.inr.inr =>
        obtain rfl := hye.out (by rw [c0, c1, c2]; rfl)
        go_wp2
        go_quiet (fail)
        go_wp2
        go_ret
        exact ⟨rfl, below_then hB.out hB.out.size (pw_below_drewN (Below.refl _ _) _)⟩
      all_goals
        have hnx2 := Lib.hid (hnx.out (by first | (rw [c0, c1, c2]; rfl) | (rw [c0, c1]; rfl) | (rw [c0]; rfl)))
        clear hnx hye
        go_wp2
        go_quiet (fail)
        go_wp2
        go_roundw
        case rel => exact ⟨j + 1, by have := h0.out; omega, .inl (by omega), by go_num, hnx2.out, below_then hB.out hB.out.size (pw_below_drewN (Below.refl _ _) _)⟩
        case measure => simp [intOf]; omega
    · obtain rfl := hno.out (fun t ht h1 h2 => hp2 t ht h1 (by omega))
      have c0 : decide ((j : Int) < (l.length : Int)) = false := decide_eq_false (by omega)
      replace hB := Lib.hid hB
      replace hp2 := Lib.hid hp2
      replace hj := Lib.hid hj
      clear q1 q2
      go_wp2
      go_ret
      exact ⟨rfl, hB.out⟩
/-- is the write of a name answered so? -/
def AbP (l : List Evt) (id : Int) : Prop := ∃ w, ∃ hw : w < l.length, wrB id l[w] = true ∧ (∀ t (ht : t < l.length), t < w → wrB id l[t] = false) ∧ ∃ k, ∃ hk : k < l.length, ansI l l[w] w = (k : Int) ∧ l[k].f6.f1 = 3
set_option maxHeartbeats 4000000 in
set_option maxRecDepth 100000 in
theorem raborted_any (A : Option Addr) (c : Nat) (l : List Evt) (v : Ver) (VA : Option Addr) (vc : Nat) (w : World) (hC : kEvt.C w A l.length l) (r : Bool) (hr : r = true ↔ AbP l v.f1) :
    Calls Tryz.prog 48 #[.slice A l.length c, .agg #[.string v.f0, .int .u64 v.f1, .string v.f2, .slice VA v.f3.length vc]] w fun e w' => e = .returned (.bool r) ∧ Below w.heap.size w w' := by
  have hm : l.length ≤ 9223372036854775807 := hC.2.1
  generalize hnv : v.f3.length = nv at *
  have hbx := below_alloc (Below.refl w.heap.size w) (.cells #[.string v.f0, .int .u64 v.f1, .string v.f2, .slice VA nv vc] 49)
  have hw1 := Lib.hid (rwrite24_any A c l l.length (Nat.le_refl _) v.f1 _ (Kd.C_below hC hbx))
  have han := Lib.hid fun W (hb : Below w.heap.size w W) p hp => ranswer24_any A c l p hp W (Kd.C_below hC hb)
  replace hbx := Lib.hid hbx
  rw [List.take_of_length_le (Nat.le_refl _)] at hw1
  rcases fidx_spec (wrB v.f1) l with ⟨e, hn⟩ | ⟨j, hj, e, hp, hb⟩
  · rw [e] at hw1
    obtain rfl : r = false := by
      rw [← Bool.not_eq_true, hr]
      rintro ⟨u, hu, h1, _⟩
      rw [hn u hu] at h1
      cases h1
    replace e := Lib.hid e
    clear hr hn hC han
    go_enter Tryz.func48, Tryz.ntmps48
    go_wp2_with (first | (go_at_call 69; refine hw1.out.mono ?_; rintro e W3 ⟨rfl, hb3⟩; have hB3 := Lib.hid (below_then hbx.out hbx.out.size hb3); clear hb3) | go_in)
    go_ret
    exact ⟨rfl, hB3.out⟩
  · rw [e] at hw1
    have hr2 : r = true ↔ ∃ k, ∃ hk : k < l.length, ansI l l[j] j = (k : Int) ∧ l[k].f6.f1 = 3 := by
      rw [hr]
      constructor
      · rintro ⟨u, hu, h1, h2, h3⟩
        obtain rfl := first_one hj hu hp (fun t ht htj => hb t ht htj) h1 h2
        exact h3
      · exact fun h => ⟨j, hj, hp, fun t ht htj => hb t ht htj, h⟩
    clear hr
    have c0 : decide ((j : Int) < 0) = false := decide_eq_false (by omega)
    have han2 := Lib.hid fun W hb2 => han.out W hb2 j hj
    rcases ansI_spec l l[j] j with ⟨e2, hn⟩ | ⟨k, hk, _, e2, _⟩
    · rw [e2] at han2 hr2
      obtain rfl : r = false := by
        rw [← Bool.not_eq_true, hr2]
        rintro ⟨k, hk, h, _⟩
        omega
      replace e := Lib.hid e
      replace e2 := Lib.hid e2
      replace hn := Lib.hid hn
      clear hr2 hC han hb hp
      go_enter Tryz.func48, Tryz.ntmps48
      go_wp2_with (first | (go_at_call 69; refine hw1.out.mono ?_; rintro e W3 ⟨rfl, hb3⟩; have hB3 := Lib.hid (below_then hbx.out hbx.out.size hb3); have hca := Lib.hid (han2.out W3 hB3.out); clear hb3) | (go_at_call 71; refine hca.out.mono ?_; rintro e W4 ⟨rfl, hb4⟩; have hB4 := Lib.hid (below_then hB3.out hB3.out.size hb4); clear hb4) | go_in)
      go_ret
      exact ⟨rfl, hB4.out⟩
    · rw [e2] at han2 hr2
      have hr3 : r = (l[k].f6.f1 == 3) := by
        rw [Bool.eq_iff_iff, hr2, beq_iff_eq]
        constructor
        · rintro ⟨k', hk', h1, h2⟩
          obtain rfl : k = k' := by omega
          exact h2
        · exact fun h => ⟨k, hk, rfl, h⟩
      obtain ⟨ad, C4, e4, C5, e5, C9, e9, rfl, x0, x1, x2, x3, x4, x5, x6, x7, x8, x9, hK, hl9, hk9⟩ := evt_at hC hk
      clear x0 x1 x2 x3 x4 x5 x6 x8 x9 hK hl9 hk9
      have hx7 := Lib.hid fun (W : World) (hb : Below w.heap.size w W) => pw_cell_below hb x7
      generalize l[k] = z at *
      have c1 : decide ((0 : Int) ≤ (k : Int)) = true := decide_eq_true (by omega)
      replace e := Lib.hid e
      replace e2 := Lib.hid e2
      clear hr2 hC han hb hp x7
      subst hr3
      go_enter Tryz.func48, Tryz.ntmps48
      go_wp2_with (first | (go_at_call 69; refine hw1.out.mono ?_; rintro e W3 ⟨rfl, hb3⟩; have hB3 := Lib.hid (below_then hbx.out hbx.out.size hb3); have hca := Lib.hid (han2.out W3 hB3.out); clear hb3) | (go_at_call 71; refine hca.out.mono ?_; rintro e W4 ⟨rfl, hb4⟩; have hB4 := Lib.hid (below_then hB3.out hB3.out.size hb4); have x7 := hx7.out W4 hB4.out; clear hb4) | go_in)
      go_ret
      exact ⟨rfl, hB4.out⟩
end Go.Proofs.YtiibjgnmdieicaaGreat.Hist
/- the document's judge: torn, lost, walked. -/
namespace Go.Proofs.YtiibjgnmdieicaaGreat.Hist
open Go.RowKit Go.Proofs.YtiibjgnmdieicaaGreatW.PrintWords Go.Sort
/-- is a told version below one that was told beside it? -/
def TornP (l : List Evt) (i : Nat) (key : ByteArray) (id : Int) (u : Ver) : Prop := ∃ w, ∃ hw : w < l.length, w < i ∧ wrB u.f1 l[w] = true ∧ (∀ t (ht : t < l.length), t < w → wrB u.f1 l[t] = false) ∧ id < u.f1 ∧ wroteB l[w] key = true
def RelTn (w : World) (l : List Evt) (i : Nat) (key : ByteArray) (id : Int) (vs : List Ver) (s7 s9 : Value) (wr : World) : Prop := ∃ k : Nat, k ≤ vs.length ∧ s9 = .int .i64 k ∧ (∃ m : Int, s7 = .int .u64 m ∧ 0 ≤ m ∧ (0 < m ↔ ∃ t, ∃ ht : t < vs.length, t < k ∧ TornP l i key id vs[t])) ∧ Below w.heap.size w wr
theorem torn_next {vs : List Ver} {k : Nat} (hk : k < vs.length) {p : Ver → Prop} {m m' : Int} (h : 0 < m ↔ ∃ t, ∃ ht : t < vs.length, t < k ∧ p vs[t]) (hm : 0 < m' ↔ 0 < m ∨ p vs[k]) : 0 < m' ↔ ∃ t, ∃ ht : t < vs.length, t < k + 1 ∧ p vs[t] := by
  rw [hm, h]
  constructor
  · rintro (⟨t, ht, h1, h2⟩ | h2)
    · exact ⟨t, ht, by omega, h2⟩
    · exact ⟨k, hk, Nat.lt_succ_self k, h2⟩
  · rintro ⟨t, ht, h1, h2⟩
    by_cases e : t = k
    · subst e
      exact .inr h2
    · exact .inl ⟨t, ht, by omega, h2⟩
set_option maxHeartbeats 16000000 in
set_option maxRecDepth 100000 in
theorem rtorn_any (A : Option Addr) (c : Nat) (l : List Evt) (i : Nat) (hi : i < l.length) (v : Ver) (VA : Option Addr) (vc : Nat) (hv0 : 0 ≤ v.f1) (w : World) (hC : kEvt.C w A l.length l) :
    Calls Tryz.prog 49 #[.slice A l.length c, .int .i64 i, .agg #[.string v.f0, .int .u64 v.f1, .string v.f2, .slice VA v.f3.length vc]] w fun e w' => ∃ m : Int, e = .returned (.int .u64 m) ∧ 0 ≤ m ∧ (0 < m ↔ ∃ t, ∃ ht : t < l[i].f6.f3.length, TornP l i v.f0 v.f1 l[i].f6.f3[t]) ∧ Below w.heap.size w w' := by
  have hm : l.length ≤ 9223372036854775807 := hC.2.1
  have hwr := Lib.hid fun W (hb : Below w.heap.size w W) id => rwrite24_any A c l i (by omega) id W (Kd.C_below hC hb)
  have hev : Hid (∀ j (hj : j < l.length), ∃ ad B4 b4 B5 b5 B9 b9, A = some ad ∧ ∀ W', Below w.heap.size w W' → (W'.cell? (ad.add (j * 10)) = some (.int .i64 l[j].f0) ∧ W'.cell? ⟨(ad.add (j * 10)).block, (ad.add (j * 10)).off + 1, none⟩ = some (.int .i64 l[j].f1) ∧ W'.cell? ⟨(ad.add (j * 10)).block, (ad.add (j * 10)).off + 2, none⟩ = some (.int .i64 l[j].f2) ∧ W'.cell? ⟨(ad.add (j * 10)).block, (ad.add (j * 10)).off + 3, none⟩ = some (.int .u64 l[j].f3) ∧ W'.cell? ⟨(ad.add (j * 10)).block, (ad.add (j * 10)).off + 4, none⟩ = some (.slice B4 l[j].f4.length b4) ∧ W'.cell? ⟨(ad.add (j * 10)).block, (ad.add (j * 10)).off + 5, none⟩ = some (.slice B5 l[j].f5.length b5) ∧ W'.cell? ⟨(ad.add (j * 10)).block, (ad.add (j * 10)).off + 6, none⟩ = some (.int .i64 l[j].f6.f0) ∧ W'.cell? ⟨(ad.add (j * 10)).block, (ad.add (j * 10)).off + 7, none⟩ = some (.int .i64 l[j].f6.f1) ∧ W'.cell? ⟨(ad.add (j * 10)).block, (ad.add (j * 10)).off + 8, none⟩ = some (.int .u64 l[j].f6.f2) ∧ W'.cell? ⟨(ad.add (j * 10)).block, (ad.add (j * 10)).off + 9, none⟩ = some (.slice B9 l[j].f6.f3.length b9)) ∧ Kd.C kPai W' B4 l[j].f4.length l[j].f4) := Lib.hid fun j hj => by
    obtain ⟨ad, B4, b4, B5, b5, B9, b9, e, g0, g1, g2, g3, g4, g5, g6, g7, g8, g9, hK, _, _⟩ := evt_at hC hj
    have hk4 := (evt_open hK).2.1
    exact ⟨ad, B4, b4, B5, b5, B9, b9, e, fun W' hb => ⟨⟨pw_cell_below hb g0, pw_cell_below hb g1, pw_cell_below hb g2, pw_cell_below hb g3, pw_cell_below hb g4, pw_cell_below hb g5, pw_cell_below hb g6, pw_cell_below hb g7, pw_cell_below hb g8, pw_cell_below hb g9⟩, Kd.C_below hk4 hb⟩⟩
  obtain ⟨ad, A4, c4, A5, c5, A9, c9, rfl, q0, q1, q2, q3, q4, q5, q6, q7, q8, q9, hK, hl9, hk9⟩ := evt_at hC hi
  clear q0 q1 q2 q3 q4 q5 q6 q7 q8 hK hl9
  have hmv : l[i].f6.f3.length ≤ 9223372036854775807 := hk9.2.1
  generalize hvv0 : l[i].f6.f3 = vs at *
  replace hvv0 := Lib.hid hvv0
  obtain ⟨w2, hw2⟩ : ∃ w2, w2 = w.alloc (.cells #[.string v.f0, .int .u64 v.f1, .string v.f2, .slice VA v.f3.length vc] 49) := ⟨_, rfl⟩
  have hbe : Below w.heap.size w w2 := by rw [hw2]; exact below_alloc (Below.refl _ _) _
  have hX : w2.heap[w.heap.size]? = some (.cells #[.string v.f0, .int .u64 v.f1, .string v.f2, .slice VA v.f3.length vc] 49 (0, 0)) := by
    rw [hw2]
    exact heap_alloc_new w _
  have hV := Lib.hid fun (W : World) (hb : Below w2.heap.size w2 W) => Kd.C_below hk9 (below_then hbe hbe.size hb)
  have q9' := pw_cell_below hbe q9
  rw [hw2] at q9'
  clear hk9 hC q9
  replace hX := Lib.hid hX
  replace hbe := Lib.hid hbe
  replace hw2 := Lib.hid hw2
  go_enter Tryz.func49, Tryz.ntmps49
  go_wp2
  rw [← hw2.out]
  clear q9'
  go_loopw [7, 9] (fun s7 s9 wr => RelTn w2 l i v.f0 v.f1 vs s7 s9 wr) (fun _ s9 _ => vs.length - (intOf s9).toNat)
  case atStart => exact ⟨0, Nat.zero_le _, rfl, ⟨0, rfl, Int.le_refl _, ⟨fun h => absurd h (by decide), fun ⟨t, _, h, _⟩ => absurd h (Nat.not_lt_zero t)⟩⟩, Below.refl _ _⟩
  case round =>
    obtain ⟨k, hk, rfl, ⟨m, rfl, hm0, hmi⟩, hB⟩ := hrel
    have hX2 := blk_below hX.out hB
    have e0 := blk_cell hX2 0
    have e1 := blk_cell hX2 1
    have el := blk_lt hX2
    simp only [List.getElem?_toArray, List.getElem?_cons_zero, List.getElem?_cons_succ] at e0 e1
    replace hX2 := Lib.hid hX2
    by_cases hkl : k < vs.length
    · obtain ⟨av, A3, c3, hav, z0, z1, z2, z3, hx1, hx2⟩ := ver_at (hV.out _ hB) hkl
      obtain rfl := hav
      clear z0 z2 z3 hx1 hx2
      have a4 : IntKind.i64.wrap ((k : Int) + 1) = (k : Int) + 1 := IntWalk.i64_in _ (by omega)
      have hBw := below_then hbe.out hbe.out.size hB
      have hca := hwr.out wr hBw vs[k].f1
      have hnx := fun m' hm => torn_next (m' := m') hkl (p := TornP l i v.f0 v.f1) hmi hm
      have hz1 := Lib.hid fun (W : World) (hb : Below wr.heap.size wr W) => pw_cell_below hb z1
      have hee := Lib.hid fun (W : World) (hb : Below wr.heap.size wr W) => And.intro (pw_cell_below hb e0) (pw_cell_below hb e1)
      have hBs := Lib.hid fun (W : World) (hb : Below wr.heap.size wr W) => below_then hB hB.size hb
      clear hmi hB
      generalize vs[k] = u at *
      replace hBw := Lib.hid hBw
      rcases fidx_spec (wrB u.f1) (l.take i) with ⟨e, hn⟩ | ⟨j, hj, e, hp, hb⟩
      · have hn2 := Lib.hid (hnx m ⟨.inl, fun h => h.elim id fun ⟨x, hx, h1, h2, _⟩ => by
          have := hn x (by rw [List.length_take]; omega)
          rw [List.getElem_take, h2] at this
          cases this⟩)
        rw [e] at hca
        replace e := Lib.hid e
        replace hca := Lib.hid hca
        clear hnx hn
        go_wp2_with (first | (go_at_call 69; refine hca.out.mono ?_; rintro e W3 ⟨rfl, hb3⟩; have hB3 := Lib.hid (hBs.out _ hb3); have z1 := hz1.out _ hb3; have e01 := hee.out _ hb3; obtain ⟨e0, e1⟩ := e01; have hb3 := Lib.hid hb3) | go_in)
        go_quiet (fail)
        go_wp2
        go_roundw
        case rel => exact ⟨k + 1, by omega, by go_num, ⟨m, rfl, hm0, hn2.out⟩, below_then hB3.out hB3.out.size (pw_below_drewN (Below.refl _ _) _)⟩
        case measure => simp [intOf]; omega
      · rw [List.length_take] at hj
        have hjl : j < l.length := by omega
        rw [List.getElem_take] at hp
        have hb2 : ∀ t (ht : t < l.length), t < j → wrB u.f1 l[t] = false := fun t ht htj => by
          have := hb t (by rw [List.length_take]; omega) htj
          rw [List.getElem_take] at this
          exact this
        have ht1 : TornP l i v.f0 v.f1 u ↔ v.f1 < u.f1 ∧ wroteB l[j] v.f0 = true := by
          constructor
          · rintro ⟨x, hx, h1, h2, h3, h4, h5⟩
            obtain rfl := first_one hjl hx hp hb2 h2 h3
            exact ⟨h4, h5⟩
          · rintro ⟨h4, h5⟩
            exact ⟨j, hjl, by omega, hp, hb2, h4, h5⟩
        rw [ht1] at hnx
        rw [e] at hca
        have c0 : decide ((0 : Int) ≤ (j : Int)) = true := decide_eq_true (by omega)
        obtain ⟨_, B4, b4, B5, b5, B9, b9, he, hcs⟩ := hev.out j hjl
        cases he
        clear ht1 hp hb hb2
        generalize l[j] = y at *
        replace e := Lib.hid e
        replace hca := Lib.hid hca
        replace hcs := Lib.hid hcs
        by_cases h1 : v.f1 < u.f1
        · by_cases h2 : m < u.f1
          · have c1 : decide (v.f1 < u.f1) = true := decide_eq_true h1
            have c2 : decide (m < u.f1) = true := decide_eq_true h2
            have hny : wroteB y v.f0 = true → (0 < u.f1 ↔ ∃ t, ∃ ht : t < vs.length, t < k + 1 ∧ TornP l i v.f0 v.f1 vs[t]) := fun h => hnx u.f1 ⟨fun _ => .inr ⟨h1, h⟩, fun _ => by omega⟩
            have hnn : wroteB y v.f0 = false → (0 < m ↔ ∃ t, ∃ ht : t < vs.length, t < k + 1 ∧ TornP l i v.f0 v.f1 vs[t]) := fun h => hnx m ⟨.inl, fun g => g.elim id fun g => by rw [h] at g; cases g.2⟩
            have h3 : 0 ≤ u.f1 := by omega
            replace h1 := Lib.hid h1
            replace h2 := Lib.hid h2
            replace hny := Lib.hid hny
            replace hnn := Lib.hid hnn
            replace h3 := Lib.hid h3
            clear hnx
            go_wp2_with (first | (go_at_call 69; refine hca.out.mono ?_; rintro e W3 ⟨rfl, hb3⟩; have hB3 := Lib.hid (hBs.out _ hb3); have z1 := hz1.out _ hb3; have e01 := hee.out _ hb3; obtain ⟨e0, e1⟩ := e01; have hb3 := Lib.hid hb3) | go_in)
            have hbD := below_then hb3.out hb3.out.size (below_drew (Below.refl W3.heap.size W3))
            have hS : Hid (∀ W', Below wr.heap.size wr W' → W'.cell? (ad.add (j * 10)) = some (.int .i64 y.f0) ∧ W'.cell? ⟨(ad.add (j * 10)).block, (ad.add (j * 10)).off + 1, none⟩ = some (.int .i64 y.f1) ∧ W'.cell? ⟨(ad.add (j * 10)).block, (ad.add (j * 10)).off + 2, none⟩ = some (.int .i64 y.f2) ∧ W'.cell? ⟨(ad.add (j * 10)).block, (ad.add (j * 10)).off + 3, none⟩ = some (.int .u64 y.f3) ∧ W'.cell? ⟨(ad.add (j * 10)).block, (ad.add (j * 10)).off + 4, none⟩ = some (.slice B4 y.f4.length b4) ∧ W'.cell? ⟨(ad.add (j * 10)).block, (ad.add (j * 10)).off + 5, none⟩ = some (.slice B5 y.f5.length b5) ∧ W'.cell? ⟨(ad.add (j * 10)).block, (ad.add (j * 10)).off + 6, none⟩ = some (.int .i64 y.f6.f0) ∧ W'.cell? ⟨(ad.add (j * 10)).block, (ad.add (j * 10)).off + 7, none⟩ = some (.int .i64 y.f6.f1) ∧ W'.cell? ⟨(ad.add (j * 10)).block, (ad.add (j * 10)).off + 8, none⟩ = some (.int .u64 y.f6.f2) ∧ W'.cell? ⟨(ad.add (j * 10)).block, (ad.add (j * 10)).off + 9, none⟩ = some (.slice B9 y.f6.f3.length b9) ∧ W'.cell? ⟨(av.add (k * 4)).block, (av.add (k * 4)).off + 1, none⟩ = some (.int .u64 u.f1) ∧ W'.cell? ⟨w.heap.size, 0, none⟩ = some (.string v.f0) ∧ W'.cell? ⟨w.heap.size, 1, none⟩ = some (.int .u64 v.f1)) := Lib.hid fun W' hb => by
              obtain ⟨g0, g1, g2, g3, g4, g5, g6, g7, g8, g9⟩ := (hcs.out W' (below_then hBw.out hBw.out.size hb)).1
              obtain ⟨f0, f1⟩ := hee.out W' hb
              exact ⟨g0, g1, g2, g3, g4, g5, g6, g7, g8, g9, hz1.out W' hb, f0, f1⟩
            have hHeld := Lib.hid (hS.out _ hbD)
            have hcw := Lib.hid (rwrote24_any y B4 b4 B5 b5 B9 b9 v.f0 W3.drew (hcs.out _ (below_then hBw.out hBw.out.size hbD)).2)
            replace hbD := Lib.hid hbD
            clear z1 e0 e1 hca
            go_region_held3 (fun W' => W'.cell? (ad.add (j * 10)) = some (.int .i64 y.f0) ∧ W'.cell? ⟨(ad.add (j * 10)).block, (ad.add (j * 10)).off + 1, none⟩ = some (.int .i64 y.f1) ∧ W'.cell? ⟨(ad.add (j * 10)).block, (ad.add (j * 10)).off + 2, none⟩ = some (.int .i64 y.f2) ∧ W'.cell? ⟨(ad.add (j * 10)).block, (ad.add (j * 10)).off + 3, none⟩ = some (.int .u64 y.f3) ∧ W'.cell? ⟨(ad.add (j * 10)).block, (ad.add (j * 10)).off + 4, none⟩ = some (.slice B4 y.f4.length b4) ∧ W'.cell? ⟨(ad.add (j * 10)).block, (ad.add (j * 10)).off + 5, none⟩ = some (.slice B5 y.f5.length b5) ∧ W'.cell? ⟨(ad.add (j * 10)).block, (ad.add (j * 10)).off + 6, none⟩ = some (.int .i64 y.f6.f0) ∧ W'.cell? ⟨(ad.add (j * 10)).block, (ad.add (j * 10)).off + 7, none⟩ = some (.int .i64 y.f6.f1) ∧ W'.cell? ⟨(ad.add (j * 10)).block, (ad.add (j * 10)).off + 8, none⟩ = some (.int .u64 y.f6.f2) ∧ W'.cell? ⟨(ad.add (j * 10)).block, (ad.add (j * 10)).off + 9, none⟩ = some (.slice B9 y.f6.f3.length b9) ∧ W'.cell? ⟨(av.add (k * 4)).block, (av.add (k * 4)).off + 1, none⟩ = some (.int .u64 u.f1) ∧ W'.cell? ⟨w.heap.size, 0, none⟩ = some (.string v.f0) ∧ W'.cell? ⟨w.heap.size, 1, none⟩ = some (.int .u64 v.f1)) (first | exact hS.out _ hb6'.out | exact hHeld.out) (first | (go_at_call 72; refine hcw.out.mono ?_; rintro e w6 ⟨rfl, hb6⟩; have hb6' := Lib.hid (below_then hbD.out hbD.out.size hb6); clear hb6))
            cases c3 : wroteB y v.f0 with
            | true =>
              have z1 := hz1.out _ hb6'.out
              have hn2 := Lib.hid (hny.out c3)
              go_wp2
              go_roundw
              case rel => exact ⟨k + 1, by omega, by go_num, ⟨u.f1, rfl, h3.out, hn2.out⟩, hBs.out _ hb6'.out⟩
              case measure => simp [intOf]; omega
            | false =>
              have hn2 := Lib.hid (hnn.out c3)
              go_wp2
              go_roundw
              case rel => exact ⟨k + 1, by omega, by go_num, ⟨m, rfl, hm0, hn2.out⟩, hBs.out _ hb6'.out⟩
              case measure => simp [intOf]; omega
          · have c1 : decide (v.f1 < u.f1) = true := decide_eq_true h1
            have c2 : decide (m < u.f1) = false := decide_eq_false h2
            have hn2 := Lib.hid (hnx m ⟨.inl, fun _ => by omega⟩)
            replace h1 := Lib.hid h1
            replace h2 := Lib.hid h2
            clear hnx
            go_wp2_with (first | (go_at_call 69; refine hca.out.mono ?_; rintro e W3 ⟨rfl, hb3⟩; have hB3 := Lib.hid (hBs.out _ hb3); have z1 := hz1.out _ hb3; have e01 := hee.out _ hb3; obtain ⟨e0, e1⟩ := e01; have hb3 := Lib.hid hb3) | go_in)
            go_quiet (fail)
            go_wp2
            go_roundw
            case rel => exact ⟨k + 1, by omega, by go_num, ⟨m, rfl, hm0, hn2.out⟩, below_then hB3.out hB3.out.size (pw_below_drewN (Below.refl _ _) _)⟩
            case measure => simp [intOf]; omega
        · have c1 : decide (v.f1 < u.f1) = false := decide_eq_false h1
          have hn2 := Lib.hid (hnx m ⟨.inl, fun h => h.elim id fun g => absurd g.1 h1⟩)
          replace h1 := Lib.hid h1
          clear hnx
          go_wp2_with (first | (go_at_call 69; refine hca.out.mono ?_; rintro e W3 ⟨rfl, hb3⟩; have hB3 := Lib.hid (hBs.out _ hb3); have z1 := hz1.out _ hb3; have e01 := hee.out _ hb3; obtain ⟨e0, e1⟩ := e01; have hb3 := Lib.hid hb3) | go_in)
          go_quiet (fail)
          go_wp2
          go_roundw
          case rel => exact ⟨k + 1, by omega, by go_num, ⟨m, rfl, hm0, hn2.out⟩, below_then hB3.out hB3.out.size (pw_below_drewN (Below.refl _ _) _)⟩
          case measure => simp [intOf]; omega
    · obtain rfl : k = vs.length := by omega
      have hfin : 0 < m ↔ ∃ t, ∃ ht : t < vs.length, TornP l i v.f0 v.f1 vs[t] := hmi.trans ⟨fun ⟨t, ht, _, h⟩ => ⟨t, ht, h⟩, fun ⟨t, ht, h⟩ => ⟨t, ht, ht, h⟩⟩
      have hBw := Lib.hid (below_then hbe.out hbe.out.size hB)
      replace hfin := Lib.hid hfin
      clear hmi hB
      go_wp2
      go_ret
      exact ⟨m, rfl, hm0, hfin.out, hBw.out⟩
/-- is a told version below a write that was done ahead of the read? -/
def LostP (l : List Evt) (j : Nat) (key : ByteArray) (id : Int) (t : Nat) : Prop := ∃ ht : t < l.length, l[t].f0 = 1 ∧ id < l[t].f3 ∧ wroteB l[t] key = true ∧ ∃ k, ∃ hk : k < l.length, ansI l l[t] t = (k : Int) ∧ k < j ∧ l[k].f6.f1 = 1
def RelLs (w : World) (l : List Evt) (j : Nat) (key : ByteArray) (id : Int) (s7 s8 : Value) (wr : World) : Prop := ∃ k : Nat, k ≤ j ∧ s8 = .int .i64 k ∧ (∃ m : Int, s7 = .int .u64 m ∧ 0 ≤ m ∧ (0 < m ↔ ∃ t, t < k ∧ LostP l j key id t)) ∧ Below w.heap.size w wr
theorem lost_next {k : Nat} {p : Nat → Prop} {m m' : Int} (h : 0 < m ↔ ∃ t, t < k ∧ p t) (hm : 0 < m' ↔ 0 < m ∨ p k) : 0 < m' ↔ ∃ t, t < k + 1 ∧ p t := by
  rw [hm, h]
  constructor
  · rintro (⟨t, h1, h2⟩ | h2)
    · exact ⟨t, by omega, h2⟩
    · exact ⟨k, Nat.lt_succ_self k, h2⟩
  · rintro ⟨t, h1, h2⟩
    by_cases e : t = k
    · subst e
      exact .inr h2
    · exact .inl ⟨t, by omega, h2⟩
set_option maxHeartbeats 32000000 in
set_option maxRecDepth 100000 in
theorem rlost_any (A : Option Addr) (c : Nat) (l : List Evt) (j : Nat) (hj : j ≤ l.length) (v : Ver) (VA : Option Addr) (vc : Nat) (hv0 : 0 ≤ v.f1) (w : World) (hC : kEvt.C w A l.length l) :
    Calls Tryz.prog 50 #[.slice A l.length c, .int .i64 j, .agg #[.string v.f0, .int .u64 v.f1, .string v.f2, .slice VA v.f3.length vc]] w fun e w' => ∃ m : Int, e = .returned (.int .u64 m) ∧ 0 ≤ m ∧ (0 < m ↔ ∃ t, t < j ∧ LostP l j v.f0 v.f1 t) ∧ Below w.heap.size w w' := by
  have hm : l.length ≤ 9223372036854775807 := hC.2.1
  have han := Lib.hid fun W (hb : Below w.heap.size w W) p hp => ranswer24_any A c l p hp W (Kd.C_below hC hb)
  have hev : Hid (∀ j (hj : j < l.length), ∃ ad B4 b4 B5 b5 B9 b9, A = some ad ∧ ∀ W', Below w.heap.size w W' → (W'.cell? (ad.add (j * 10)) = some (.int .i64 l[j].f0) ∧ W'.cell? ⟨(ad.add (j * 10)).block, (ad.add (j * 10)).off + 1, none⟩ = some (.int .i64 l[j].f1) ∧ W'.cell? ⟨(ad.add (j * 10)).block, (ad.add (j * 10)).off + 2, none⟩ = some (.int .i64 l[j].f2) ∧ W'.cell? ⟨(ad.add (j * 10)).block, (ad.add (j * 10)).off + 3, none⟩ = some (.int .u64 l[j].f3) ∧ W'.cell? ⟨(ad.add (j * 10)).block, (ad.add (j * 10)).off + 4, none⟩ = some (.slice B4 l[j].f4.length b4) ∧ W'.cell? ⟨(ad.add (j * 10)).block, (ad.add (j * 10)).off + 5, none⟩ = some (.slice B5 l[j].f5.length b5) ∧ W'.cell? ⟨(ad.add (j * 10)).block, (ad.add (j * 10)).off + 6, none⟩ = some (.int .i64 l[j].f6.f0) ∧ W'.cell? ⟨(ad.add (j * 10)).block, (ad.add (j * 10)).off + 7, none⟩ = some (.int .i64 l[j].f6.f1) ∧ W'.cell? ⟨(ad.add (j * 10)).block, (ad.add (j * 10)).off + 8, none⟩ = some (.int .u64 l[j].f6.f2) ∧ W'.cell? ⟨(ad.add (j * 10)).block, (ad.add (j * 10)).off + 9, none⟩ = some (.slice B9 l[j].f6.f3.length b9)) ∧ Kd.C kPai W' B4 l[j].f4.length l[j].f4) := Lib.hid fun j hj => by
    obtain ⟨ad, B4, b4, B5, b5, B9, b9, e, g0, g1, g2, g3, g4, g5, g6, g7, g8, g9, hK, _, _⟩ := evt_at hC hj
    have hk4 := (evt_open hK).2.1
    exact ⟨ad, B4, b4, B5, b5, B9, b9, e, fun W' hb => ⟨⟨pw_cell_below hb g0, pw_cell_below hb g1, pw_cell_below hb g2, pw_cell_below hb g3, pw_cell_below hb g4, pw_cell_below hb g5, pw_cell_below hb g6, pw_cell_below hb g7, pw_cell_below hb g8, pw_cell_below hb g9⟩, Kd.C_below hk4 hb⟩⟩
  obtain ⟨w2, hw2⟩ : ∃ w2, w2 = w.alloc (.cells #[.string v.f0, .int .u64 v.f1, .string v.f2, .slice VA v.f3.length vc] 49) := ⟨_, rfl⟩
  have hbe : Below w.heap.size w w2 := by rw [hw2]; exact below_alloc (Below.refl _ _) _
  have hX : w2.heap[w.heap.size]? = some (.cells #[.string v.f0, .int .u64 v.f1, .string v.f2, .slice VA v.f3.length vc] 49 (0, 0)) := by
    rw [hw2]
    exact heap_alloc_new w _
  clear hC
  replace hX := Lib.hid hX
  replace hbe := Lib.hid hbe
  replace hw2 := Lib.hid hw2
  go_enter Tryz.func50, Tryz.ntmps50
  go_wp2
  rw [← hw2.out]
  go_loopw [7, 8] (fun s7 s8 wr => RelLs w2 l j v.f0 v.f1 s7 s8 wr) (fun _ s8 _ => j - (intOf s8).toNat)
  case atStart => exact ⟨0, Nat.zero_le _, rfl, ⟨0, rfl, Int.le_refl _, ⟨fun h => absurd h (by decide), fun ⟨t, h, _⟩ => absurd h (Nat.not_lt_zero t)⟩⟩, Below.refl _ _⟩
  case round =>
    obtain ⟨k, hk, rfl, ⟨m, rfl, hm0, hmi⟩, hB⟩ := hrel
    have hX2 := blk_below hX.out hB
    have e0 := blk_cell hX2 0
    have e1 := blk_cell hX2 1
    have el := blk_lt hX2
    simp only [List.getElem?_toArray, List.getElem?_cons_zero, List.getElem?_cons_succ] at e0 e1
    replace hX2 := Lib.hid hX2
    by_cases hkj : k < j
    · have hkl : k < l.length := by omega
      have a4 : IntKind.i64.wrap ((k : Int) + 1) = (k : Int) + 1 := IntWalk.i64_in _ (by omega)
      have hBw := below_then hbe.out hbe.out.size hB
      obtain ⟨ad, B4, b4, B5, b5, B9, b9, he, hcs⟩ := hev.out k hkl
      obtain rfl := he
      have hcs := Lib.hid hcs
      have hnx := fun m' hm => lost_next (m' := m') (p := LostP l j v.f0 v.f1) hmi hm
      have hLP : LostP l j v.f0 v.f1 k ↔ l[k].f0 = 1 ∧ v.f1 < l[k].f3 ∧ wroteB l[k] v.f0 = true ∧ ∃ n, ∃ hn : n < l.length, ansI l l[k] k = (n : Int) ∧ n < j ∧ l[n].f6.f1 = 1 := ⟨fun ⟨_, h⟩ => h, fun h => ⟨hkl, h⟩⟩
      rw [hLP] at hnx
      have hansp := ansI_spec l l[k] k
      have hac := Lib.hid fun W (hb : Below wr.heap.size wr W) => han.out W (below_then hBw hBw.size hb) k hkl
      have hee := Lib.hid fun (W : World) (hb : Below wr.heap.size wr W) => And.intro (pw_cell_below hb e0) (pw_cell_below hb e1)
      have hBs := Lib.hid fun (W : World) (hb : Below wr.heap.size wr W) => below_then hB hB.size hb
      obtain ⟨g0, g1, g2, g3, g4, g5, g6, g7, g8, g9⟩ := (hcs.out wr hBw).1
      clear hmi hB hLP
      generalize ansI l l[k] k = an at *
      generalize hyk : l[k] = y at *
      replace hyk := Lib.hid hyk
      replace hBw := Lib.hid hBw
      by_cases p0 : y.f0 = 1
      · have c0 : (y.f0 == 1) = true := beq_iff_eq.2 p0
        by_cases h1 : v.f1 < y.f3
        · have c1 : decide (v.f1 < y.f3) = true := decide_eq_true h1
          by_cases h2 : m < y.f3
          · have c2 : decide (m < y.f3) = true := decide_eq_true h2
            have hbD := below_drew (Below.refl wr.heap.size wr)
            have hS : Hid (∀ W', Below wr.heap.size wr W' → W'.cell? (ad.add (k * 10)) = some (.int .i64 y.f0) ∧ W'.cell? ⟨(ad.add (k * 10)).block, (ad.add (k * 10)).off + 1, none⟩ = some (.int .i64 y.f1) ∧ W'.cell? ⟨(ad.add (k * 10)).block, (ad.add (k * 10)).off + 2, none⟩ = some (.int .i64 y.f2) ∧ W'.cell? ⟨(ad.add (k * 10)).block, (ad.add (k * 10)).off + 3, none⟩ = some (.int .u64 y.f3) ∧ W'.cell? ⟨(ad.add (k * 10)).block, (ad.add (k * 10)).off + 4, none⟩ = some (.slice B4 y.f4.length b4) ∧ W'.cell? ⟨(ad.add (k * 10)).block, (ad.add (k * 10)).off + 5, none⟩ = some (.slice B5 y.f5.length b5) ∧ W'.cell? ⟨(ad.add (k * 10)).block, (ad.add (k * 10)).off + 6, none⟩ = some (.int .i64 y.f6.f0) ∧ W'.cell? ⟨(ad.add (k * 10)).block, (ad.add (k * 10)).off + 7, none⟩ = some (.int .i64 y.f6.f1) ∧ W'.cell? ⟨(ad.add (k * 10)).block, (ad.add (k * 10)).off + 8, none⟩ = some (.int .u64 y.f6.f2) ∧ W'.cell? ⟨(ad.add (k * 10)).block, (ad.add (k * 10)).off + 9, none⟩ = some (.slice B9 y.f6.f3.length b9) ∧ W'.cell? ⟨w.heap.size, 0, none⟩ = some (.string v.f0) ∧ W'.cell? ⟨w.heap.size, 1, none⟩ = some (.int .u64 v.f1)) := Lib.hid fun W' hb => by
              obtain ⟨g0, g1, g2, g3, g4, g5, g6, g7, g8, g9⟩ := (hcs.out W' (below_then hBw.out hBw.out.size hb)).1
              obtain ⟨f0, f1⟩ := hee.out W' hb
              exact ⟨g0, g1, g2, g3, g4, g5, g6, g7, g8, g9, f0, f1⟩
            have hHeld := Lib.hid (hS.out _ hbD)
            have hcw := Lib.hid (rwrote24_any y B4 b4 B5 b5 B9 b9 v.f0 wr.drew (hcs.out _ (below_then hBw.out hBw.out.size hbD)).2)
            replace hbD := Lib.hid hbD
            replace p0 := Lib.hid p0
            replace h1 := Lib.hid h1
            replace h2 := Lib.hid h2
            replace hansp := Lib.hid hansp
            replace hnx := Lib.hid hnx
            clear e0 e1 g0 g1 g2 g3 g4 g5 g6 g7 g8 g9
            go_wp2
            go_region_held3 (fun W' => W'.cell? (ad.add (k * 10)) = some (.int .i64 y.f0) ∧ W'.cell? ⟨(ad.add (k * 10)).block, (ad.add (k * 10)).off + 1, none⟩ = some (.int .i64 y.f1) ∧ W'.cell? ⟨(ad.add (k * 10)).block, (ad.add (k * 10)).off + 2, none⟩ = some (.int .i64 y.f2) ∧ W'.cell? ⟨(ad.add (k * 10)).block, (ad.add (k * 10)).off + 3, none⟩ = some (.int .u64 y.f3) ∧ W'.cell? ⟨(ad.add (k * 10)).block, (ad.add (k * 10)).off + 4, none⟩ = some (.slice B4 y.f4.length b4) ∧ W'.cell? ⟨(ad.add (k * 10)).block, (ad.add (k * 10)).off + 5, none⟩ = some (.slice B5 y.f5.length b5) ∧ W'.cell? ⟨(ad.add (k * 10)).block, (ad.add (k * 10)).off + 6, none⟩ = some (.int .i64 y.f6.f0) ∧ W'.cell? ⟨(ad.add (k * 10)).block, (ad.add (k * 10)).off + 7, none⟩ = some (.int .i64 y.f6.f1) ∧ W'.cell? ⟨(ad.add (k * 10)).block, (ad.add (k * 10)).off + 8, none⟩ = some (.int .u64 y.f6.f2) ∧ W'.cell? ⟨(ad.add (k * 10)).block, (ad.add (k * 10)).off + 9, none⟩ = some (.slice B9 y.f6.f3.length b9) ∧ W'.cell? ⟨w.heap.size, 0, none⟩ = some (.string v.f0) ∧ W'.cell? ⟨w.heap.size, 1, none⟩ = some (.int .u64 v.f1)) (first | exact hS.out _ hb6'.out | exact hHeld.out) (first | (go_at_call 72; refine hcw.out.mono ?_; rintro e w6 ⟨rfl, hb6⟩; have hb6' := Lib.hid (below_then hbD.out hbD.out.size hb6); clear hb6))
            cases c3 : wroteB y v.f0 with
            | false =>
              have hn2 := Lib.hid (hnx.out m ⟨.inl, fun h => h.elim id fun g => by rw [c3] at g; cases g.2.2.1⟩)
              clear hnx hansp
              go_wp2
              go_roundw
              case rel => exact ⟨k + 1, by omega, by go_num, ⟨m, rfl, hm0, hn2.out⟩, hBs.out _ hb6'.out⟩
              case measure => simp [intOf]; omega
            | true =>
              have hca := hac.out _ hb6'.out
              rcases hansp.out with ⟨e2, _⟩ | ⟨n, hn, _, e2, _⟩
              · rw [e2] at hca
                have hn2 := Lib.hid (hnx.out m ⟨.inl, fun h => h.elim id fun ⟨_, _, _, n, _, g, _⟩ => by omega⟩)
                replace e2 := Lib.hid e2
                replace hca := Lib.hid hca
                clear hnx hansp
                go_wp2_with (first | (go_at_call 71; refine hca.out.mono ?_; rintro e W7 ⟨rfl, hb7⟩; have hB7 := Lib.hid (below_then hb6'.out hb6'.out.size hb7); clear hb7) | go_in)
                go_roundw
                case rel => exact ⟨k + 1, by omega, by go_num, ⟨m, rfl, hm0, hn2.out⟩, hBs.out _ hB7.out⟩
                case measure => simp [intOf]; omega
              · rw [e2] at hca
                obtain ⟨_, D4, d4, D5, d5, D9, d9, he2, hcs2⟩ := hev.out n hn
                cases he2
                have hcs2 := Lib.hid hcs2
                have d0 : decide ((0 : Int) ≤ (n : Int)) = true := decide_eq_true (by omega)
                by_cases h4 : n < j
                · have d1 : decide ((n : Int) < (j : Int)) = true := decide_eq_true (by omega)
                  by_cases h5 : l[n].f6.f1 = 1
                  · have d2 : (l[n].f6.f1 == 1) = true := beq_iff_eq.2 h5
                    have hn2 := Lib.hid (hnx.out y.f3 ⟨fun _ => .inr ⟨p0.out, h1.out, c3, n, hn, e2, h4, h5⟩, fun _ => by have := h1.out; omega⟩)
                    have h30 : 0 ≤ y.f3 := by have := h1.out; omega
                    generalize l[n] = z at *
                    replace e2 := Lib.hid e2
                    replace hca := Lib.hid hca
                    replace h5 := Lib.hid h5
                    replace h30 := Lib.hid h30
                    clear hnx hansp
                    go_wp2_with (first | (go_at_call 71; refine hca.out.mono ?_; rintro e W7 ⟨rfl, hb7⟩; have hB7 := Lib.hid (below_then hb6'.out hb6'.out.size hb7); clear hb7; obtain ⟨-, -, -, -, -, -, -, x7, -, -⟩ := (hcs2.out W7 (below_then hBw.out hBw.out.size hB7.out)).1; obtain ⟨-, -, -, y3, -, -, -, -, -, -⟩ := (hcs.out W7 (below_then hBw.out hBw.out.size hB7.out)).1) | go_in)
                    go_roundw
                    case rel => exact ⟨k + 1, by omega, by go_num, ⟨y.f3, rfl, h30.out, hn2.out⟩, hBs.out _ hB7.out⟩
                    case measure => simp [intOf]; omega
                  · have d2 : (l[n].f6.f1 == 1) = false := beq_eq_false_iff_ne.2 h5
                    have hn2 := Lib.hid (hnx.out m ⟨.inl, fun h => h.elim id fun ⟨_, _, _, n', _, g, _, g2⟩ => by
                      obtain rfl : n = n' := by omega
                      exact absurd g2 h5⟩)
                    generalize l[n] = z at *
                    replace e2 := Lib.hid e2
                    replace hca := Lib.hid hca
                    replace h5 := Lib.hid h5
                    clear hnx hansp
                    go_wp2_with (first | (go_at_call 71; refine hca.out.mono ?_; rintro e W7 ⟨rfl, hb7⟩; have hB7 := Lib.hid (below_then hb6'.out hb6'.out.size hb7); clear hb7; obtain ⟨-, -, -, -, -, -, -, x7, -, -⟩ := (hcs2.out W7 (below_then hBw.out hBw.out.size hB7.out)).1) | go_in)
                    go_roundw
                    case rel => exact ⟨k + 1, by omega, by go_num, ⟨m, rfl, hm0, hn2.out⟩, hBs.out _ hB7.out⟩
                    case measure => simp [intOf]; omega
                · have d1 : decide ((n : Int) < (j : Int)) = false := decide_eq_false (by omega)
                  have hn2 := Lib.hid (hnx.out m ⟨.inl, fun h => h.elim id fun ⟨_, _, _, n', _, g, g1, _⟩ => by omega⟩)
                  replace e2 := Lib.hid e2
                  replace hca := Lib.hid hca
                  clear hnx hansp
                  go_wp2_with (first | (go_at_call 71; refine hca.out.mono ?_; rintro e W7 ⟨rfl, hb7⟩; have hB7 := Lib.hid (below_then hb6'.out hb6'.out.size hb7); clear hb7) | go_in)
                  go_roundw
                  case rel => exact ⟨k + 1, by omega, by go_num, ⟨m, rfl, hm0, hn2.out⟩, hBs.out _ hB7.out⟩
                  case measure => simp [intOf]; omega
          · have c2 : decide (m < y.f3) = false := decide_eq_false h2
            have hn2 := Lib.hid (hnx m ⟨.inl, fun _ => by omega⟩)
            replace p0 := Lib.hid p0
            replace h1 := Lib.hid h1
            replace h2 := Lib.hid h2
            replace hansp := Lib.hid hansp
            clear hnx
            go_wp2
            go_quiet (fail)
            go_wp2
            go_roundw
            case rel => exact ⟨k + 1, by omega, by go_num, ⟨m, rfl, hm0, hn2.out⟩, hBs.out _ (pw_below_drewN (Below.refl _ _) _)⟩
            case measure => simp [intOf]; omega
        · have c1 : decide (v.f1 < y.f3) = false := decide_eq_false h1
          have hn2 := Lib.hid (hnx m ⟨.inl, fun h => h.elim id fun g => absurd g.2.1 h1⟩)
          have h2 : True := trivial
          replace p0 := Lib.hid p0
          replace h1 := Lib.hid h1
          replace h2 := Lib.hid h2
          replace hansp := Lib.hid hansp
          clear hnx
          go_wp2
          go_quiet (fail)
          go_wp2
          go_roundw
          case rel => exact ⟨k + 1, by omega, by go_num, ⟨m, rfl, hm0, hn2.out⟩, hBs.out _ (pw_below_drewN (Below.refl _ _) _)⟩
          case measure => simp [intOf]; omega
      · have c0 : (y.f0 == 1) = false := beq_eq_false_iff_ne.2 p0
        have hn2 := Lib.hid (hnx m ⟨.inl, fun h => h.elim id fun g => absurd g.1 p0⟩)
        have h2 : True := trivial
        have h1 : True := trivial
        replace p0 := Lib.hid p0
        replace h1 := Lib.hid h1
        replace h2 := Lib.hid h2
        replace hansp := Lib.hid hansp
        clear hnx
        go_wp2
        go_quiet (fail)
        go_wp2
        go_roundw
        case rel => exact ⟨k + 1, by omega, by go_num, ⟨m, rfl, hm0, hn2.out⟩, hBs.out _ (pw_below_drewN (Below.refl _ _) _)⟩
        case measure => simp [intOf]; omega
    · obtain rfl : k = j := by omega
      have hBw := Lib.hid (below_then hbe.out hbe.out.size hB)
      replace hmi := Lib.hid hmi
      clear hB
      go_wp2
      go_ret
      exact ⟨m, rfl, hm0, hmi.out, hBw.out⟩
end Go.Proofs.YtiibjgnmdieicaaGreat.Hist
