/- the document's order: wrote, done, Writes, walked. -/
import Derived.Test.YtiibjgnmdieicaaGreatVa
import Derived.Test.YtiibjgnmdieicaaGreatQm
import Derived.Test.YtiibjgnmdieicaaGreatQl
namespace Go.Proofs.YtiibjgnmdieicaaGreat.Hist
open Go.RowKit Go.Proofs.YtiibjgnmdieicaaGreatW.PrintWords Go.Sort
set_option maxHeartbeats 4000000 in
set_option maxRecDepth 100000 in
theorem rwrote29_any (x : Evt) (A4 : Option Addr) (c4 : Nat) (A5 : Option Addr) (c5 : Nat) (A9 : Option Addr) (c9 : Nat) (k : ByteArray) (w : World) (hC : Kd.C kPai w A4 x.f4.length x.f4) :
    Calls Tryz.prog 80 #[.agg #[.int .i64 x.f0, .int .i64 x.f1, .int .i64 x.f2, .int .u64 x.f3, .slice A4 x.f4.length c4, .slice A5 x.f5.length c5, .int .i64 x.f6.f0, .int .i64 x.f6.f1, .int .u64 x.f6.f2, .slice A9 x.f6.f3.length c9], .string k] w fun e w' => e = .returned (.bool (wroteB x k)) ∧ Below w.heap.size w w' := by
  have hm : x.f4.length ≤ 9223372036854775807 := hC.2.1
  have hbe : Below w.heap.size w (w.alloc (.cells #[.int .i64 x.f0, .int .i64 x.f1, .int .i64 x.f2, .int .u64 x.f3, .slice A4 x.f4.length c4, .slice A5 x.f5.length c5, .int .i64 x.f6.f0, .int .i64 x.f6.f1, .int .u64 x.f6.f2, .slice A9 x.f6.f3.length c9] 38)) := below_alloc (Below.refl _ _) _
  have hX := heap_alloc_new w (.cells #[.int .i64 x.f0, .int .i64 x.f1, .int .i64 x.f2, .int .u64 x.f3, .slice A4 x.f4.length c4, .slice A5 x.f5.length c5, .int .i64 x.f6.f0, .int .i64 x.f6.f1, .int .u64 x.f6.f2, .slice A9 x.f6.f3.length c9] 38)
  replace hC := Lib.hid (Kd.C_below hC hbe)
  replace hX := Lib.hid hX
  replace hbe := Lib.hid hbe
  obtain ⟨r, hr⟩ : ∃ r, r = wroteB x k := ⟨_, rfl⟩
  rw [← hr]
  unfold wroteB at hr
  replace hr := Lib.hid hr
  go_enter Tryz.func80, Tryz.ntmps80
  go_wp2
  generalize (w.alloc (.cells #[.int .i64 x.f0, .int .i64 x.f1, .int .i64 x.f2, .int .u64 x.f3, .slice A4 x.f4.length c4, .slice A5 x.f5.length c5, .int .i64 x.f6.f0, .int .i64 x.f6.f1, .int .u64 x.f6.f2, .slice A9 x.f6.f3.length c9] 38)) = w1 at *
  generalize x.f4 = l at *
  go_loopw [5] (fun s wr => RelI w1 (fun p : Pai => eqS p.f0 k) l s wr) (fun s _ => l.length - (intOf s).toNat)
  case atStart => exact ⟨0, Nat.zero_le _, rfl, (fun t _ h => absurd h (Nat.not_lt_zero t)), Below.refl _ _⟩
  case round =>
    obtain ⟨j, hj, rfl, hp, hB⟩ := hrel
    have hX2 := blk_below hX.out hB
    have e4 := blk_cell hX2 4
    have el := blk_lt hX2
    simp only [List.getElem?_toArray, List.getElem?_cons_zero, List.getElem?_cons_succ] at e4
    replace hX2 := Lib.hid hX2
    by_cases hlt : j < l.length
    · obtain ⟨ad, rfl, q0, q1⟩ := pair_at (Kd.C_below hC.out hB) hlt
      have hnx : eqS l[j].f0 k = false → ∀ t, (ht : t < l.length) → t < j + 1 → eqS l[t].f0 k = false := fun h t ht h1 => by
        by_cases e : t = j
        · subst e; exact h
        · exact hp t ht (by omega)
      have hye : eqS l[j].f0 k = true → r = true := fun h => hr.out.trans (any_at (p := fun p : Pai => eqS p.f0 k) hlt h)
      unfold eqS at hnx hye
      replace hnx := Lib.hid hnx
      replace hye := Lib.hid hye
      replace hp := Lib.hid hp
      replace hB := Lib.hid hB
      cases hb : (l[j].f0.toList == k.toList) with
      | false =>
        have hnx2 := Lib.hid (hnx.out hb)
        go_wp2
        go_roundw
        case rel => exact ⟨j + 1, by omega, by go_num, hnx2.out, hB.out⟩
        case measure => simp [intOf]; omega
      | true =>
        have hq1 := Lib.hid (hye.out hb)
        go_wp2
        go_ret
        exact ⟨by rw [hq1.out]; rfl, below_then hbe.out hbe.out.size (hB.out)⟩
    · have hno := Lib.hid (hr.out.trans (any_no (p := fun p : Pai => eqS p.f0 k) (l := l) (fun t ht => hp t ht (by omega))))
      replace hB := Lib.hid hB
      replace hp := Lib.hid hp
      go_wp2
      go_ret
      exact ⟨by rw [hno.out]; rfl, below_then hbe.out hbe.out.size hB.out⟩
theorem or4 (a b c : Bool) : a = false ∨ (a = true ∧ b = false) ∨ (a = true ∧ b = true ∧ c = false) ∨ (a = true ∧ b = true ∧ c = true) := by cases a <;> cases b <;> cases c <;> simp
set_option maxHeartbeats 4000000 in
set_option maxRecDepth 100000 in
theorem rdone_any (A : Option Addr) (c : Nat) (l : List Evt) (p n : Nat) (hp : p < l.length) (hn : n ≤ l.length) (w : World) (hC : kEvt.C w A l.length l) :
    Calls Tryz.prog 79 #[.slice A l.length c, .int .i64 p, .int .i64 n] w fun e w' => e = .returned (.bool (doneB l l[p] p n)) ∧ Below w.heap.size w w' := by
  have hm : l.length ≤ 9223372036854775807 := hC.2.1
  obtain ⟨r, hr⟩ : ∃ r, r = doneB l l[p] p n := ⟨_, rfl⟩
  rw [← hr]
  have hy : ∀ k (hk : k < l.length), p ≤ k → k < n → (∀ t (ht : t < l.length), p ≤ t → t < k → okA l[p] l[t] = false) → okA l[p] l[k] = true → r = (l[k].f6.f1 == 1) := fun k hk h0 h1 h2 h3 => by
    rw [hr]
    unfold doneB
    rw [seg_at h0 h1 hk h3 h2]
  have hno : (∀ t (ht : t < l.length), p ≤ t → t < n → okA l[p] l[t] = false) → r = false := fun h => by
    rw [hr]
    unfold doneB
    rw [seg_no h]
  clear hr
  obtain ⟨ad, A4, c4, A5, c5, A9, c9, rfl, q0, q1, q2, q3, q4, q5, q6, q7, q8, q9, hK, hl9, hk9⟩ := evt_at hC hp
  clear q0 q3 q4 q5 q6 q7 q8 q9 hK hl9 hk9
  generalize hy0 : l[p] = y at *
  replace hy0 := Lib.hid hy0
  have hqs := Lib.hid fun (W : World) (hb : Below w.heap.size w W) => And.intro (pw_cell_below hb q1) (pw_cell_below hb q2)
  clear q1 q2
  replace hC := Lib.hid hC
  replace hy := Lib.hid hy
  replace hno := Lib.hid hno
  go_enter Tryz.func79, Tryz.ntmps79
  go_wp2
  go_loopw [7] (fun s wr => RelSg w l p n (okA y) s wr) (fun s _ => n - (intOf s).toNat)
  case atStart => exact ⟨p, Nat.le_refl _, .inr rfl, rfl, (fun t _ h1 h => absurd h1 (by omega)), Below.refl _ _⟩
  case round =>
    obtain ⟨j, h0, hj, rfl, hp2, hB⟩ := hrel
    obtain ⟨q1, q2⟩ := hqs.out wr hB
    by_cases hlt : j < n
    · have hjl : j < l.length := by omega
      obtain ⟨ad', C4, e4, C5, e5, C9, e9, he, x0, x1, x2, x3, x4, x5, x6, x7, x8, x9, hK, hl9, hk9⟩ := evt_at (Kd.C_below hC.out hB) hjl
      cases he
      clear x3 x4 x5 x6 x8 x9 hK hl9 hk9
      have hnx := seg_next (p := okA y) hp2 hjl
      have hye := hy.out j hjl h0 hlt hp2
      have a1 : IntKind.i64.wrap ((j : Int) + 1) = (j : Int) + 1 := IntWalk.i64_in _ (by omega)
      unfold okA at hnx hye
      generalize l[j] = e at *
      replace hnx := Lib.hid hnx
      replace hye := Lib.hid hye
      replace hp2 := Lib.hid hp2
      have hcx := Lib.hid fun (W : World) (hb : Below wr.heap.size wr W) => pw_cell_below hb x7
      replace hB := Lib.hid hB
      replace hj := Lib.hid hj
      replace h0 := Lib.hid h0
      clear x7
      rcases or4 (e.f0 == 3) (e.f1 == y.f1) (e.f2 == y.f2) with c0 | ⟨c0, c1⟩ | ⟨c0, c1, c2⟩ | ⟨c0, c1, c2⟩
      case inr.inr.inr =>
        obtain rfl := hye.out (by rw [c0, c1, c2]; rfl)
        go_wp2
        go_quiet (fail)
        have x7 := hcx.out _ (pw_below_drewN (Below.refl _ _) nq)
        go_wp2
        go_ret
        exact ⟨rfl, below_then hB.out hB.out.size (pw_below_drewN (Below.refl _ _) _)⟩
      all_goals
        have hnx2 := Lib.hid (hnx.out (by first | (rw [c0, c1, c2]; rfl) | (rw [c0, c1]; rfl) | (rw [c0]; rfl)))
        clear hnx hye
        go_wp2
        go_quiet (fail)
        go_wp2
        go_roundw
        case rel => exact ⟨j + 1, by have := h0.out; omega, .inl (by omega), by go_num, hnx2.out, below_then hB.out hB.out.size (pw_below_drewN (Below.refl _ _) _)⟩
        case measure => simp [intOf]; omega
    · obtain rfl := hno.out (fun t ht h1 h2 => hp2 t ht h1 (by omega))
      have c0 : decide ((j : Int) < (n : Int)) = false := decide_eq_false (by omega)
      replace hB := Lib.hid hB
      replace hp2 := Lib.hid hp2
      replace hj := Lib.hid hj
      clear q1 q2
      go_wp2
      go_ret
      exact ⟨rfl, hB.out⟩
theorem oneI (a : Int) : ∀ u ∈ ([.int .i64 a] : List Value), u.oneCell' = true := by
  intro u hu
  simp at hu
  subst hu
  rfl
def WritesTo (w : World) (l : List Evt) (e : Ending) (w' : World) : Prop := ∃ A c, e = .returned (.slice A (writesN l l.length).length c) ∧ OwnRow RI tI 1 w' w.heap.size (.slice A (writesN l l.length).length c) (writesN l l.length) ∧ Below w.heap.size w w'
def RelWs (w : World) (l : List Evt) (s3 s4 : Value) (wr : World) : Prop := ∃ j : Nat, j ≤ l.length ∧ s4 = .int .i64 j ∧ OwnRow RI tI 1 wr w.heap.size s3 (writesN l j) ∧ Below w.heap.size w wr
set_option maxHeartbeats 8000000 in
set_option maxRecDepth 100000 in
theorem rwrites_any (A : Option Addr) (c : Nat) (l : List Evt) (hsm : l.length ≤ 1048576) (w : World) (hC : kEvt.C w A l.length l) :
    Calls Tryz.prog 33 #[.slice A l.length c] w (WritesTo w l) := by
  unfold WritesTo
  replace hC := Lib.hid hC
  replace hsm := Lib.hid hsm
  generalize hnl : (writesN l l.length).length = nl
  replace hnl := Lib.hid hnl
  go_enter Tryz.func33, Tryz.ntmps33
  go_wp2
  go_loopw [3, 4] (fun s3 s4 wr => RelWs w l s3 s4 wr) (fun _ s4 _ => l.length - (intOf s4).toNat)
  case atStart => exact ⟨0, Nat.zero_le _, rfl, OwnRow.none_ _ _ _ _ _, Below.refl _ _⟩
  case round =>
    obtain ⟨j, hj, rfl, hO, hB⟩ := hrel
    by_cases hlt : j < l.length
    · have hst := writesN_succ hlt
      have hnl2 := writesN_len l j
      have hsm2 := hsm.out
      obtain ⟨ad, A4, c4, A5, c5, A9, c9, rfl, q0, q1, q2, q3, q4, q5, q6, q7, q8, q9, hK, hl9, hk9⟩ := evt_at (Kd.C_below hC.out hB) hlt
      clear q1 q2 q4 q5 q6 q7 q8 q9 hK hl9 hk9
      have a1 : IntKind.i64.wrap ((j : Int) + 1) = (j : Int) + 1 := IntWalk.i64_in _ (by omega)
      unfold isWB at hst
      generalize hn0 : writesN l j = T at *
      generalize hn1 : writesN l (j + 1) = T1 at *
      generalize l[j] = x at *
      obtain ⟨n, hnT⟩ : ∃ n, T.length = n := ⟨_, rfl⟩
      obtain ⟨RA, rc, rfl⟩ := slice_of hO hnT
      replace hn0 := Lib.hid hn0
      replace hn1 := Lib.hid hn1
      by_cases hw : (x.f0 == 1 && x.f3 != 0) = true
      · rw [if_pos hw] at hst
        rw [Bool.and_eq_true] at hw
        obtain ⟨b0, b1⟩ := hw
        have hs5 : (T.length + 1) * 8 ≤ 140737488355328 := by omega
        have hlT : (T ++ [j]).length = n + 1 := by rw [List.length_append, hnT]; rfl
        replace hst := Lib.hid hst
        replace hO := Lib.hid hO
        replace hB := Lib.hid hB
        replace hs5 := Lib.hid hs5
        replace hlT := Lib.hid hlT
        replace hnT := Lib.hid hnT
        have hone := Lib.hid (oneI (j : Int))
        clear hnl2 hsm2
        go_wp2_with (first
          | (at_builtin; refine append_plain (P := Tryz.prog) (R := RI) (w0 := w) (W := wr) w.heap.size rfl (.tmp 25) (.tmp 27) 71 3 (.int .i64 0) 1 8 rfl Tryz.underlying71 infoI rfl (by decide) (by decide) (.slice RA n rc) T j [.int .i64 j] rfl (by simp [Act.eval]) rfl rfl (by exact hone.out) (by exact hO.out) (by exact hB.out) (by exact hB.out.size) (by exact hs5.out) (n + 1) (by exact hlT.out) ?_; intro A7 c7 W7 own7 bel7 _gr7; replace own7 := Lib.hid own7; replace bel7 := Lib.hid bel7; clear _gr7)
          | go_in)
        go_roundw
        case rel => exact ⟨j + 1, by omega, by go_num, by rw [hn1.out, hst.out]; exact own7.out, bel7.out⟩
        case measure => simp [intOf]; omega
      · rw [if_neg hw, List.append_nil] at hst
        replace hst := Lib.hid hst
        replace hO := Lib.hid hO
        replace hB := Lib.hid hB
        replace hnT := Lib.hid hnT
        clear hnl2 hsm2
        cases b0 : (x.f0 == 1) with
        | false =>
          replace hw := Lib.hid hw
          go_wp2
          go_roundw
          case rel => exact ⟨j + 1, by omega, by go_num, by rw [hn1.out, hst.out]; exact hO.out, hB.out⟩
          case measure => simp [intOf]; omega
        | true =>
          have b1 : (x.f3 != 0) = false := by
            rw [b0, Bool.true_and] at hw
            simpa using hw
          replace hw := Lib.hid hw
          go_wp2
          go_roundw
          case rel => exact ⟨j + 1, by omega, by go_num, by rw [hn1.out, hst.out]; exact hO.out, hB.out⟩
          case measure => simp [intOf]; omega
    · obtain rfl : j = l.length := by omega
      obtain ⟨RA, rc, rfl⟩ := slice_of hO hnl.out
      replace hO := Lib.hid hO
      replace hB := Lib.hid hB
      go_wp2
      go_ret
      exact ⟨RA, rc, rfl, hO.out, hB.out⟩
end Go.Proofs.YtiibjgnmdieicaaGreat.Hist
/- the document's order: Must, walked. -/
namespace Go.Proofs.YtiibjgnmdieicaaGreat.Hist
open Go.RowKit Go.Proofs.YtiibjgnmdieicaaGreatW.PrintWords Go.Sort
def MustTo (w : World) (L : List Int) (e : Ending) (w' : World) : Prop := ∃ A c, e = .returned (.slice A L.length c) ∧ OwnRow RID tID 1 w' w.heap.size (.slice A L.length c) L ∧ Below w.heap.size w w'
def mI (y : Evt) (vs : List Ver) (k : Nat) : List Int := ((vs.take k).filter (rB y)).map fun v => v.f1
theorem mI_succ {y : Evt} {vs : List Ver} {k : Nat} (h : k < vs.length) : mI y vs (k + 1) = mI y vs k ++ if rB y vs[k] = true then [vs[k].f1] else [] := by
  unfold mI
  rw [← List.take_append_getElem h, List.filter_append, List.map_append]
  congr 1
  simp only [List.filter_cons, List.filter_nil]
  split <;> rfl
theorem mI_len (y : Evt) (vs : List Ver) (k : Nat) : (mI y vs k).length ≤ vs.length := by
  unfold mI
  rw [List.length_map]
  exact Nat.le_trans (List.length_filter_le _ _) (by rw [List.length_take]; omega)
theorem mI_all (y : Evt) (vs : List Ver) : mI y vs vs.length = (vs.filter (rB y)).map fun v => v.f1 := by
  unfold mI
  rw [List.take_of_length_le (Nat.le_refl _)]
theorem any_take {α : Type} {p : α → Bool} {l : List α} {j : Nat} (h : j < l.length) : (l.take (j + 1)).any p = ((l.take j).any p || p l[j]) := by
  rw [← List.take_append_getElem h, List.any_append]
  simp
theorem fidx_spec' {α : Type} (p : α → Bool) (l : List α) : fidx p l = -1 ∨ ∃ j : Nat, j < l.length ∧ fidx p l = (j : Int) := by
  unfold fidx
  split
  · rename_i h
    exact .inr ⟨_, List.findIdx_lt_length.2 (by simpa using h), rfl⟩
  · exact .inl rfl
def RelM1 (w : World) (y : Evt) (vs : List Ver) (s8 s9 : Value) (wr : World) : Prop := ∃ j : Nat, j ≤ vs.length ∧ s9 = .int .i64 j ∧ s8 = .bool ((vs.take j).any fun v => v.f1 == y.f3) ∧ Below w.heap.size w wr
def RelM2 (w : World) (y : Evt) (vs : List Ver) (s11 s12 : Value) (wr : World) : Prop := ∃ j : Nat, j ≤ vs.length ∧ s12 = .int .i64 j ∧ OwnRow RID tID 1 wr w.heap.size s11 (mI y vs j) ∧ Below w.heap.size w wr
set_option maxHeartbeats 32000000 in
set_option maxRecDepth 100000 in
theorem rmust_any (A : Option Addr) (c : Nat) (l : List Evt) (i p : Nat) (hi : i < l.length) (hp : p < l.length) (hvs : l[i].f6.f3.length ≤ 1048576) (w : World) (hC : kEvt.C w A l.length l) :
    Calls Tryz.prog 59 #[.slice A l.length c, .int .i64 i, .int .i64 p] w (MustTo w (mustS l i p l[i] l[p])) := by
  have hm : l.length ≤ 9223372036854775807 := hC.2.1
  have hrq := Lib.hid fun W (hb : Below w.heap.size w W) => rreq29_any A c l i hi W (Kd.C_below hC hb)
  have hdn := Lib.hid fun W (hb : Below w.heap.size w W) n hn => rdone_any A c l p n hp hn W (Kd.C_below hC hb)
  have hfl : ∀ n : Nat, fidx (reqB l[i]) (l.take i) = (n : Int) → n ≤ l.length := fun n h => by
    rcases fidx_spec' (reqB l[i]) (l.take i) with e | ⟨j, hj, e⟩
    · omega
    · rw [List.length_take] at hj
      omega
  have hge : -1 ≤ fidx (reqB l[i]) (l.take i) := by
    rcases fidx_spec' (reqB l[i]) (l.take i) with e | ⟨j, hj, e⟩ <;> omega
  obtain ⟨L, hL⟩ : ∃ L, L = mustS l i p l[i] l[p] := ⟨_, rfl⟩
  rw [← hL]
  unfold mustS tellsB at hL
  unfold MustTo
  obtain ⟨ad, A4, c4, A5, c5, A9, c9, rfl, q0, q1, q2, q3, q4, q5, q6, q7, q8, q9, hK, hl9, hk9⟩ := evt_at hC hi
  obtain ⟨ad', B4, d4, B5, d5, B9, d9, he, g0, g1, g2, g3, g4, g5, g6, g7, g8, g9, hK', hl9', hk9'⟩ := evt_at hC hp
  cases he
  clear q0 q1 q2 q3 q4 q5 q6 q7 q8 hK hl9 hl9' hk9'
  have hk4 := (evt_open hK').2.1
  have hwr := Lib.hid fun W (hb : Below w.heap.size w W) k => rwrote29_any l[p] B4 d4 B5 d5 B9 d9 k W (Kd.C_below hk4 hb)
  have hmv : l[i].f6.f3.length ≤ 9223372036854775807 := hk9.2.1
  generalize hasked : fidx (reqB l[i]) (l.take i) = q at *
  generalize hvv0 : l[i].f6.f3 = vs at *
  generalize hyy : l[p] = y at *
  replace hyy := Lib.hid hyy
  replace hvv0 := Lib.hid hvv0
  replace hasked := Lib.hid hasked
  have hgs := Lib.hid fun (W : World) (hb : Below w.heap.size w W) => And.intro (pw_cell_below hb g0) (And.intro (pw_cell_below hb g1) (And.intro (pw_cell_below hb g2) (And.intro (pw_cell_below hb g3) (And.intro (pw_cell_below hb g4) (And.intro (pw_cell_below hb g5) (And.intro (pw_cell_below hb g6) (And.intro (pw_cell_below hb g7) (And.intro (pw_cell_below hb g8) (pw_cell_below hb g9)))))))))
  have hV := Lib.hid fun (W : World) (hb : Below w.heap.size w W) => Kd.C_below hk9 hb
  clear g0 g1 g2 g3 g4 g5 g6 g7 g8 g9 hk9 hK' hk4 hC
  replace hvs := Lib.hid hvs
  replace hL := Lib.hid hL
  replace hfl := Lib.hid hfl
  go_enter Tryz.func59, Tryz.ntmps59
  go_wp2
  go_loopw [8, 9] (fun s8 s9 wr => RelM1 w y vs s8 s9 wr) (fun _ s9 _ => vs.length - (intOf s9).toNat)
  case atStart => exact ⟨0, Nat.zero_le _, rfl, rfl, Below.refl _ _⟩
  case round =>
    clear q9
    obtain ⟨j, hj, rfl, rfl, hB⟩ := hrel
    by_cases hlt : j < vs.length
    · have hst := any_take (p := fun v : Ver => v.f1 == y.f3) hlt
      obtain ⟨av, A3, c3, rfl, v0, v1, v2, v3, hx1, hx2⟩ := ver_at (hV.out _ hB) hlt
      obtain ⟨-, -, -, g3, -⟩ := hgs.out _ hB
      clear v0 v2 v3 hx1 hx2
      have a4 : IntKind.i64.wrap ((j : Int) + 1) = (j : Int) + 1 := IntWalk.i64_in _ (by omega)
      generalize hb0 : ((vs.take j).any fun v => v.f1 == y.f3) = b0 at *
      generalize hb1 : ((vs.take (j + 1)).any fun v => v.f1 == y.f3) = b1 at *
      generalize vs[j] = v at *
      replace hb0 := Lib.hid hb0
      replace hb1 := Lib.hid hb1
      replace hB := Lib.hid hB
      cases b0 with
      | true =>
        rw [Bool.true_or] at hst
        replace hst := Lib.hid hst
        go_wp2
        go_quiet (fail)
        go_wp2
        go_roundw
        case rel => exact ⟨j + 1, by omega, by go_num, by rw [hb1.out, hst.out], below_then hB.out hB.out.size (pw_below_drewN (Below.refl _ _) _)⟩
        case measure => simp [intOf]; omega
      | false =>
        rw [Bool.false_or] at hst
        replace hst := Lib.hid hst
        go_wp2
        go_quiet (fail)
        go_wp2
        go_roundw
        case rel => exact ⟨j + 1, by omega, by go_num, by rw [hb1.out, hst.out], below_then hB.out hB.out.size (pw_below_drewN (Below.refl _ _) _)⟩
        case measure => simp [intOf]; omega
    · obtain rfl : j = vs.length := by omega
      rw [List.take_of_length_le (Nat.le_refl _)]
      have hca1 := Lib.hid (hrq.out wr hB)
      replace hB := Lib.hid hB
      have hL2 := hL.out
      generalize (vs.any fun v => v.f1 == y.f3) = told at *
      cases told with
      | true =>
        rw [if_neg (by simp)] at hL2
        clear hL hdn hrq hfl hge
        replace hL2 := Lib.hid hL2
        have hL := hL2
        clear hL2
        go_wp2_with (first | (go_at_call 78; refine hca1.out.mono ?_; rintro e W2 ⟨rfl, hb2⟩; have hB2 := Lib.hid (below_then hB.out hB.out.size hb2); clear hb2) | go_in)
        clear hB hca1
        go_loopw [11, 12] (fun s11 s12 wr => RelM2 w y vs s11 s12 wr) (fun _ s12 _ => vs.length - (intOf s12).toNat)
        case atStart => exact ⟨0, Nat.zero_le _, rfl, OwnRow.none_ _ _ _ _ _, hB2.out⟩
        case round =>
          clear hB2
          obtain ⟨k, hk, rfl, hO, hbw⟩ := hrel
          by_cases hkl : k < vs.length
          · have hnx := mI_succ (y := y) hkl
            have hpl := mI_len y vs k
            obtain ⟨g0, g1, g2, g3, g4, g5, g6, g7, g8, g9⟩ := hgs.out _ hbw
            obtain ⟨av, A3, c3', hav, v0, v1, v2, v3, hx1, hx2⟩ := ver_at (hV.out _ (Below.refl _ _)) hkl
            obtain rfl := hav
            have hvv := Lib.hid fun (W : World) (hb : Below w.heap.size w W) => pw_cell_below hb v1
            have hTS : Hid (∀ W', Below w.heap.size w W' → W'.cell? (ad.add (p * 10)) = some (.int .i64 y.f0) ∧ W'.cell? ⟨(ad.add (p * 10)).block, (ad.add (p * 10)).off + 1, none⟩ = some (.int .i64 y.f1) ∧ W'.cell? ⟨(ad.add (p * 10)).block, (ad.add (p * 10)).off + 2, none⟩ = some (.int .i64 y.f2) ∧ W'.cell? ⟨(ad.add (p * 10)).block, (ad.add (p * 10)).off + 3, none⟩ = some (.int .u64 y.f3) ∧ W'.cell? ⟨(ad.add (p * 10)).block, (ad.add (p * 10)).off + 4, none⟩ = some (.slice B4 y.f4.length d4) ∧ W'.cell? ⟨(ad.add (p * 10)).block, (ad.add (p * 10)).off + 5, none⟩ = some (.slice B5 y.f5.length d5) ∧ W'.cell? ⟨(ad.add (p * 10)).block, (ad.add (p * 10)).off + 6, none⟩ = some (.int .i64 y.f6.f0) ∧ W'.cell? ⟨(ad.add (p * 10)).block, (ad.add (p * 10)).off + 7, none⟩ = some (.int .i64 y.f6.f1) ∧ W'.cell? ⟨(ad.add (p * 10)).block, (ad.add (p * 10)).off + 8, none⟩ = some (.int .u64 y.f6.f2) ∧ W'.cell? ⟨(ad.add (p * 10)).block, (ad.add (p * 10)).off + 9, none⟩ = some (.slice B9 y.f6.f3.length d9) ∧ W'.cell? (av.add (k * 4)) = some (.string vs[k].f0) ∧ W'.cell? ⟨(av.add (k * 4)).block, (av.add (k * 4)).off + 1, none⟩ = some (.int .u64 vs[k].f1)) := Lib.hid fun W' hb => by
              obtain ⟨g0, g1, g2, g3, g4, g5, g6, g7, g8, g9⟩ := hgs.out _ hb
              exact ⟨g0, g1, g2, g3, g4, g5, g6, g7, g8, g9, pw_cell_below hb v0, pw_cell_below hb v1⟩
            replace v0 := pw_cell_below hbw v0
            replace v1 := pw_cell_below hbw v1
            clear v2 v3 hx1 hx2
            have a4 : IntKind.i64.wrap ((k : Int) + 1) = (k : Int) + 1 := IntWalk.i64_in _ (by omega)
            have hs5 : ((mI y vs k).length + 1) * 8 ≤ 140737488355328 := by
              have := hvs.out
              omega
            unfold rB at hnx
            generalize mI y vs k = P at *
            generalize hP1 : mI y vs (k + 1) = P1 at *
            generalize hv : vs[k] = v at *
            obtain ⟨n5, hn5⟩ : ∃ n, P.length = n := ⟨_, rfl⟩
            obtain ⟨RA5, rc5, rfl⟩ := slice_of hO hn5
            have hl1 : (P ++ [v.f1]).length = n5 + 1 := by rw [List.length_append, hn5]; rfl
            clear hpl
            replace hP1 := Lib.hid hP1
            replace hv := Lib.hid hv
            replace hs5 := Lib.hid hs5
            replace hl1 := Lib.hid hl1
            replace hn5 := Lib.hid hn5
            have hno : (v.f1 != y.f3 && wroteB y v.f0) = false → P1 = P := fun h => by rw [hnx, if_neg (by rw [h]; decide), List.append_nil]
            have hye : (v.f1 != y.f3 && wroteB y v.f0) = true → P1 = P ++ [v.f1] := fun h => by rw [hnx, if_pos h]
            clear hnx
            replace hno := Lib.hid hno
            replace hye := Lib.hid hye
            replace hO := Lib.hid hO
            replace hbw := Lib.hid hbw
            cases c5 : (v.f1 != y.f3) with
            | false =>
              have hp := Lib.hid (hno.out (by rw [c5]; rfl))
              clear hno hye
              go_wp2
              go_quiet (fail)
              go_wp2
              go_roundw
              case rel => exact ⟨k + 1, by omega, by go_num, by rw [hP1.out, hp.out]; exact hO.out.below (pw_below_drewN (Below.refl _ _) _), below_then hbw.out hbw.out.size (pw_below_drewN (Below.refl _ _) _)⟩
              case measure => simp [intOf]; omega
            | true =>
              have hbD : Below wr.heap.size wr wr.drew := below_drew (Below.refl _ _)
              have hbD2 := below_then hbw.out hbw.out.size hbD
              have hca := Lib.hid (hwr.out wr.drew hbD2 v.f0)
              have hOD := Lib.hid (hO.out.below hbD)
              replace hbD2 := Lib.hid hbD2
              clear hbD hO hbw
              have hHeld := Lib.hid (hTS.out _ hbD2.out)
              clear g0 g1 g2 g3 g4 g5 g6 g7 g8 g9 v0 v1
              go_wp2
              go_region_held3 (fun W' => W'.cell? (ad.add (p * 10)) = some (.int .i64 y.f0) ∧ W'.cell? ⟨(ad.add (p * 10)).block, (ad.add (p * 10)).off + 1, none⟩ = some (.int .i64 y.f1) ∧ W'.cell? ⟨(ad.add (p * 10)).block, (ad.add (p * 10)).off + 2, none⟩ = some (.int .i64 y.f2) ∧ W'.cell? ⟨(ad.add (p * 10)).block, (ad.add (p * 10)).off + 3, none⟩ = some (.int .u64 y.f3) ∧ W'.cell? ⟨(ad.add (p * 10)).block, (ad.add (p * 10)).off + 4, none⟩ = some (.slice B4 y.f4.length d4) ∧ W'.cell? ⟨(ad.add (p * 10)).block, (ad.add (p * 10)).off + 5, none⟩ = some (.slice B5 y.f5.length d5) ∧ W'.cell? ⟨(ad.add (p * 10)).block, (ad.add (p * 10)).off + 6, none⟩ = some (.int .i64 y.f6.f0) ∧ W'.cell? ⟨(ad.add (p * 10)).block, (ad.add (p * 10)).off + 7, none⟩ = some (.int .i64 y.f6.f1) ∧ W'.cell? ⟨(ad.add (p * 10)).block, (ad.add (p * 10)).off + 8, none⟩ = some (.int .u64 y.f6.f2) ∧ W'.cell? ⟨(ad.add (p * 10)).block, (ad.add (p * 10)).off + 9, none⟩ = some (.slice B9 y.f6.f3.length d9) ∧ W'.cell? (av.add (k * 4)) = some (.string v.f0) ∧ W'.cell? ⟨(av.add (k * 4)).block, (av.add (k * 4)).off + 1, none⟩ = some (.int .u64 v.f1)) (first | exact hTS.out _ hB6.out | exact hHeld.out) (first | (go_at_call 80; refine hca.out.mono ?_; rintro e w6 ⟨rfl, hb6⟩; have hO6 := Lib.hid (hOD.out.below hb6); have hB6 := Lib.hid (below_then hbD2.out hbD2.out.size hb6); clear hb6))
              cases c6 : wroteB y v.f0 with
              | false =>
                have hp := Lib.hid (hno.out (by rw [c6, Bool.and_false]))
                clear hno hye
                go_wp2
                go_roundw
                case rel => exact ⟨k + 1, by omega, by go_num, by rw [hP1.out, hp.out]; exact hO6.out, hB6.out⟩
                case measure => simp [intOf]; omega
              | true =>
                have hp := Lib.hid (hye.out (by rw [c5, c6]; rfl))
                have z1 := hvv.out _ hB6.out
                have hone := Lib.hid (oneID v.f1)
                clear hno hye hca hOD
                go_wp2_with (first
                  | (at_builtin; refine append_plain (P := Tryz.prog) (R := RID) (w0 := w) (W := w6) w.heap.size rfl (.tmp 85) (.tmp 91) 40 31 (.int .u64 0) 1 8 rfl Tryz.underlying40 infoID rfl (by decide) (by decide) (.slice RA5 n5 rc5) P v.f1 [.int .u64 v.f1] rfl (by simp [Act.eval]) rfl rfl (by exact hone.out) (by exact hO6.out) (by exact hB6.out) (by exact hB6.out.size) (by exact hs5.out) (n5 + 1) (by exact hl1.out) ?_; intro A7 c7 W7 own7 bel7 _gr7; replace own7 := Lib.hid own7; replace bel7 := Lib.hid bel7; clear _gr7)
                  | go_in)
                go_roundw
                case rel => exact ⟨k + 1, by omega, by go_num, by rw [hP1.out, hp.out]; exact own7.out, bel7.out⟩
                case measure => simp [intOf]; omega
          · obtain rfl : k = vs.length := by omega
            rw [mI_all, ← hL.out] at hO
            obtain ⟨RA5, rc5, rfl⟩ := slice_of hO rfl
            replace hO := Lib.hid hO
            replace hbw := Lib.hid hbw
            go_wp2
            go_ret
            exact ⟨RA5, rc5, rfl, hO.out, hbw.out⟩
      | false =>
        by_cases hqp : q < (p : Int)
        · rw [if_pos (by simp [hqp])] at hL2
          have b1 : decide (q < (p : Int)) = true := decide_eq_true hqp
          subst hL2
          clear hL hdn hrq hfl
          go_wp2_with (first | (go_at_call 78; refine hca1.out.mono ?_; rintro e W2 ⟨rfl, hb2⟩; have hB2 := Lib.hid (below_then hB.out hB.out.size hb2); clear hb2) | go_in)
          go_ret
          exact ⟨none, 0, rfl, OwnRow.none_ _ _ _ _ _, hB2.out⟩
        · have b1 : decide (q < (p : Int)) = false := decide_eq_false hqp
          obtain ⟨n, rfl⟩ : ∃ n : Nat, q = n := ⟨q.toNat, by omega⟩
          have hdn2 := Lib.hid fun W hb => hdn.out W hb n (hfl.out n rfl)
          have b2 : decide (n < p) = false := decide_eq_false (by omega)
          have b3 : p ≤ n := by omega
          rw [Int.toNat_natCast, b1] at hL2
          clear hL hdn hrq hfl hge
          generalize doneB l y p n = dn at *
          cases dn with
          | false =>
            rw [if_pos (by simp)] at hL2
            subst hL2
            go_wp2_with (first | (go_at_call 78; refine hca1.out.mono ?_; rintro e W2 ⟨rfl, hb2⟩; have hB2 := Lib.hid (below_then hB.out hB.out.size hb2); have hca2 := Lib.hid (hdn2.out W2 hB2.out); clear hb2) | (go_at_call 79; refine hca2.out.mono ?_; rintro e W3 ⟨rfl, hb3⟩; have hB3 := Lib.hid (below_then hB2.out hB2.out.size hb3); clear hb3) | go_in)
            go_ret
            exact ⟨none, 0, rfl, OwnRow.none_ _ _ _ _ _, hB3.out⟩
          | true =>
            rw [if_neg (by simp)] at hL2
            replace hL2 := Lib.hid hL2
            have hL := hL2
            clear hL2
            go_wp2_with (first | (go_at_call 78; refine hca1.out.mono ?_; rintro e W2 ⟨rfl, hb2⟩; have hB2 := Lib.hid (below_then hB.out hB.out.size hb2); have hca2 := Lib.hid (hdn2.out W2 hB2.out); clear hb2) | (go_at_call 79; refine hca2.out.mono ?_; rintro e W3 ⟨rfl, hb3⟩; have hB3 := Lib.hid (below_then hB2.out hB2.out.size hb3); clear hb3) | go_in)
            clear hB hB2 hca1 hca2 hdn2
            go_loopw [11, 12] (fun s11 s12 wr => RelM2 w y vs s11 s12 wr) (fun _ s12 _ => vs.length - (intOf s12).toNat)
            case atStart => exact ⟨0, Nat.zero_le _, rfl, OwnRow.none_ _ _ _ _ _, hB3.out⟩
            case round =>
              clear hB3
              obtain ⟨k, hk, rfl, hO, hbw⟩ := hrel
              by_cases hkl : k < vs.length
              · have hnx := mI_succ (y := y) hkl
                have hpl := mI_len y vs k
                obtain ⟨g0, g1, g2, g3, g4, g5, g6, g7, g8, g9⟩ := hgs.out _ hbw
                obtain ⟨av, A3, c3', hav, v0, v1, v2, v3, hx1, hx2⟩ := ver_at (hV.out _ (Below.refl _ _)) hkl
                obtain rfl := hav
                have hvv := Lib.hid fun (W : World) (hb : Below w.heap.size w W) => pw_cell_below hb v1
                have hTS : Hid (∀ W', Below w.heap.size w W' → W'.cell? (ad.add (p * 10)) = some (.int .i64 y.f0) ∧ W'.cell? ⟨(ad.add (p * 10)).block, (ad.add (p * 10)).off + 1, none⟩ = some (.int .i64 y.f1) ∧ W'.cell? ⟨(ad.add (p * 10)).block, (ad.add (p * 10)).off + 2, none⟩ = some (.int .i64 y.f2) ∧ W'.cell? ⟨(ad.add (p * 10)).block, (ad.add (p * 10)).off + 3, none⟩ = some (.int .u64 y.f3) ∧ W'.cell? ⟨(ad.add (p * 10)).block, (ad.add (p * 10)).off + 4, none⟩ = some (.slice B4 y.f4.length d4) ∧ W'.cell? ⟨(ad.add (p * 10)).block, (ad.add (p * 10)).off + 5, none⟩ = some (.slice B5 y.f5.length d5) ∧ W'.cell? ⟨(ad.add (p * 10)).block, (ad.add (p * 10)).off + 6, none⟩ = some (.int .i64 y.f6.f0) ∧ W'.cell? ⟨(ad.add (p * 10)).block, (ad.add (p * 10)).off + 7, none⟩ = some (.int .i64 y.f6.f1) ∧ W'.cell? ⟨(ad.add (p * 10)).block, (ad.add (p * 10)).off + 8, none⟩ = some (.int .u64 y.f6.f2) ∧ W'.cell? ⟨(ad.add (p * 10)).block, (ad.add (p * 10)).off + 9, none⟩ = some (.slice B9 y.f6.f3.length d9) ∧ W'.cell? (av.add (k * 4)) = some (.string vs[k].f0) ∧ W'.cell? ⟨(av.add (k * 4)).block, (av.add (k * 4)).off + 1, none⟩ = some (.int .u64 vs[k].f1)) := Lib.hid fun W' hb => by
                  obtain ⟨g0, g1, g2, g3, g4, g5, g6, g7, g8, g9⟩ := hgs.out _ hb
                  exact ⟨g0, g1, g2, g3, g4, g5, g6, g7, g8, g9, pw_cell_below hb v0, pw_cell_below hb v1⟩
                replace v0 := pw_cell_below hbw v0
                replace v1 := pw_cell_below hbw v1
                clear v2 v3 hx1 hx2
                have a4 : IntKind.i64.wrap ((k : Int) + 1) = (k : Int) + 1 := IntWalk.i64_in _ (by omega)
                have hs5 : ((mI y vs k).length + 1) * 8 ≤ 140737488355328 := by
                  have := hvs.out
                  omega
                unfold rB at hnx
                generalize mI y vs k = P at *
                generalize hP1 : mI y vs (k + 1) = P1 at *
                generalize hv : vs[k] = v at *
                obtain ⟨n5, hn5⟩ : ∃ n, P.length = n := ⟨_, rfl⟩
                obtain ⟨RA5, rc5, rfl⟩ := slice_of hO hn5
                have hl1 : (P ++ [v.f1]).length = n5 + 1 := by rw [List.length_append, hn5]; rfl
                clear hpl
                replace hP1 := Lib.hid hP1
                replace hv := Lib.hid hv
                replace hs5 := Lib.hid hs5
                replace hl1 := Lib.hid hl1
                replace hn5 := Lib.hid hn5
                have hno : (v.f1 != y.f3 && wroteB y v.f0) = false → P1 = P := fun h => by rw [hnx, if_neg (by rw [h]; decide), List.append_nil]
                have hye : (v.f1 != y.f3 && wroteB y v.f0) = true → P1 = P ++ [v.f1] := fun h => by rw [hnx, if_pos h]
                clear hnx
                replace hno := Lib.hid hno
                replace hye := Lib.hid hye
                replace hO := Lib.hid hO
                replace hbw := Lib.hid hbw
                cases c5 : (v.f1 != y.f3) with
                | false =>
                  have hp := Lib.hid (hno.out (by rw [c5]; rfl))
                  clear hno hye
                  go_wp2
                  go_quiet (fail)
                  go_wp2
                  go_roundw
                  case rel => exact ⟨k + 1, by omega, by go_num, by rw [hP1.out, hp.out]; exact hO.out.below (pw_below_drewN (Below.refl _ _) _), below_then hbw.out hbw.out.size (pw_below_drewN (Below.refl _ _) _)⟩
                  case measure => simp [intOf]; omega
                | true =>
                  have hbD : Below wr.heap.size wr wr.drew := below_drew (Below.refl _ _)
                  have hbD2 := below_then hbw.out hbw.out.size hbD
                  have hca := Lib.hid (hwr.out wr.drew hbD2 v.f0)
                  have hOD := Lib.hid (hO.out.below hbD)
                  replace hbD2 := Lib.hid hbD2
                  clear hbD hO hbw
                  have hHeld := Lib.hid (hTS.out _ hbD2.out)
                  clear g0 g1 g2 g3 g4 g5 g6 g7 g8 g9 v0 v1
                  go_wp2
                  go_region_held3 (fun W' => W'.cell? (ad.add (p * 10)) = some (.int .i64 y.f0) ∧ W'.cell? ⟨(ad.add (p * 10)).block, (ad.add (p * 10)).off + 1, none⟩ = some (.int .i64 y.f1) ∧ W'.cell? ⟨(ad.add (p * 10)).block, (ad.add (p * 10)).off + 2, none⟩ = some (.int .i64 y.f2) ∧ W'.cell? ⟨(ad.add (p * 10)).block, (ad.add (p * 10)).off + 3, none⟩ = some (.int .u64 y.f3) ∧ W'.cell? ⟨(ad.add (p * 10)).block, (ad.add (p * 10)).off + 4, none⟩ = some (.slice B4 y.f4.length d4) ∧ W'.cell? ⟨(ad.add (p * 10)).block, (ad.add (p * 10)).off + 5, none⟩ = some (.slice B5 y.f5.length d5) ∧ W'.cell? ⟨(ad.add (p * 10)).block, (ad.add (p * 10)).off + 6, none⟩ = some (.int .i64 y.f6.f0) ∧ W'.cell? ⟨(ad.add (p * 10)).block, (ad.add (p * 10)).off + 7, none⟩ = some (.int .i64 y.f6.f1) ∧ W'.cell? ⟨(ad.add (p * 10)).block, (ad.add (p * 10)).off + 8, none⟩ = some (.int .u64 y.f6.f2) ∧ W'.cell? ⟨(ad.add (p * 10)).block, (ad.add (p * 10)).off + 9, none⟩ = some (.slice B9 y.f6.f3.length d9) ∧ W'.cell? (av.add (k * 4)) = some (.string v.f0) ∧ W'.cell? ⟨(av.add (k * 4)).block, (av.add (k * 4)).off + 1, none⟩ = some (.int .u64 v.f1)) (first | exact hTS.out _ hB6.out | exact hHeld.out) (first | (go_at_call 80; refine hca.out.mono ?_; rintro e w6 ⟨rfl, hb6⟩; have hO6 := Lib.hid (hOD.out.below hb6); have hB6 := Lib.hid (below_then hbD2.out hbD2.out.size hb6); clear hb6))
                  cases c6 : wroteB y v.f0 with
                  | false =>
                    have hp := Lib.hid (hno.out (by rw [c6, Bool.and_false]))
                    clear hno hye
                    go_wp2
                    go_roundw
                    case rel => exact ⟨k + 1, by omega, by go_num, by rw [hP1.out, hp.out]; exact hO6.out, hB6.out⟩
                    case measure => simp [intOf]; omega
                  | true =>
                    have hp := Lib.hid (hye.out (by rw [c5, c6]; rfl))
                    have z1 := hvv.out _ hB6.out
                    have hone := Lib.hid (oneID v.f1)
                    clear hno hye hca hOD
                    go_wp2_with (first
                      | (at_builtin; refine append_plain (P := Tryz.prog) (R := RID) (w0 := w) (W := w6) w.heap.size rfl (.tmp 85) (.tmp 91) 40 31 (.int .u64 0) 1 8 rfl Tryz.underlying40 infoID rfl (by decide) (by decide) (.slice RA5 n5 rc5) P v.f1 [.int .u64 v.f1] rfl (by simp [Act.eval]) rfl rfl (by exact hone.out) (by exact hO6.out) (by exact hB6.out) (by exact hB6.out.size) (by exact hs5.out) (n5 + 1) (by exact hl1.out) ?_; intro A7 c7 W7 own7 bel7 _gr7; replace own7 := Lib.hid own7; replace bel7 := Lib.hid bel7; clear _gr7)
                      | go_in)
                    go_roundw
                    case rel => exact ⟨k + 1, by omega, by go_num, by rw [hP1.out, hp.out]; exact own7.out, bel7.out⟩
                    case measure => simp [intOf]; omega
              · obtain rfl : k = vs.length := by omega
                rw [mI_all, ← hL.out] at hO
                obtain ⟨RA5, rc5, rfl⟩ := slice_of hO rfl
                replace hO := Lib.hid hO
                replace hbw := Lib.hid hbw
                go_wp2
                go_ret
                exact ⟨RA5, rc5, rfl, hO.out, hbw.out⟩
end Go.Proofs.YtiibjgnmdieicaaGreat.Hist
