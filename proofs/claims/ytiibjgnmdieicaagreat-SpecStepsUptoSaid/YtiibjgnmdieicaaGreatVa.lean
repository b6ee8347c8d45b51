/- the document's history: words of its loops. -/
import Derived.Test.YtiibjgnmdieicaaGreatQi
import Derived.Test.YtiibjgnmdieicaaGreatUc
import Derived.Test.YtiibjgnmdieicaaGreatQb
namespace Go.Proofs.YtiibjgnmdieicaaGreat.Hist
open Go.RowKit Go.Proofs.YtiibjgnmdieicaaGreatW.PrintWords Go.Sort
def okA (x y : Evt) : Bool := (y.f0 == 3) && y.f1 == x.f1 && y.f2 == x.f2
theorem reqB_iff {a x : Evt} : reqB a x = true ↔ x.f0 ≠ 3 ∧ x.f1 = a.f1 ∧ x.f2 = a.f2 := by
  unfold reqB
  simp only [Bool.and_eq_true, bne_iff_ne, beq_iff_eq, ne_eq, and_assoc]
theorem okA_iff {x y : Evt} : okA x y = true ↔ y.f0 = 3 ∧ y.f1 = x.f1 ∧ y.f2 = x.f2 := by
  unfold okA
  simp only [Bool.and_eq_true, beq_iff_eq, and_assoc]
def rqC (c : Int) (y : Evt) : Bool := (y.f0 != 3) && y.f1 == c
def cntR (l : List Evt) (c : Int) (i : Nat) : Nat := ((l.take i).filter (rqC c)).length
def lastR (l : List Evt) (c : Int) (i : Nat) : Int := ((l.take i).filter (rqC c)).foldl (fun m y => max m y.f3) 0
def rwB (q : Evt) (a : Ans) : Bool := (a.f2 == q.f3) && ((a.f1 == 5 || a.f1 == 6) == (a.f2 == 0)) && (a.f1 != 2) && ((a.f3.length : Int) == 0)
def rrB (q : Evt) (a : Ans) (bh : Bool) : Bool :=
  if ((a.f2 != 0) || (a.f1 == 4) || (a.f1 == 6) || ((a.f1 == 5) && !bh)) = true then false else if a.f1 = 1 then keysB a.f3 q.f5 else (a.f3.length : Int) == 0
def raskB (l : List Evt) (i : Nat) (x : Evt) (nx : Option Evt) : Bool :=
  if x.f2 ≠ (cntR l x.f1 i : Int) + 1 then false else if x.f0 = 2 then true else if x.f3 = 0 then nextB x nx
  else decide (65536 ≤ x.f3) && (cliOf x.f3 == x.f1) && decide (lastR l x.f1 i < x.f3)
/-- an answer that fits its request -/
def RAns (l : List Evt) (i : Nat) (x : Evt) : Prop :=
  ∃ k, ∃ hk : k < l.length, k < i ∧ reqB x l[k] = true ∧ (∀ t (ht : t < l.length), t < k → reqB x l[t] = false) ∧ (∀ j (hj : j < l.length), k ≤ j → j < i → okA x l[j] = false) ∧
    (if l[k].f0 = 1 then rwB l[k] x.f6 else rrB l[k] x.f6 (decide (k + 1 = i))) = true
def RStep (l : List Evt) (i : Nat) (x : Evt) (nx : Option Evt) : Prop := if x.f0 = 3 then RAns l i x else raskB l i x nx = true
theorem cntR_succ {l : List Evt} {j : Nat} (h : j < l.length) (c : Int) : cntR l c (j + 1) = cntR l c j + if rqC c l[j] = true then 1 else 0 := by
  unfold cntR
  rw [← List.take_append_getElem h, List.filter_append, List.length_append]
  congr 1
  simp only [List.filter_cons, List.filter_nil]
  split <;> rfl
theorem lastR_succ {l : List Evt} {j : Nat} (h : j < l.length) (c : Int) : lastR l c (j + 1) = if rqC c l[j] = true then max (lastR l c j) l[j].f3 else lastR l c j := by
  unfold lastR
  rw [← List.take_append_getElem h, List.filter_append, List.foldl_append]
  simp only [List.filter_cons, List.filter_nil]
  split <;> rfl
theorem cntR_le (l : List Evt) (c : Int) (k : Nat) : cntR l c k ≤ k := by
  unfold cntR
  exact Nat.le_trans (List.length_filter_le _ _) (by rw [List.length_take]; omega)
theorem fidx_take {l : List Evt} {i k : Nat} {p : Evt → Bool} (h2 : k < i) (hk : k < l.length) (hp : p l[k] = true) (hb : ∀ t (ht : t < l.length), t < k → p l[t] = false) : fidx p (l.take i) = (k : Int) := by
  refine fidx_at (j := k) (by rw [List.length_take]; omega) (fun t ht htk => ?_) (by rw [List.getElem_take]; exact hp)
  rw [List.getElem_take]
  exact hb t (by omega) htk
theorem fidx_take_no {l : List Evt} {i : Nat} {p : Evt → Bool} (h : ∀ t (ht : t < l.length), t < i → p l[t] = false) : fidx p (l.take i) = -1 := by
  refine fidx_none fun t ht => ?_
  rw [List.length_take] at ht
  rw [List.getElem_take]
  exact h t (by omega) (by omega)
def RelSg (w0 : World) (l : List Evt) (a b : Nat) (p : Evt → Bool) (s : Value) (wr : World) : Prop := ∃ j : Nat, a ≤ j ∧ (j ≤ b ∨ j = a) ∧ s = .int .i64 j ∧ (∀ t (ht : t < l.length), a ≤ t → t < j → p l[t] = false) ∧ Below w0.heap.size w0 wr
theorem seg_next {l : List Evt} {a k : Nat} {p : Evt → Bool} (hp : ∀ t (ht : t < l.length), a ≤ t → t < k → p l[t] = false) (hk : k < l.length) (h : p l[k] = false) : ∀ t (ht : t < l.length), a ≤ t → t < k + 1 → p l[t] = false := fun t ht h0 h1 => by
  by_cases e : t = k
  · subst e; exact h
  · exact hp t ht h0 (by omega)
end Go.Proofs.YtiibjgnmdieicaaGreat.Hist
/- the document's order: its words. -/
namespace Go.Proofs.YtiibjgnmdieicaaGreat.Hist
open Go.RowKit Go.Proofs.YtiibjgnmdieicaaGreatW.PrintWords Go.Sort
def wrB (id : Int) (x : Evt) : Bool := (x.f0 == 1) && (x.f3 == id) && (id != 0)
/-- is the one at i of those that are left free? -/
def FreeR (E : Nat → Nat → Prop) (left : List Nat) (i : Nat) : Prop := ∃ hi : i < left.length, ∀ k (hk : k < left.length), k ≠ i → ¬ E left[k] left[i]
/-- one is taken after another: the first that is free -/
inductive GR (E : Nat → Nat → Prop) (W : List Nat) : List Nat → List Nat → Prop
  | start : GR E W [] W
  | next {pre left : List Nat} {i : Nat} (hi : i < left.length) : GR E W pre left → FreeR E left i → (∀ t, t < i → ¬ FreeR E left t) → GR E W (pre ++ [left[i]]) (left.take i ++ left.drop (i + 1))
end Go.Proofs.YtiibjgnmdieicaaGreat.Hist
/- the document's history: zero, answer, May, walked. -/
namespace Go.Proofs.YtiibjgnmdieicaaGreat.Hist
open Go.RowKit Go.Proofs.YtiibjgnmdieicaaGreatW.PrintWords
set_option maxHeartbeats 4000000 in
set_option maxRecDepth 100000 in
theorem zero_any (a : Ans) (A9 : Option Addr) (c9 : Nat) (w : World) :
    Calls Tryz.prog 66 #[.agg #[.int .i64 a.f0, .int .i64 a.f1, .int .u64 a.f2, .slice A9 a.f3.length c9]] w fun e w' => e = .returned (.bool (emptyB a)) ∧ Below w.heap.size w w' := by
  obtain ⟨r, hr⟩ : ∃ r, r = emptyB a := ⟨_, rfl⟩
  rw [← hr]
  unfold emptyB at hr
  generalize a.f3.length = n at *
  cases b0 : (a.f0 == 0) <;> cases b1 : (a.f1 == 0) <;> cases b2 : (a.f2 == 0) <;> cases b3 : ((n : Int) == 0) <;> rw [b0, b1, b2, b3] at hr <;> replace hr := Lib.hid hr
  all_goals
    go_enter Tryz.func66, Tryz.ntmps66
    go_wp2
    go_ret
    exact ⟨by rw [hr.out]; rfl, (Below.refl _ _).alloc (Nat.le_refl _) _⟩
set_option maxHeartbeats 8000000 in
set_option maxRecDepth 100000 in
theorem ranswer_any (x : Evt) (A4 : Option Addr) (c4 : Nat) (A5 : Option Addr) (c5 : Nat) (A9 : Option Addr) (c9 : Nat) (w : World) (hC : Kd.C kVer w A9 x.f6.f3.length x.f6.f3) :
    Calls Tryz.prog 67 #[.agg #[.int .i64 x.f0, .int .i64 x.f1, .int .i64 x.f2, .int .u64 x.f3, .slice A4 x.f4.length c4, .slice A5 x.f5.length c5, .int .i64 x.f6.f0, .int .i64 x.f6.f1, .int .u64 x.f6.f2, .slice A9 x.f6.f3.length c9]] w fun e w' => e = .returned (.bool (may3 x)) ∧ Below w.heap.size w w' := by
  have hm : x.f6.f3.length ≤ 9223372036854775807 := hC.2.1
  obtain ⟨r, hr⟩ : ∃ r, r = may3 x := ⟨_, rfl⟩
  rw [← hr]
  unfold may3 at hr
  generalize x.f4.length = n4 at *
  generalize x.f5.length = n5 at *
  replace hC := Lib.hid hC
  by_cases p0 : x.f3 ≠ 0
  · rw [if_pos (by simp [p0])] at hr
    have d0 : (x.f3 != 0) = true := by simpa using p0
    replace p0 := Lib.hid p0
    replace hr := Lib.hid hr
    clear hC
    go_enter Tryz.func67, Tryz.ntmps67
    go_wp2
    go_ret
    exact ⟨by rw [hr.out]; rfl, below2 _ _ _⟩
  · skip
    have d0 : (x.f3 != 0) = false := by simpa using p0
    by_cases p1 : 0 < n4
    · rw [if_pos (by simp [p1])] at hr
      have d1 : decide ((0 : Int) < (n4 : Int)) = true := decide_eq_true (by omega)
      have e1 : (0 : Int) < (n4 : Int) := by omega
      replace p1 := Lib.hid p1
      replace hr := Lib.hid hr
      clear hC
      go_enter Tryz.func67, Tryz.ntmps67
      go_wp2
      go_ret
      exact ⟨by rw [hr.out]; rfl, below2 _ _ _⟩
    · skip
      have d1 : decide ((0 : Int) < (n4 : Int)) = false := decide_eq_false (by omega)
      have e1 : ¬ (0 : Int) < (n4 : Int) := by omega
      by_cases p2 : 0 < n5
      · rw [if_pos (by simp [p2])] at hr
        have d2 : decide ((0 : Int) < (n5 : Int)) = true := decide_eq_true (by omega)
        have e2 : (0 : Int) < (n5 : Int) := by omega
        replace p2 := Lib.hid p2
        replace hr := Lib.hid hr
        clear hC
        go_enter Tryz.func67, Tryz.ntmps67
        go_wp2
        go_ret
        exact ⟨by rw [hr.out]; rfl, below2 _ _ _⟩
      · skip
        have d2 : decide ((0 : Int) < (n5 : Int)) = false := decide_eq_false (by omega)
        have e2 : ¬ (0 : Int) < (n5 : Int) := by omega
        by_cases p3 : x.f6.f0 ≠ x.f2
        · rw [if_pos (by simp [p3])] at hr
          have d3 : (x.f6.f0 != x.f2) = true := by simpa using p3
          replace p3 := Lib.hid p3
          replace hr := Lib.hid hr
          clear hC
          go_enter Tryz.func67, Tryz.ntmps67
          go_wp2
          go_ret
          exact ⟨by rw [hr.out]; rfl, below2 _ _ _⟩
        · skip
          have d3 : (x.f6.f0 != x.f2) = false := by simpa using p3
          by_cases p4 : x.f6.f1 < 1
          · rw [if_pos (by simp [p4])] at hr
            replace hr := Lib.hid hr
            clear hC
            go_enter Tryz.func67, Tryz.ntmps67
            go_wp2
            go_ret
            exact ⟨by rw [hr.out]; rfl, below2 _ _ _⟩
          · skip
            by_cases p5 : 6 < x.f6.f1
            · rw [if_pos (by simp [p5])] at hr
              replace hr := Lib.hid hr
              clear hC
              go_enter Tryz.func67, Tryz.ntmps67
              go_wp2
              go_ret
              exact ⟨by rw [hr.out]; rfl, below2 _ _ _⟩
            · skip
              rw [if_neg (by simp only [not_or]; exact ⟨p0, p1, p2, p3, p4, p5⟩)] at hr
              replace p0 := Lib.hid p0
              replace p3 := Lib.hid p3
              obtain rfl : n4 = 0 := by omega
              obtain rfl : n5 = 0 := by omega
              generalize hvs : x.f6.f3 = vs at *
              obtain ⟨w2, hw2⟩ : ∃ w2, w2 = (w.alloc (.cells #[.int .i64 x.f0, .int .i64 x.f1, .int .i64 x.f2, .int .u64 x.f3, .slice A4 0 c4, .slice A5 0 c5, .int .i64 x.f6.f0, .int .i64 x.f6.f1, .int .u64 x.f6.f2, .slice A9 vs.length c9] 38)).alloc (.cells #[.int .i64 x.f6.f0, .int .i64 x.f6.f1, .int .u64 x.f6.f2, .slice A9 vs.length c9] 36) := ⟨_, rfl⟩
              have hbe : Below w.heap.size w w2 := by rw [hw2]; exact below2 _ _ _
              have hX : w2.heap[w.heap.size + 1]? = some (.cells #[.int .i64 x.f6.f0, .int .i64 x.f6.f1, .int .u64 x.f6.f2, .slice A9 vs.length c9] 36 (0, 0)) := by
                rw [hw2]
                have := heap_alloc_new (w.alloc (.cells #[.int .i64 x.f0, .int .i64 x.f1, .int .i64 x.f2, .int .u64 x.f3, .slice A4 0 c4, .slice A5 0 c5, .int .i64 x.f6.f0, .int .i64 x.f6.f1, .int .u64 x.f6.f2, .slice A9 vs.length c9] 38)) (.cells #[.int .i64 x.f6.f0, .int .i64 x.f6.f1, .int .u64 x.f6.f2, .slice A9 vs.length c9] 36)
                simpa using this
              have hC2 := Lib.hid (Kd.C_below hC.out hbe)
              replace hX := Lib.hid hX
              replace hbe := Lib.hid hbe
              replace hw2 := Lib.hid hw2
              replace hr := Lib.hid hr
              clear hvs hC
              go_enter Tryz.func67, Tryz.ntmps67
              go_wp2
              rw [← hw2.out]
              clear d1 d2 d0 d3 p0 p3
              go_loopw [4] (fun s wr => RelI w2 (fun v : Ver => !bareB v) vs s wr) (fun s _ => vs.length - (intOf s).toNat)
              case atStart => exact ⟨0, Nat.zero_le _, rfl, (fun t _ h => absurd h (Nat.not_lt_zero t)), Below.refl _ _⟩
              case round =>
                obtain ⟨j, hj, rfl, hp, hB⟩ := hrel
                have hX2 := blk_below hX.out hB
                have e3 := blk_cell hX2 3
                have el := blk_lt hX2
                simp only [List.getElem?_toArray, List.getElem?_cons_zero, List.getElem?_cons_succ] at e3
                replace hX2 := Lib.hid hX2
                by_cases hlt : j < vs.length
                · obtain ⟨av, A3, c3, rfl, v0, v1, v2, v3, hx1, hx2⟩ := ver_at (Kd.C_below hC2.out hB) hlt
                  clear hx1 hx2
                  have hnx : (!bareB vs[j]) = false → ∀ t, (ht : t < vs.length) → t < j + 1 → (!bareB vs[t]) = false := fun h t ht h1 => by
                    by_cases e : t = j
                    · subst e; exact h
                    · exact hp t ht (by omega)
                  have hye : (!bareB vs[j]) = true → r = false := fun h => by
                    rw [hr.out, Bool.not_eq_false', List.any_eq_true]
                    exact ⟨_, List.getElem_mem hlt, h⟩
                  unfold bareB emptyS at hnx hye
                  generalize vs[j] = v at *
                  generalize v.f3.length = n at *
                  have hal := fun (W : World) (o : Obj) (hb : Below w2.heap.size w2 W) => below_alloc hb o
                  replace hal := Lib.hid hal
                  replace hnx := Lib.hid hnx
                  replace hye := Lib.hid hye
                  replace hp := Lib.hid hp
                  replace hB := Lib.hid hB
                  cases b0 : (v.f1 == 0) with
                  | false =>
                    have hnx2 := Lib.hid (hnx.out (by simp only [bne, b0]; rfl))
                    go_wp2
                    go_roundw
                    case rel => exact ⟨j + 1, by omega, by go_num, hnx2.out, hal.out _ _ hB.out⟩
                    case measure => simp [intOf]; omega
                  | true =>
                    cases b1 : v.f2.toList.isEmpty with
                    | false =>
                      obtain rfl := hye.out (by simp only [bne, b0, b1]; rfl)
                      go_wp2
                      go_ret
                      exact ⟨rfl, below_then hbe.out hbe.out.size (hal.out _ _ hB.out)⟩
                    | true =>
                      by_cases b2 : 0 < n
                      · have d2 : decide ((0 : Int) < (n : Int)) = true := decide_eq_true (by omega)
                        obtain rfl := hye.out (by rw [show ((n : Int) == 0) = false from by rw [beq_eq_false_iff_ne]; omega]; simp only [bne, b0, b1]; rfl)
                        replace b2 := Lib.hid b2
                        go_wp2
                        go_ret
                        exact ⟨rfl, below_then hbe.out hbe.out.size (hal.out _ _ hB.out)⟩
                      · have d2 : decide ((0 : Int) < (n : Int)) = false := decide_eq_false (by omega)
                        have hnx2 := Lib.hid (hnx.out (by rw [show ((n : Int) == 0) = true from by rw [beq_iff_eq]; omega]; simp only [bne, b0, b1]; rfl))
                        obtain rfl : n = 0 := by omega
                        go_wp2
                        go_roundw
                        case rel => exact ⟨j + 1, by omega, by go_num, hnx2.out, hal.out _ _ hB.out⟩
                        case measure => simp [intOf]; omega
                · have hno := Lib.hid fun h => hr.out.trans (congrArg (!·) (List.any_eq_false.2 h))
                  have hr1 : r = true := hno.out fun y hy => by
                    obtain ⟨t, ht, rfl⟩ := List.getElem_of_mem hy
                    have h : (!bareB vs[t]) = false := hp t ht (by omega)
                    rw [h]
                    decide
                  subst hr1
                  replace hB := Lib.hid hB
                  clear hp hno
                  go_wp2
                  go_ret
                  exact ⟨rfl, below_then hbe.out hbe.out.size hB.out⟩
theorem below1 (w : World) (o : Obj) : Below w.heap.size w (w.alloc o) := (Below.refl _ _).alloc (Nat.le_refl _) _
set_option maxHeartbeats 8000000 in
set_option maxRecDepth 100000 in
theorem rmay_any (x : Evt) (A4 : Option Addr) (c4 : Nat) (A5 : Option Addr) (c5 : Nat) (A9 : Option Addr) (c9 : Nat) (w : World) (hC : Kd.C kVer w A9 x.f6.f3.length x.f6.f3) :
    Calls Tryz.prog 43 #[.agg #[.int .i64 x.f0, .int .i64 x.f1, .int .i64 x.f2, .int .u64 x.f3, .slice A4 x.f4.length c4, .slice A5 x.f5.length c5, .int .i64 x.f6.f0, .int .i64 x.f6.f1, .int .u64 x.f6.f2, .slice A9 x.f6.f3.length c9]] w fun e w' => e = .returned (.bool (mayB x)) ∧ Below w.heap.size w w' := by
  have hE := fun (o : Obj) => zero_any x.f6 A9 c9 (w.alloc o)
  have hF := fun (o : Obj) => ranswer_any x A4 c4 A5 c5 A9 c9 (w.alloc o) (Kd.C_below hC (below1 w o))
  obtain ⟨r, hr⟩ : ∃ r, r = mayB x := ⟨_, rfl⟩
  rw [← hr]
  unfold mayB at hr
  generalize may3 x = m3 at *
  generalize x.f4.length = n4 at *
  generalize x.f5.length = n5 at *
  generalize hem : emptyB x.f6 = em at *
  replace hE := Lib.hid hE
  replace hF := Lib.hid hF
  by_cases h1 : x.f1 < 0 ∨ 16 ≤ x.f1 ∨ x.f2 < 1
  · rw [if_pos h1] at hr
    replace hr := Lib.hid hr
    clear hC hF hem
    rcases Decidable.em (x.f1 < 0) with g1 | g1
    · clear h1
      go_enter Tryz.func43, Tryz.ntmps43
      go_wp2
      go_ret
      exact ⟨by rw [hr.out]; rfl, below1 _ _⟩
    · rcases Decidable.em (16 ≤ x.f1) with g2 | g2
      · clear h1
        go_enter Tryz.func43, Tryz.ntmps43
        go_wp2
        go_ret
        exact ⟨by rw [hr.out]; rfl, below1 _ _⟩
      · have g3 : x.f2 < 1 := by omega
        clear h1
        go_enter Tryz.func43, Tryz.ntmps43
        go_wp2
        go_ret
        exact ⟨by rw [hr.out]; rfl, below1 _ _⟩
  · rw [if_neg h1] at hr
    have g1 : ¬ x.f1 < 0 := by omega
    have g2 : ¬ 16 ≤ x.f1 := by omega
    have g3 : ¬ x.f2 < 1 := by omega
    clear h1
    by_cases k1 : x.f0 = 1
    · rw [if_pos k1] at hr
      have b1 : (x.f0 == 1) = true := beq_iff_eq.2 k1
      replace k1 := Lib.hid k1
      clear hC hF hem
      cases d1 : ((n5 : Int) == 0) <;> rw [d1] at hr <;> replace hr := Lib.hid hr
      · go_enter Tryz.func43, Tryz.ntmps43
        go_wp2
        go_ret
        exact ⟨by rw [hr.out]; rfl, below1 _ _⟩
      · go_enter Tryz.func43, Tryz.ntmps43
        go_wp2_with fail
        refine (hE.out _).mono ?_
        rintro e W ⟨rfl, hb⟩
        replace hb := Lib.hid hb
        go_wp2
        go_ret
        exact ⟨by rw [hr.out]; simp, (below1 _ _).trans (hb.out.mono (below1 _ _).size)⟩
    · rw [if_neg k1] at hr
      have b1 : (x.f0 == 1) = false := beq_eq_false_iff_ne.2 k1
      replace k1 := Lib.hid k1
      by_cases k2 : x.f0 = 2
      · rw [if_pos k2] at hr
        have b2 : (x.f0 == 2) = true := beq_iff_eq.2 k2
        replace k2 := Lib.hid k2
        clear hC hF hem
        cases d1 : (x.f3 == 0) <;> rw [d1] at hr
        · replace hr := Lib.hid hr
          go_enter Tryz.func43, Tryz.ntmps43
          go_wp2
          go_ret
          exact ⟨by rw [hr.out]; rfl, below1 _ _⟩
        · cases d2 : ((n4 : Int) == 0) <;> rw [d2] at hr <;> replace hr := Lib.hid hr
          · go_enter Tryz.func43, Tryz.ntmps43
            go_wp2
            go_ret
            exact ⟨by rw [hr.out]; rfl, below1 _ _⟩
          · go_enter Tryz.func43, Tryz.ntmps43
            go_wp2_with fail
            refine (hE.out _).mono ?_
            rintro e W ⟨rfl, hb⟩
            replace hb := Lib.hid hb
            go_wp2
            go_ret
            exact ⟨by rw [hr.out]; simp, (below1 _ _).trans (hb.out.mono (below1 _ _).size)⟩
      · rw [if_neg k2] at hr
        have b2 : (x.f0 == 2) = false := beq_eq_false_iff_ne.2 k2
        replace k2 := Lib.hid k2
        clear hE hem hC
        by_cases k3 : x.f0 = 3
        · rw [if_pos k3] at hr
          have b3 : (x.f0 == 3) = true := beq_iff_eq.2 k3
          replace k3 := Lib.hid k3
          subst hr
          go_enter Tryz.func43, Tryz.ntmps43
          go_wp2_with fail
          refine (hF.out _).mono ?_
          rintro e W ⟨rfl, hb⟩
          replace hb := Lib.hid hb
          go_wp2
          go_ret
          exact ⟨rfl, (below1 _ _).trans (hb.out.mono (below1 _ _).size)⟩
        · rw [if_neg k3] at hr
          have b3 : (x.f0 == 3) = false := beq_eq_false_iff_ne.2 k3
          replace k3 := Lib.hid k3
          subst hr
          clear hF
          go_enter Tryz.func43, Tryz.ntmps43
          go_wp2
          go_ret
          exact ⟨rfl, below1 _ _⟩
end Go.Proofs.YtiibjgnmdieicaaGreat.Hist
/- the document's history: its loops over the events, walked. -/
namespace Go.Proofs.YtiibjgnmdieicaaGreat.Hist
open Go.RowKit Go.Proofs.YtiibjgnmdieicaaGreatW.PrintWords Go.Sort
set_option maxHeartbeats 4000000 in
set_option maxRecDepth 100000 in
theorem rreq23_any (A : Option Addr) (c : Nat) (l : List Evt) (i : Nat) (hi : i < l.length) (w : World) (hC : kEvt.C w A l.length l) :
    Calls Tryz.prog 68 #[.slice A l.length c, .int .i64 i] w fun e w' => e = .returned (.int .i64 (fidx (reqB l[i]) (l.take i))) ∧ Below w.heap.size w w' := by
  have hm : l.length ≤ 9223372036854775807 := hC.2.1
  obtain ⟨r, hr⟩ : ∃ r, r = fidx (reqB l[i]) (l.take i) := ⟨_, rfl⟩
  rw [← hr]
  have hy : ∀ k (hk : k < l.length), k < i → (∀ t (ht : t < l.length), 0 ≤ t → t < k → reqB l[i] l[t] = false) → reqB l[i] l[k] = true → r = (k : Int) := fun k hk h1 h2 h3 => hr.trans (fidx_take h1 hk h3 fun t ht => h2 t ht (Nat.zero_le _))
  have hn : (∀ t (ht : t < l.length), 0 ≤ t → t < i → reqB l[i] l[t] = false) → r = -1 := fun h => hr.trans (fidx_take_no fun t ht => h t ht (Nat.zero_le _))
  clear hr
  obtain ⟨ad, A4, c4, A5, c5, A9, c9, rfl, q0, q1, q2, q3, q4, q5, q6, q7, q8, q9, hK, hl9, hk9⟩ := evt_at hC hi
  clear q0 q3 q4 q5 q6 q7 q8 q9 hK hl9 hk9
  generalize hy0 : l[i] = y at *
  replace hy0 := Lib.hid hy0
  have hqs := Lib.hid fun (W : World) (hb : Below w.heap.size w W) => And.intro (pw_cell_below hb q1) (pw_cell_below hb q2)
  clear q1 q2
  replace hC := Lib.hid hC
  replace hy := Lib.hid hy
  replace hn := Lib.hid hn
  go_enter Tryz.func68, Tryz.ntmps68
  go_wp2
  go_loopw [5] (fun s wr => RelSg w l 0 i (reqB y) s wr) (fun s _ => i - (intOf s).toNat)
  case atStart => exact ⟨0, Nat.le_refl _, .inr rfl, rfl, (fun t _ _ h => absurd h (Nat.not_lt_zero t)), Below.refl _ _⟩
  case round =>
    obtain ⟨j, h0, hj, rfl, hp, hB⟩ := hrel
    obtain ⟨q1, q2⟩ := hqs.out wr hB
    by_cases hlt : j < i
    · have hjl : j < l.length := by omega
      obtain ⟨ad', C4, e4, C5, e5, C9, e9, he, x0, x1, x2, x3, x4, x5, x6, x7, x8, x9, hK, hl9, hk9⟩ := evt_at (Kd.C_below hC.out hB) hjl
      cases he
      clear x3 x4 x5 x6 x7 x8 x9 hK hl9 hk9
      have hnx := seg_next (p := reqB y) hp hjl
      have hye := hy.out j hjl hlt hp
      have a1 : IntKind.i64.wrap ((j : Int) + 1) = (j : Int) + 1 := IntWalk.i64_in _ (by omega)
      unfold reqB at hnx hye
      generalize l[j] = e at *
      replace hnx := Lib.hid hnx
      replace hye := Lib.hid hye
      replace hp := Lib.hid hp
      replace hB := Lib.hid hB
      replace hj := Lib.hid hj
      replace h0 := Lib.hid h0
      cases b0 : (e.f0 != 3) <;> cases b1 : (e.f1 == y.f1) <;> cases b2 : (e.f2 == y.f2)
      case true.true.true =>
        obtain rfl := hye.out (by rw [b0, b1, b2]; rfl)
        go_wp2
        go_quiet (fail)
        go_wp2
        go_ret
        exact ⟨rfl, below_then hB.out hB.out.size (pw_below_drewN (Below.refl _ _) _)⟩
      all_goals
        have hnx2 := Lib.hid (hnx.out (by rw [b0, b1, b2]; rfl))
        clear hnx hye
        go_wp2
        go_quiet (fail)
        go_wp2
        go_roundw
        case rel => exact ⟨j + 1, Nat.zero_le _, .inl (by omega), by go_num, hnx2.out, below_then hB.out hB.out.size (pw_below_drewN (Below.refl _ _) _)⟩
        case measure => simp [intOf]; omega
    · obtain rfl := hn.out (fun t ht h1 h2 => hp t ht h1 (by omega))
      replace hB := Lib.hid hB
      replace hp := Lib.hid hp
      replace hj := Lib.hid hj
      clear q1 q2
      go_wp2
      go_ret
      exact ⟨rfl, hB.out⟩
end Go.Proofs.YtiibjgnmdieicaaGreat.Hist
