/- the document's history: asked, walked. -/
import Derived.Test.YtiibjgnmdieicaaGreatVa
namespace Go.Proofs.YtiibjgnmdieicaaGreat.Hist
open Go.RowKit Go.Proofs.YtiibjgnmdieicaaGreatW.PrintWords Go.Sort
theorem and3 (a b : Bool) : a = false ∨ (a = true ∧ b = false) ∨ (a = true ∧ b = true) := by cases a <;> cases b <;> simp
def RelAk (w : World) (l : List Evt) (c : Int) (i : Nat) (s5 s6 s7 : Value) (wr : World) : Prop := ∃ k : Nat, k ≤ i ∧ s7 = .int .i64 k ∧ s5 = .int .i64 (cntR l c k) ∧ s6 = .int .u64 (lastR l c k) ∧ Below w.heap.size w wr
set_option maxHeartbeats 16000000 in
set_option maxRecDepth 100000 in
theorem rasked_any (A : Option Addr) (c : Nat) (l : List Evt) (i : Nat) (hi : i < l.length) (w : World) (hC : kEvt.C w A l.length l) :
    Calls Tryz.prog 45 #[.slice A l.length c, .int .i64 i] w fun e w' => e = .returned (.bool (raskB l i l[i] l[i + 1]?)) ∧ Below w.heap.size w w' := by
  have hm : l.length ≤ 9223372036854775807 := hC.2.1
  obtain ⟨r, hr⟩ : ∃ r, r = raskB l i l[i] l[i + 1]? := ⟨_, rfl⟩
  rw [← hr]
  obtain ⟨ad, A4, c4, A5, c5, A9, c9, rfl, q0, q1, q2, q3, q4, q5, q6, q7, q8, q9, hK, hl9, hk9⟩ := evt_at hC hi
  clear q4 q5 q6 q7 q8 q9 hK hl9 hk9
  generalize hy0 : l[i] = y at *
  replace hy0 := Lib.hid hy0
  have hqs := Lib.hid fun (W : World) (hb : Below w.heap.size w W) => And.intro (pw_cell_below hb q0) (And.intro (pw_cell_below hb q1) (And.intro (pw_cell_below hb q2) (pw_cell_below hb q3)))
  clear q0 q1 q2 q3
  replace hC := Lib.hid hC
  replace hr := Lib.hid hr
  go_enter Tryz.func45, Tryz.ntmps45
  go_wp2
  go_loopw [5, 6, 7] (fun s5 s6 s7 wr => RelAk w l y.f1 i s5 s6 s7 wr) (fun _ _ s7 _ => i - (intOf s7).toNat)
  case atStart => exact ⟨0, Nat.zero_le _, rfl, rfl, rfl, Below.refl _ _⟩
  case round =>
    obtain ⟨j, hj, rfl, rfl, rfl, hB⟩ := hrel
    obtain ⟨q0, q1, q2, q3⟩ := hqs.out wr hB
    by_cases hlt : j < i
    · have hjl : j < l.length := by omega
      obtain ⟨ad', C4, e4, C5, e5, C9, e9, he, x0, x1, x2, x3, x4, x5, x6, x7, x8, x9, hK, hl9, hk9⟩ := evt_at (Kd.C_below hC.out hB) hjl
      cases he
      clear x2 x4 x5 x6 x7 x8 x9 hK hl9 hk9 q0 q2 q3
      have a1 : IntKind.i64.wrap ((j : Int) + 1) = (j : Int) + 1 := IntWalk.i64_in _ (by omega)
      have hs1 := cntR_succ hjl y.f1
      have hs2 := lastR_succ hjl y.f1
      have hle := cntR_le l y.f1 j
      unfold rqC at hs1 hs2
      generalize hn1 : cntR l y.f1 j = n1 at *
      generalize hn2 : lastR l y.f1 j = n2 at *
      generalize hn3 : cntR l y.f1 (j + 1) = n3 at *
      generalize hn4 : lastR l y.f1 (j + 1) = n4 at *
      have a2 : IntKind.i64.wrap ((n1 : Int) + 1) = (n1 : Int) + 1 := IntWalk.i64_in _ (by omega)
      generalize l[j] = e at *
      replace hn1 := Lib.hid hn1
      replace hn2 := Lib.hid hn2
      replace hn3 := Lib.hid hn3
      replace hn4 := Lib.hid hn4
      replace hB := Lib.hid hB
      cases b0 : (e.f0 != 3) <;> cases b1 : (e.f1 == y.f1) <;> rw [b0, b1] at hs1 hs2
      case true.true =>
        rw [if_pos (by rfl)] at hs1 hs2
        replace hs1 := Lib.hid hs1
        replace hs2 := Lib.hid hs2
        go_wp2
        go_quiet (fail)
        go_wp2
        go_roundw
        case rel => exact ⟨j + 1, by omega, by go_num, by rw [hn3.out, hs1.out]; rfl, by rw [hn4.out, hs2.out], below_then hB.out hB.out.size (pw_below_drewN (Below.refl _ _) _)⟩
        case measure => simp [intOf]; omega
      all_goals
        rw [if_neg (by decide)] at hs1 hs2
        replace hs1 := Lib.hid hs1
        replace hs2 := Lib.hid hs2
        go_wp2
        go_quiet (fail)
        go_wp2
        go_roundw
        case rel => exact ⟨j + 1, by omega, by go_num, by rw [hn3.out, hs1.out]; rfl, by rw [hn4.out, hs2.out], below_then hB.out hB.out.size (pw_below_drewN (Below.refl _ _) _)⟩
        case measure => simp [intOf]; omega
    · obtain rfl : j = i := by omega
      have hle := cntR_le l y.f1 j
      have hr2 := hr.out
      unfold raskB at hr2
      generalize cntR l y.f1 j = n1 at *
      generalize lastR l y.f1 j = n2 at *
      have a2 : IntKind.i64.wrap ((n1 : Int) + 1) = (n1 : Int) + 1 := IntWalk.i64_in _ (by omega)
      clear hr hqs
      by_cases p2 : y.f2 ≠ (n1 : Int) + 1
      · rw [if_pos p2] at hr2
        subst hr2
        have b2 : (y.f2 != (n1 : Int) + 1) = true := by simpa using p2
        replace p2 := Lib.hid p2
        replace hB := Lib.hid hB
        clear hC
        go_wp2
        go_ret
        exact ⟨rfl, hB.out⟩
      · rw [if_neg p2] at hr2
        have b2 : (y.f2 != (n1 : Int) + 1) = false := by simpa using p2
        replace p2 := Lib.hid p2
        by_cases p0 : y.f0 = 2
        · rw [if_pos p0] at hr2
          subst hr2
          have b0 : (y.f0 == 2) = true := beq_iff_eq.2 p0
          replace p0 := Lib.hid p0
          replace hB := Lib.hid hB
          clear hC
          go_wp2
          go_ret
          exact ⟨rfl, hB.out⟩
        · rw [if_neg p0] at hr2
          have b0 : (y.f0 == 2) = false := beq_eq_false_iff_ne.2 p0
          replace p0 := Lib.hid p0
          by_cases p3 : y.f3 = 0
          · rw [if_pos p3] at hr2
            have b3 : (y.f3 == 0) = true := beq_iff_eq.2 p3
            replace p3 := Lib.hid p3
            have a3 : IntKind.i64.wrap ((j : Int) + 1) = (j : Int) + 1 := IntWalk.i64_in _ (by omega)
            by_cases hnx : j + 1 < l.length
            · rw [List.getElem?_eq_getElem hnx] at hr2
              have d0 : decide ((j : Int) + 1 < (l.length : Int)) = true := decide_eq_true (by omega)
              obtain ⟨ad', C4, e4, C5, e5, C9, e9, he, x0, x1, x2, x3, x4, x5, x6, x7, x8, x9, hK, hl9, hk9⟩ := evt_at (Kd.C_below hC.out hB) hnx
              cases he
              clear x3 x4 x5 x6 x7 x8 x9 hK hl9 hk9 hC
              generalize l[j + 1] = e at *
              unfold nextB at hr2
              replace hr2 : r = (e.f0 == 3 && e.f1 == y.f1 && e.f2 == y.f2) := hr2
              replace hB := Lib.hid hB
              rcases and3 (e.f0 == 3) (e.f1 == y.f1) with c0 | ⟨c0, c1⟩ | ⟨c0, c1⟩
              · rw [c0, Bool.false_and, Bool.false_and] at hr2
                subst hr2
                go_wp2
                go_quiet (fail)
                go_wp2
                go_ret
                exact ⟨rfl, below_then hB.out hB.out.size (pw_below_drewN (Below.refl _ _) _)⟩
              all_goals
                rw [c0, c1] at hr2
                subst hr2
                go_wp2
                go_quiet (fail)
                go_wp2
                go_ret
                exact ⟨rfl, below_then hB.out hB.out.size (pw_below_drewN (Below.refl _ _) _)⟩
            · rw [List.getElem?_eq_none_iff.2 (by omega)] at hr2
              have d0 : decide ((j : Int) + 1 < (l.length : Int)) = false := decide_eq_false (by omega)
              replace hr2 : r = false := hr2
              subst hr2
              replace hB := Lib.hid hB
              clear hC
              go_wp2
              go_quiet (fail)
              go_wp2
              go_ret
              exact ⟨rfl, below_then hB.out hB.out.size (pw_below_drewN (Below.refl _ _) _)⟩
          · rw [if_neg p3] at hr2
            have b3 : (y.f3 == 0) = false := beq_eq_false_iff_ne.2 p3
            replace p3 := Lib.hid p3
            clear hC
            unfold cliOf at hr2
            replace hB := Lib.hid hB
            rcases and3 (decide (65536 ≤ y.f3)) (IntKind.i64.wrap (y.f3.tmod 65536) == y.f1) with c0 | ⟨c0, c1⟩ | ⟨c0, c1⟩
            · rw [c0, Bool.false_and, Bool.false_and] at hr2
              subst hr2
              go_wp2
              go_quiet (fail)
              go_wp2
              go_ret
              exact ⟨rfl, below_then hB.out hB.out.size (pw_below_drewN (Below.refl _ _) _)⟩
            all_goals
              rw [c0, c1] at hr2
              subst hr2
              go_wp2
              go_quiet (fail)
              go_wp2
              go_ret
              exact ⟨by simp, below_then hB.out hB.out.size (pw_below_drewN (Below.refl _ _) _)⟩
end Go.Proofs.YtiibjgnmdieicaaGreat.Hist
