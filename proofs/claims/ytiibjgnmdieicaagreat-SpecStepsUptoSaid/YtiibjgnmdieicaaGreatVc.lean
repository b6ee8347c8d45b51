/- the document's history: answered, walked. -/
import Derived.Test.YtiibjgnmdieicaaGreatVa
namespace Go.Proofs.YtiibjgnmdieicaaGreat.Hist
open Go.RowKit Go.Proofs.YtiibjgnmdieicaaGreatW.PrintWords Go.Sort
theorem first_one {l : List Evt} {p : Evt → Bool} {k j : Nat} (hk : k < l.length) (hj : j < l.length) (h1 : p l[k] = true) (h2 : ∀ t (ht : t < l.length), t < k → p l[t] = false) (h3 : p l[j] = true) (h4 : ∀ t (ht : t < l.length), t < j → p l[t] = false) : j = k := by
  rcases Nat.lt_trichotomy j k with e | e | e
  · rw [h2 j hj e] at h3
    cases h3
  · exact e
  · rw [h4 k hk e] at h1
    cases h1
theorem rAns_at {l : List Evt} {i k : Nat} {y : Evt} (hk : k < l.length) (hki : k < i) (b2 : reqB y l[k] = true) (b3 : ∀ t (ht : t < l.length), t < k → reqB y l[t] = false) :
    RAns l i y ↔ (∀ j (hj : j < l.length), k ≤ j → j < i → okA y l[j] = false) ∧ (if l[k].f0 = 1 then rwB l[k] y.f6 else rrB l[k] y.f6 (decide (k + 1 = i))) = true := by
  constructor
  · rintro ⟨j, hj, h1, h2, h3, h4, h5⟩
    obtain rfl := first_one hk hj b2 b3 h2 h3
    exact ⟨h4, h5⟩
  · rintro ⟨h4, h5⟩
    exact ⟨k, hk, hki, b2, b3, h4, h5⟩
theorem least_of {p : Nat → Prop} (h : ∃ n, p n) : ∃ n, p n ∧ ∀ k, k < n → ¬ p k := by
  obtain ⟨n, hn⟩ := h
  induction n using Nat.strongRecOn with
  | _ n ih =>
    by_cases hx : ∃ k, k < n ∧ p k
    · obtain ⟨k, hk, hp⟩ := hx
      exact ih k hk hp
    · exact ⟨n, hn, fun k hk hp => hx ⟨k, hk, hp⟩⟩
theorem or3 (a b : Bool) : a = false ∨ (a = true ∧ b = false) ∨ (a = true ∧ b = true) := by cases a <;> cases b <;> simp
theorem and4 (a b c : Bool) : a = false ∨ (a = true ∧ b = false) ∨ (a = true ∧ b = true ∧ c = false) ∨ (a = true ∧ b = true ∧ c = true) := by cases a <;> cases b <;> cases c <;> simp
theorem rkeys_no {l : List Ver} {ks : List ByteArray} (h : ((l.length : Int) != (ks.length : Int)) = true) : keysB l ks = false := by
  unfold keysB
  rw [Bool.and_eq_false_iff]
  refine .inl ?_
  rw [beq_eq_false_iff_ne]
  rw [bne_iff_ne] at h
  omega
def RelKq (w : World) (l : List Ver) (ks : List ByteArray) (s : Value) (wr : World) : Prop := ∃ j : Nat, j ≤ l.length ∧ s = .int .i64 j ∧ (∀ t, (h1 : t < l.length) → (h2 : t < ks.length) → t < j → keq l[t] ks[t] = true) ∧ Below w.heap.size w wr
set_option maxHeartbeats 32000000 in
set_option maxRecDepth 100000 in
theorem ranswered_any (A : Option Addr) (c : Nat) (l : List Evt) (i : Nat) (hi : i < l.length) (w : World) (hC : kEvt.C w A l.length l) (r : Bool) (hr : r = true ↔ RAns l i l[i]) :
    Calls Tryz.prog 44 #[.slice A l.length c, .int .i64 i] w fun e w' => e = .returned (.bool r) ∧ Below w.heap.size w w' := by
  have hm : l.length ≤ 9223372036854775807 := hC.2.1
  have hcall := rreq23_any A c l i hi w hC
  by_cases hex : ∃ k, ∃ hk : k < l.length, k < i ∧ reqB l[i] l[k] = true ∧ ∀ t (ht : t < l.length), t < k → reqB l[i] l[t] = false
  · obtain ⟨k, hk, hki, b2, b3⟩ := hex
    rw [fidx_take hki hk b2 b3] at hcall
    rw [rAns_at hk hki b2 b3] at hr
    clear b2 b3
    obtain ⟨ad, A4, c4, A5, c5, A9, c9, rfl, q0, q1, q2, q3, q4, q5, q6, q7, q8, q9, hK, hl9, hk9⟩ := evt_at hC hi
    obtain ⟨ad', B4, d4, B5, d5, B9, d9, he, g0, g1, g2, g3, g4, g5, g6, g7, g8, g9, hK', hl9', hk9'⟩ := evt_at hC hk
    cases he
    have hk5 := (evt_open hK').2.2.2.1
    clear q0 q3 q4 q5 hK hl9 g1 g2 g4 g6 g7 g8 g9 hK' hl9' hk9'
    have hmv : l[i].f6.f3.length ≤ 9223372036854775807 := hk9.2.1
    generalize hyy : l[i] = y at *
    generalize hqq : l[k] = q at *
    replace hyy := Lib.hid hyy
    replace hqq := Lib.hid hqq
    have hqs := Lib.hid fun (W : World) (hb : Below w.heap.size w W) => And.intro (pw_cell_below hb q1) (And.intro (pw_cell_below hb q2) (And.intro (pw_cell_below hb q6) (And.intro (pw_cell_below hb q7) (And.intro (pw_cell_below hb q8) (And.intro (pw_cell_below hb q9) (And.intro (pw_cell_below hb g0) (And.intro (pw_cell_below hb g3) (pw_cell_below hb g5))))))))
    have hks := Lib.hid fun (W : World) (hb : Below w.heap.size w W) => And.intro (Kd.C_below hk9 hb) (Kd.C_below hk5 hb)
    clear q1 q2 q6 q7 q8 q9 g0 g3 g5 hk9 hk5
    have hno : ∀ j (hj : j < l.length), k ≤ j → j < i → okA y l[j] = true → r = false := fun j hj h1 h2 h3 => by
      rw [← Bool.not_eq_true, hr]
      intro h
      rw [h.1 j hj h1 h2] at h3
      cases h3
    have hye : (∀ j (hj : j < l.length), k ≤ j → j < i → okA y l[j] = false) → r = if q.f0 = 1 then rwB q y.f6 else rrB q y.f6 (decide (k + 1 = i)) := fun h => by
      rw [Bool.eq_iff_iff, hr]
      exact ⟨fun h2 => h2.2, fun h2 => ⟨h, h2⟩⟩
    clear hr
    replace hC := Lib.hid hC
    replace hno := Lib.hid hno
    replace hye := Lib.hid hye
    replace hcall := Lib.hid hcall
    have b0 : decide ((k : Int) < 0) = false := decide_eq_false (by omega)
    go_enter Tryz.func44, Tryz.ntmps44
    go_wp2_with fail
    refine hcall.out.mono ?_
    rintro e W1 ⟨rfl, hB0⟩
    replace hB0 := Lib.hid hB0
    clear hcall
    go_wp2
    go_loopw [6] (fun s wr => RelSg w l k i (okA y) s wr) (fun s _ => i - (intOf s).toNat)
    case atStart => exact ⟨k, Nat.le_refl _, .inr rfl, rfl, (fun t _ h1 h => absurd h1 (by omega)), hB0.out⟩
    case round =>
      clear hB0
      obtain ⟨j, h0, hj, rfl, hp, hB⟩ := hrel
      obtain ⟨q1, q2, q6, q7, q8, q9, g0, g3, g5⟩ := hqs.out wr hB
      by_cases hlt : j < i
      · clear q6 q7 q8 q9 g0 g3 g5
        have hjl : j < l.length := by omega
        obtain ⟨ad', C4, e4, C5, e5, C9, e9, he, x0, x1, x2, x3, x4, x5, x6, x7, x8, x9, hK, hl9, hk9⟩ := evt_at (Kd.C_below hC.out hB) hjl
        cases he
        clear x3 x4 x5 x6 x7 x8 x9 hK hl9 hk9
        have hnx := seg_next (p := okA y) hp hjl
        have hyn := hno.out j hjl h0 hlt
        have a1 : IntKind.i64.wrap ((j : Int) + 1) = (j : Int) + 1 := IntWalk.i64_in _ (by omega)
        unfold okA at hnx hyn
        generalize l[j] = e at *
        replace hnx := Lib.hid hnx
        replace hyn := Lib.hid hyn
        replace hp := Lib.hid hp
        replace hB := Lib.hid hB
        replace hj := Lib.hid hj
        replace h0 := Lib.hid h0
        rcases and4 (e.f0 == 3) (e.f1 == y.f1) (e.f2 == y.f2) with c0 | ⟨c0, c1⟩ | ⟨c0, c1, c2⟩ | ⟨c0, c1, c2⟩
        case inr.inr.inr =>
          obtain rfl := hyn.out (by rw [c0, c1, c2]; rfl)
          go_wp2
          go_quiet (fail)
          go_wp2
          go_ret
          exact ⟨rfl, below_then hB.out hB.out.size (pw_below_drewN (Below.refl _ _) _)⟩
        all_goals
          have hnx2 := Lib.hid (hnx.out (by first | (rw [c0, c1, c2]; rfl) | (rw [c0, c1]; rfl) | (rw [c0]; rfl)))
          clear hnx hyn
          go_wp2
          go_quiet (fail)
          go_wp2
          go_roundw
          case rel => exact ⟨j + 1, by have := h0.out; omega, .inl (by omega), by go_num, hnx2.out, below_then hB.out hB.out.size (pw_below_drewN (Below.refl _ _) _)⟩
          case measure => simp [intOf]; omega
      · have hr2 := hye.out (fun t ht h1 h2 => hp t ht h1 (by omega))
        clear hye hno hp q1 q2 hj h0 hC
        have hBA := below_alloc hB (.cells #[.int .i64 y.f6.f0, .int .i64 y.f6.f1, .int .u64 y.f6.f2, .slice A9 y.f6.f3.length c9] 36)
        have hAB := below_alloc (Below.refl wr.heap.size wr) (.cells #[.int .i64 y.f6.f0, .int .i64 y.f6.f1, .int .u64 y.f6.f2, .slice A9 y.f6.f3.length c9] 36)
        obtain ⟨-, -, -, -, -, -, g0', g3', g5'⟩ := hqs.out _ hBA
        obtain ⟨k9, k5⟩ := hks.out _ hBA
        have hX := heap_alloc_new wr (.cells #[.int .i64 y.f6.f0, .int .i64 y.f6.f1, .int .u64 y.f6.f2, .slice A9 y.f6.f3.length c9] 36)
        clear hqs hks hAB
        replace hBA := Lib.hid hBA
        replace hX := Lib.hid hX
        replace k9 := Lib.hid k9
        replace k5 := Lib.hid k5
        replace hB := Lib.hid hB
        by_cases p0 : q.f0 = 1
        · rw [if_pos p0] at hr2
          have c0 : (q.f0 == 1) = true := beq_iff_eq.2 p0
          replace p0 := Lib.hid p0
          clear k9 k5 g5 g5'
          unfold rwB at hr2
          generalize y.f6.f3.length = n9 at *
          generalize he5 : (y.f6.f1 == 5) = e5 at *
          generalize he6 : (y.f6.f1 == 6) = e6 at *
          rcases or3 e5 e6 with f5 | ⟨f5, f6⟩ | ⟨f5, f6⟩
          · subst f5
            cases e6
            · clear hX
              rw [show (false || false) = false from rfl] at hr2
              cases t0 : (y.f6.f2 == q.f3) with
              | false =>
                rw [t0, Bool.false_and, Bool.false_and, Bool.false_and] at hr2
                subst hr2
                go_wp2
                go_quiet (fail)
                go_wp2
                go_ret
                exact ⟨by first | rfl | simp, below_then hBA.out hBA.out.size (pw_below_drewN (Below.refl _ _) _)⟩
              | true =>
                cases t1 : (y.f6.f2 == 0) <;> rw [t0, t1] at hr2
                case true =>
                  simp only [show (false == true) = false from rfl, Bool.true_and, Bool.false_and] at hr2
                  subst hr2
                  go_wp2
                  go_quiet (fail)
                  go_wp2
                  go_ret
                  exact ⟨by first | rfl | simp, below_then hBA.out hBA.out.size (pw_below_drewN (Below.refl _ _) _)⟩
                case false =>
                  simp only [show (false == false) = true from rfl, Bool.true_and] at hr2
                  cases t2 : (y.f6.f1 != 2) <;> rw [t2] at hr2 <;> subst hr2
                  all_goals
                    go_wp2
                    go_quiet (fail)
                    go_wp2
                    go_ret
                    exact ⟨by first | rfl | simp, below_then hBA.out hBA.out.size (pw_below_drewN (Below.refl _ _) _)⟩
            · clear hX
              rw [show (false || true) = true from rfl] at hr2
              cases t0 : (y.f6.f2 == q.f3) with
              | false =>
                rw [t0, Bool.false_and, Bool.false_and, Bool.false_and] at hr2
                subst hr2
                go_wp2
                go_quiet (fail)
                go_wp2
                go_ret
                exact ⟨by first | rfl | simp, below_then hBA.out hBA.out.size (pw_below_drewN (Below.refl _ _) _)⟩
              | true =>
                cases t1 : (y.f6.f2 == 0) <;> rw [t0, t1] at hr2
                case false =>
                  simp only [show (true == false) = false from rfl, Bool.true_and, Bool.false_and] at hr2
                  subst hr2
                  go_wp2
                  go_quiet (fail)
                  go_wp2
                  go_ret
                  exact ⟨by first | rfl | simp, below_then hBA.out hBA.out.size (pw_below_drewN (Below.refl _ _) _)⟩
                case true =>
                  simp only [show (true == true) = true from rfl, Bool.true_and] at hr2
                  cases t2 : (y.f6.f1 != 2) <;> rw [t2] at hr2 <;> subst hr2
                  all_goals
                    go_wp2
                    go_quiet (fail)
                    go_wp2
                    go_ret
                    exact ⟨by first | rfl | simp, below_then hBA.out hBA.out.size (pw_below_drewN (Below.refl _ _) _)⟩
          · subst f5 f6
            clear hX
            rw [show (true || false) = true from rfl] at hr2
            cases t0 : (y.f6.f2 == q.f3) with
            | false =>
              rw [t0, Bool.false_and, Bool.false_and, Bool.false_and] at hr2
              subst hr2
              go_wp2
              go_quiet (fail)
              go_wp2
              go_ret
              exact ⟨by first | rfl | simp, below_then hBA.out hBA.out.size (pw_below_drewN (Below.refl _ _) _)⟩
            | true =>
              cases t1 : (y.f6.f2 == 0) <;> rw [t0, t1] at hr2
              case false =>
                simp only [show (true == false) = false from rfl, Bool.true_and, Bool.false_and] at hr2
                subst hr2
                go_wp2
                go_quiet (fail)
                go_wp2
                go_ret
                exact ⟨by first | rfl | simp, below_then hBA.out hBA.out.size (pw_below_drewN (Below.refl _ _) _)⟩
              case true =>
                simp only [show (true == true) = true from rfl, Bool.true_and] at hr2
                cases t2 : (y.f6.f1 != 2) <;> rw [t2] at hr2 <;> subst hr2
                all_goals
                  go_wp2
                  go_quiet (fail)
                  go_wp2
                  go_ret
                  exact ⟨by first | rfl | simp, below_then hBA.out hBA.out.size (pw_below_drewN (Below.refl _ _) _)⟩
          · subst f5 f6
            clear hX
            rw [show (true || true) = true from rfl] at hr2
            cases t0 : (y.f6.f2 == q.f3) with
            | false =>
              rw [t0, Bool.false_and, Bool.false_and, Bool.false_and] at hr2
              subst hr2
              go_wp2
              go_quiet (fail)
              go_wp2
              go_ret
              exact ⟨by first | rfl | simp, below_then hBA.out hBA.out.size (pw_below_drewN (Below.refl _ _) _)⟩
            | true =>
              cases t1 : (y.f6.f2 == 0) <;> rw [t0, t1] at hr2
              case false =>
                simp only [show (true == false) = false from rfl, Bool.true_and, Bool.false_and] at hr2
                subst hr2
                go_wp2
                go_quiet (fail)
                go_wp2
                go_ret
                exact ⟨by first | rfl | simp, below_then hBA.out hBA.out.size (pw_below_drewN (Below.refl _ _) _)⟩
              case true =>
                simp only [show (true == true) = true from rfl, Bool.true_and] at hr2
                cases t2 : (y.f6.f1 != 2) <;> rw [t2] at hr2 <;> subst hr2
                all_goals
                  go_wp2
                  go_quiet (fail)
                  go_wp2
                  go_ret
                  exact ⟨by first | rfl | simp, below_then hBA.out hBA.out.size (pw_below_drewN (Below.refl _ _) _)⟩
        · rw [if_neg p0] at hr2
          have c0 : (q.f0 == 1) = false := beq_eq_false_iff_ne.2 p0
          replace p0 := Lib.hid p0
          clear g3 g3'
          unfold rrB at hr2
          cases t0 : (y.f6.f2 != 0) with
          | true =>
            rw [t0, if_pos (by simp)] at hr2
            subst hr2
            clear hX k9 k5
            go_wp2
            go_ret
            exact ⟨rfl, hBA.out⟩
          | false =>
            cases t4 : (y.f6.f1 == 4) with
            | true =>
              rw [t0, t4, if_pos (by simp)] at hr2
              subst hr2
              clear hX k9 k5
              go_wp2
              go_ret
              exact ⟨rfl, hBA.out⟩
            | false =>
              cases t6 : (y.f6.f1 == 6) with
              | true =>
                rw [t0, t4, t6, if_pos (by simp)] at hr2
                subst hr2
                clear hX k9 k5
                go_wp2
                go_ret
                exact ⟨rfl, hBA.out⟩
              | false =>
                have a2 : IntKind.i64.wrap ((i : Int) - 1) = (i : Int) - 1 := IntWalk.i64_in _ (by omega)
                cases t5 : (y.f6.f1 == 5) with
                | true =>
                  have h5 : y.f6.f1 = 5 := beq_iff_eq.1 t5
                  by_cases hki1 : k + 1 = i
                  · have t7 : ((k : Int) != (i : Int) - 1) = false := by rw [bne_eq_false_iff_eq]; omega
                    rw [t0, t4, t6, t5, if_neg (by rw [decide_eq_true hki1]; decide), if_neg (by omega)] at hr2
                    subst hr2
                    have t1 : (y.f6.f1 != 1) = true := by rw [h5]; rfl
                    replace h5 := Lib.hid h5
                    clear hX k9 k5
                    go_wp2
                    go_ret
                    exact ⟨rfl, hBA.out⟩
                  · have t7 : ((k : Int) != (i : Int) - 1) = true := by rw [bne_iff_ne]; omega
                    rw [t0, t4, t6, t5, if_pos (by rw [decide_eq_false hki1]; rfl)] at hr2
                    subst hr2
                    replace h5 := Lib.hid h5
                    clear hX k9 k5
                    go_wp2
                    go_ret
                    exact ⟨rfl, hBA.out⟩
                | false =>
                  rw [t0, t4, t6, t5, if_neg (by simp)] at hr2
                  by_cases p1 : y.f6.f1 = 1
                  · rw [if_pos p1] at hr2
                    have t1 : (y.f6.f1 != 1) = false := by rw [p1]; rfl
                    replace p1 := Lib.hid p1
                    generalize hv9 : y.f6.f3 = vs at *
                    generalize hk5 : q.f5 = ks at *
                    replace hv9 := Lib.hid hv9
                    replace hk5 := Lib.hid hk5
                    cases t8 : ((vs.length : Int) != (ks.length : Int)) with
                    | true =>
                      rw [rkeys_no t8] at hr2
                      subst hr2
                      clear hX k9 k5
                      go_wp2
                      go_quiet (fail)
                      go_wp2
                      go_ret
                      exact ⟨by first | rfl | simp, below_then hBA.out hBA.out.size (pw_below_drewN (Below.refl _ _) _)⟩
                    | false =>
                      have hl : vs.length = ks.length := by
                        rw [bne_eq_false_iff_eq] at t8
                        omega
                      have hno : ∀ t (h1 : t < vs.length) (h2 : t < ks.length), keq vs[t] ks[t] = false → r = false := fun t h1 h2 h => hr2.trans (keysB_no h1 h2 h)
                      have hyes := fun h => hr2.trans (keysB_yes hl h)
                      clear hr2
                      replace hno := Lib.hid hno
                      replace hyes := Lib.hid hyes
                      replace hl := Lib.hid hl
                      go_wp2
                      go_quiet (fail)
                      have hB3 := below_then hBA.out hBA.out.size (pw_below_drewN (Below.refl _ _) nq)
                      have hD := pw_below_drewN (Below.refl (wr.alloc (.cells #[.int .i64 y.f6.f0, .int .i64 y.f6.f1, .int .u64 y.f6.f2, .slice A9 vs.length c9] 36)).heap.size (wr.alloc (.cells #[.int .i64 y.f6.f0, .int .i64 y.f6.f1, .int .u64 y.f6.f2, .slice A9 vs.length c9] 36))) nq
                      have hX3 := Lib.hid (blk_below hX.out hD)
                      have k93 := Lib.hid (Kd.C_below k9.out hD)
                      have k53 := Lib.hid (Kd.C_below k5.out hD)
                      have g53 := Lib.hid fun (W : World) (hb : Below _ _ W) => pw_cell_below (below_then hD hD.size hb) g5'
                      clear hX k9 k5 hBA hD g5 g5' q6 q7 q8 q9 g0 g0' t0 t4 t6 t5
                      replace hB3 := Lib.hid hB3
                      generalize World.drewN (wr.alloc (.cells #[.int .i64 y.f6.f0, .int .i64 y.f6.f1, .int .u64 y.f6.f2, .slice A9 vs.length c9] 36)) nq = w3 at *
                      generalize wr.heap.size = B0 at *
                      go_wp2
                      go_loopw [9] (fun s wr => RelKq w3 vs ks s wr) (fun s _ => vs.length - (intOf s).toNat)
                      case atStart => exact ⟨0, Nat.zero_le _, rfl, (fun t _ _ h => absurd h (Nat.not_lt_zero t)), Below.refl _ _⟩
                      case round =>
                        obtain ⟨m, hj, rfl, hp, hB4⟩ := hrel
                        have hX4 := blk_below hX3.out hB4
                        have e3 := blk_cell hX4 3
                        have el := blk_lt hX4
                        simp only [List.getElem?_toArray, List.getElem?_cons_zero, List.getElem?_cons_succ] at e3
                        clear hX4
                        by_cases hlt2 : m < vs.length
                        · have hlk : m < ks.length := by have := hl.out; omega
                          obtain ⟨av, A3, c3, rfl, v0, v1, v2, v3, hx1, hx2⟩ := ver_at (Kd.C_below k93.out hB4) hlt2
                          clear v1 v2 v3 hx1 hx2
                          obtain ⟨bd, rfl, z0⟩ := text_at (Kd.C_below k53.out hB4) hlk
                          have g5 := g53.out _ hB4
                          have a4 : IntKind.i64.wrap ((m : Int) + 1) = (m : Int) + 1 := IntWalk.i64_in _ (by omega)
                          have hnx : keq vs[m] ks[m] = true → ∀ t, (h1 : t < vs.length) → (h2 : t < ks.length) → t < m + 1 → keq vs[t] ks[t] = true := fun h t h1 h2 h3 => by
                            by_cases e : t = m
                            · subst e; exact h
                            · exact hp t h1 h2 (by omega)
                          have hno2 := hno.out m hlt2 hlk
                          clear hno hyes
                          unfold keq at hnx hno2
                          generalize vs[m] = v at *
                          generalize ks[m] = ky at *
                          replace hnx := Lib.hid hnx
                          replace hno2 := Lib.hid hno2
                          replace hp := Lib.hid hp
                          replace hB4 := Lib.hid hB4
                          cases c7 : (v.f0.toList == ky.toList) with
                          | false =>
                            obtain rfl := hno2.out c7
                            go_wp2
                            go_quiet (fail)
                            go_wp2
                            go_ret
                            exact ⟨rfl, below_then (below_then hB3.out hB3.out.size hB4.out) (below_then hB3.out hB3.out.size hB4.out).size (pw_below_drewN (Below.refl _ _) _)⟩
                          | true =>
                            have hnx2 := Lib.hid (hnx.out c7)
                            go_wp2
                            go_quiet (fail)
                            go_wp2
                            go_roundw
                            case rel => exact ⟨m + 1, by omega, by go_num, hnx2.out, below_then hB4.out hB4.out.size (pw_below_drewN (Below.refl _ _) _)⟩
                            case measure => simp [intOf]; omega
                        · obtain rfl := hyes.out (fun t h1 h2 => hp t h1 h2 (by omega))
                          replace hB4 := Lib.hid hB4
                          clear hp hno hyes
                          go_wp2
                          go_ret
                          exact ⟨rfl, below_then hB3.out hB3.out.size hB4.out⟩
                  · rw [if_neg p1] at hr2
                    subst hr2
                    have t1 : (y.f6.f1 != 1) = true := by rw [bne_iff_ne]; exact p1
                    replace p1 := Lib.hid p1
                    clear hX k9 k5
                    go_wp2
                    go_ret
                    exact ⟨rfl, hBA.out⟩
  · have hf : fidx (reqB l[i]) (l.take i) = -1 := by
      refine fidx_take_no fun t ht hti => ?_
      refine Classical.byContradiction fun h => hex ?_
      have h : reqB l[i] l[t] = true := by simpa using h
      have hx : ∃ n, n < i ∧ ∃ hn : n < l.length, reqB l[i] l[n] = true := ⟨t, hti, ht, h⟩
      obtain ⟨k, ⟨hki, hk, hb⟩, hm2⟩ := least_of hx
      refine ⟨k, hk, hki, hb, fun u hu huk => ?_⟩
      have := hm2 u huk
      rw [← Bool.not_eq_true]
      exact fun g => this ⟨by omega, hu, g⟩
    rw [hf] at hcall
    obtain rfl : r = false := by
      rw [← Bool.not_eq_true, hr]
      rintro ⟨k, hk, hki, b2, b3, _⟩
      exact hex ⟨k, hk, hki, b2, b3⟩
    replace hcall := Lib.hid hcall
    clear hr hex hf hC
    go_enter Tryz.func44, Tryz.ntmps44
    go_wp2_with fail
    refine hcall.out.mono ?_
    rintro e W1 ⟨rfl, hB0⟩
    replace hB0 := Lib.hid hB0
    clear hcall
    go_wp2
    go_ret
    exact ⟨rfl, hB0.out⟩
end Go.Proofs.YtiibjgnmdieicaaGreat.Hist
