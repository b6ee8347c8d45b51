-- laid by given.py of this session: the kit's print of the translation, some functions' contracts being this session's own (wip/given). Not trusted: Lean checks it.
import Derived.Test.YtjahalkgjnnapaaKa
namespace Go.Proofs.Ytjahalkgjnnapaa.G
open Go.RowKit Go.Proofs.YtjahalkgjnnapaaW.PrintWords Go.Proofs.YtjahalkgjnnapaaW.PrintLast Go.Proofs.YtjahalkgjnnapaaW.PrintMore
attribute [local go_sem] max2_int min2_int max_two min_two max_three min_three max_four min_four   -- for this text's walks alone
set_option linter.unusedVariables false
set_option linter.unusedSimpArgs false

/-! ### rampartlaw04_once: function 33 -/
mutual
def rampartlaw04_once.l0 : Nat → List ByteArray → List ByteArray → Int → Option (List ByteArray)
  | 0, _, _, _ => none
  | k + 1, x0, x3, x4 => if x4 < (x0.length : Int) then (rampartlaw04_once.j1 k x0 x3 x4 (decide (x4 < 300))) else (rampartlaw04_once.j1 k x0 x3 x4 false)
def rampartlaw04_once.j1 : Nat → List ByteArray → List ByteArray → Int → Bool → Option (List ByteArray)
  | 0, _, _, _, _ => none
  | k + 1, x0, x3, x4, x14 => if x14 = true then (rampartlaw04_once.l1 k x0 x3 x4 (x3.length : Int)) else (some x3)
def rampartlaw04_once.l1 : Nat → List ByteArray → List ByteArray → Int → Int → Option (List ByteArray)
  | 0, _, _, _, _ => none
  | k + 1, x0, x3, x4, x5 => if x5 > 0 then (if 0 ≤ (wrap64 (x5 - 1)) then (if (wrap64 (x5 - 1)) < (x3.length : Int) then (if 0 ≤ x4 then (if x4 < (x0.length : Int) then (if (Op.bytesLess ((rdOf ByteArray.empty x0 x4).toList) ((rdOf ByteArray.empty x3 (wrap64 (x5 - 1))).toList)) = true then (rampartlaw04_once.l1 k x0 x3 x4 (wrap64 (x5 - 1))) else (if (rdOf ByteArray.empty x3 (wrap64 (x5 - 1))).toList = (rdOf ByteArray.empty x0 x4).toList then (rampartlaw04_once.l0 k x0 x3 (wrap64 (x4 + 1))) else (if 0 ≤ x5 then (if x5 ≤ (x3.length : Int) then ((some (x3.take (x5 : Int).toNat : List ByteArray)).bind fun y519 => (if ([] : List ByteArray).length + y519.length < 8796093022208 then ((some (([] : List ByteArray) ++ y519 : List ByteArray)).bind fun y523 => (if y523.length < 8796093022208 then ((some (y523 ++ [rdOf ByteArray.empty x0 x4] : List ByteArray)).bind fun y527 => ((some (x3.drop (x5 : Int).toNat : List ByteArray)).bind fun y530 => (if y527.length + y530.length < 8796093022208 then (rampartlaw04_once.l0 k x0 (y527 ++ y530) (wrap64 (x4 + 1))) else (none)))) else (none))) else (none))) else (none)) else (none)))) else (none)) else (none)) else (none)) else (none)) else (if 0 ≤ x5 then (if x5 ≤ (x3.length : Int) then ((some (x3.take (x5 : Int).toNat : List ByteArray)).bind fun y537 => (if ([] : List ByteArray).length + y537.length < 8796093022208 then ((some (([] : List ByteArray) ++ y537 : List ByteArray)).bind fun y541 => (if 0 ≤ x4 then (if x4 < (x0.length : Int) then (if y541.length < 8796093022208 then ((some (y541 ++ [rdOf ByteArray.empty x0 x4] : List ByteArray)).bind fun y545 => ((some (x3.drop (x5 : Int).toNat : List ByteArray)).bind fun y548 => (if y545.length + y548.length < 8796093022208 then (rampartlaw04_once.l0 k x0 (y545 ++ y548) (wrap64 (x4 + 1))) else (none)))) else (none)) else (none)) else (none))) else (none))) else (none)) else (none))
end
def rampartlaw04_once.f (k : Nat) (l0 : List ByteArray) : Option (List ByteArray) := rampartlaw04_once.l0 k l0 ([] : List ByteArray) 0
theorem rampartlaw04_once.mono_l : ∀ k, (∀ y0 y1 y2, LeO (rampartlaw04_once.l0 k y0 y1 y2) (rampartlaw04_once.l0 (k + 1) y0 y1 y2)) ∧ (∀ y0 y1 y2 y3, LeO (rampartlaw04_once.j1 k y0 y1 y2 y3) (rampartlaw04_once.j1 (k + 1) y0 y1 y2 y3)) ∧ (∀ y0 y1 y2 y3, LeO (rampartlaw04_once.l1 k y0 y1 y2 y3) (rampartlaw04_once.l1 (k + 1) y0 y1 y2 y3))
  | 0 => ⟨fun _ _ _ r h => by simp [rampartlaw04_once.l0] at h, fun _ _ _ _ r h => by simp [rampartlaw04_once.j1] at h, fun _ _ _ _ r h => by simp [rampartlaw04_once.l1] at h⟩
  | k + 1 => by
    obtain ⟨ih0, ih1, ih2⟩ := rampartlaw04_once.mono_l k
    refine ⟨?_, ?_, ?_⟩
    · intro y0 y1 y2
      unfold rampartlaw04_once.l0
      repeat' first
      | (with_reducible exact ih0 _ _ _)
      | (with_reducible exact ih1 _ _ _ _)
      | (with_reducible exact ih2 _ _ _ _)
      | (with_reducible exact LeO.refl _)
      | (with_reducible exact LeO.none _)
      | (with_reducible refine LeO.ite ?_ ?_)
      | (with_reducible refine LeO.bind ?_ (fun _ => ?_))
      | exact ih0 _ _ _
      | exact ih1 _ _ _ _
      | exact ih2 _ _ _ _
      | exact LeO.none _
      | refine LeO.ite ?_ ?_
      | refine LeO.bind ?_ (fun _ => ?_)
    · intro y0 y1 y2 y3
      unfold rampartlaw04_once.j1
      repeat' first
      | (with_reducible exact ih0 _ _ _)
      | (with_reducible exact ih1 _ _ _ _)
      | (with_reducible exact ih2 _ _ _ _)
      | (with_reducible exact LeO.refl _)
      | (with_reducible exact LeO.none _)
      | (with_reducible refine LeO.ite ?_ ?_)
      | (with_reducible refine LeO.bind ?_ (fun _ => ?_))
      | exact ih0 _ _ _
      | exact ih1 _ _ _ _
      | exact ih2 _ _ _ _
      | exact LeO.none _
      | refine LeO.ite ?_ ?_
      | refine LeO.bind ?_ (fun _ => ?_)
    · intro y0 y1 y2 y3
      unfold rampartlaw04_once.l1
      repeat' first
      | (with_reducible exact ih0 _ _ _)
      | (with_reducible exact ih1 _ _ _ _)
      | (with_reducible exact ih2 _ _ _ _)
      | (with_reducible exact LeO.refl _)
      | (with_reducible exact LeO.none _)
      | (with_reducible refine LeO.ite ?_ ?_)
      | (with_reducible refine LeO.bind ?_ (fun _ => ?_))
      | exact ih0 _ _ _
      | exact ih1 _ _ _ _
      | exact ih2 _ _ _ _
      | exact LeO.none _
      | refine LeO.ite ?_ ?_
      | refine LeO.bind ?_ (fun _ => ?_)
theorem rampartlaw04_once.mono : ∀ a0 k, LeO (rampartlaw04_once.f k a0) (rampartlaw04_once.f (k + 1) a0) := by
  intro a0 k
  obtain ⟨ih0, ih1, ih2⟩ := rampartlaw04_once.mono_l k
  unfold rampartlaw04_once.f
  repeat' first
      | (with_reducible exact ih0 _ _ _)
      | (with_reducible exact ih1 _ _ _ _)
      | (with_reducible exact ih2 _ _ _ _)
      | (with_reducible exact LeO.refl _)
      | (with_reducible exact LeO.none _)
      | (with_reducible refine LeO.ite ?_ ?_)
      | (with_reducible refine LeO.bind ?_ (fun _ => ?_))
      | exact ih0 _ _ _
      | exact ih1 _ _ _ _
      | exact ih2 _ _ _ _
      | exact LeO.none _
      | refine LeO.ite ?_ ?_
      | refine LeO.bind ?_ (fun _ => ?_)
set_option maxHeartbeats 8000000 in
set_option maxRecDepth 100000 in
theorem rampartlaw04_once.calls (k : Nat) (A0 : Option Addr) (c0 : Nat) (l0 : List ByteArray) (r : List ByteArray) (w : World) (hr0 : Kd.C Kd.string w A0 l0.length l0) (hc0 : l0.length ≤ c0) (h : rampartlaw04_once.f k l0 = some r) :
    Calls Try.prog 33 #[.slice A0 l0.length c0] w fun e w' => ∃ v0_ : Value, e = .returned (v0_) ∧ Kd.R Kd.string 9 w' w.heap.size (fun _ => True) v0_ r ∧ Below w.heap.size w w' := by
  have HR0 := Aside0.mk hr0
  have HC0 := Aside0.mk hc0
  clear hr0 hc0
  have HB := Aside0.mk (Below.refl w.heap.size w)
  have H : (rampartlaw04_once.l0 k l0 ([] : List ByteArray) 0) = some r := h
  clear h
  have H' := Aside0.mk H
  clear H
  go_enter Try.func33, Try.ntmps33
  go_wp2
  repeat (go_quiet (fail); try go_wp2)
  go_loopg [3, 4] k (fun kq v3 v4 w' => ∃ (x3_1 : List ByteArray) (x4_1 : Int), v4 = .int .i64 x4_1 ∧ Aside0 (rampartlaw04_once.l0 kq l0 x3_1 x4_1 = some r) ∧ Aside0 (kq ≤ k) ∧ Aside0 (Kd.R Kd.string 9 w' w.heap.size (fun _ => True) v3 x3_1) ∧ Aside0 (Below w.heap.size w w'))
  case atStart => exact ⟨(([] : List ByteArray)), (0), (by first | rfl | (simp; done) | (simp [*]; done)), H', ⟨Nat.le_refl _⟩, ⟨by first | exact Kd.R_nil _ _ _ _ _ | exact Kd.N_nil _ _ _ _ _ | exact Kd.V_nil _ _ _ _ _ | exact Kd.Q_nil _ _ _ _ _ | exact Kd.S_nil _ _ _ _ _⟩, ⟨by repeat (first | (with_reducible first | exact HB.out | apply below_alloc | apply pw_below_drewN | apply below_drew1) | exact HB.out)⟩⟩
  case round =>
    clear H'
    obtain ⟨x3_1, x4_1, rfl, HA, HK1, HO_3, HB⟩ := hrel
    cases gk with
    | zero => exact absurd HA.out (by simp [rampartlaw04_once.l0])
    | succ k1 =>
      have H := HA.out
      clear HA
      simp only [rampartlaw04_once.l0] at H
      have HC2 := Aside0.mk H
      clear H
      go_upto_region 3 with (fail)
      repeat (go_quiet (fail); go_upto_region 3 with (fail))
      go_cut [14] (fun v14 wc => ∃ (kq : Nat) (x14_1 : Bool), v14 = .bool x14_1 ∧ Aside0 (rampartlaw04_once.j1 kq l0 x3_1 x4_1 x14_1 = some r) ∧ Aside0 (kq ≤ k1) ∧ Aside0 (Kd.R Kd.string 9 wc w.heap.size (fun _ => True) u3 x3_1) ∧ Aside0 (Below w.heap.size w wc))
      case first =>
        have H := HC2.out
        clear HC2
        by_cases c3 : x4_1 < (l0.length : Int)
        · rw [if_pos c3] at H
          have c3b0 : decide (x4_1 < (l0.length : Int)) = true := decide_eq_true c3
          clear c3
          (first | rw [c3b0] | (simp only [i64_w, i32_w]; rw [c3b0]) | skip)
          have H' := Aside0.mk H
          clear H
          go_wp2
          repeat (go_quiet (fail); try go_wp2)
          go_meet
          case rel => exact ⟨_, (decide (x4_1 < 300)), (by first | rfl | (simp; done) | (simp [*]; done)), H', ⟨by have := HK1.out; first | omega | exact Nat.le_refl _⟩, ⟨by (with_reducible repeat (first | apply Kd.R_alloc | apply Kd.R_drewN | apply Kd.R_drew)); exact HO_3.out⟩, ⟨by repeat (first | (with_reducible first | exact HB.out | apply below_alloc | apply pw_below_drewN | apply below_drew1) | exact HB.out)⟩⟩
        · rw [if_neg c3] at H
          have c3b0 : decide (x4_1 < (l0.length : Int)) = false := decide_eq_false c3
          clear c3
          (first | rw [c3b0] | (simp only [i64_w, i32_w]; rw [c3b0]) | skip)
          have H' := Aside0.mk H
          clear H
          go_wp2
          repeat (go_quiet (fail); try go_wp2)
          go_meet
          case rel => exact ⟨_, (false), (by first | rfl | (simp; done) | (simp [*]; done)), H', ⟨by have := HK1.out; first | omega | exact Nat.le_refl _⟩, ⟨by (with_reducible repeat (first | apply Kd.R_alloc | apply Kd.R_drewN | apply Kd.R_drew)); exact HO_3.out⟩, ⟨by repeat (first | (with_reducible first | exact HB.out | apply below_alloc | apply pw_below_drewN | apply below_drew1) | exact HB.out)⟩⟩
      case rest =>
        clear HC2
        try clear p2
        try clear c3
        try clear c3b0
        obtain ⟨kq, x14_1, rfl, HA, HJ1, HO_3, HB⟩ := hcut
        cases kq with
        | zero => exact absurd HA.out (by simp [rampartlaw04_once.j1])
        | succ kj1 =>
          have H := HA.out
          clear HA
          simp only [rampartlaw04_once.j1] at H
          by_cases c4 : x14_1 = true
          · subst c4
            have H1 : (rampartlaw04_once.l1 kj1 l0 x3_1 x4_1 (x3_1.length : Int)) = some r := by rw [if_pos rfl] at H; exact H
            clear H
            have H := H1
            clear H1
            have H' := Aside0.mk H
            clear H
            obtain ⟨Ao5, co5, eo5⟩ := Kd.R_slice HO_3.out
            subst eo5
            go_wp2
            repeat (go_quiet (fail); try go_wp2)
            go_loopg [5] kj1 (fun kq v5 w' => ∃ (x5_3 : Int), v5 = .int .i64 x5_3 ∧ Aside0 (rampartlaw04_once.l1 kq l0 x3_1 x4_1 x5_3 = some r) ∧ Aside0 (kq ≤ kj1) ∧ Aside0 (Kd.R Kd.string 9 w' w.heap.size (fun _ => True) (.slice Ao5 x3_1.length co5) x3_1) ∧ Aside0 (Below w.heap.size w w'))
            case atStart => exact ⟨((x3_1.length : Int)), (by first | rfl | (simp; done) | (simp [*]; done)), H', ⟨Nat.le_refl _⟩, ⟨by (with_reducible repeat (first | apply Kd.R_alloc | apply Kd.R_drewN | apply Kd.R_drew)); exact HO_3.out⟩, ⟨by repeat (first | (with_reducible first | exact HB.out | apply below_alloc | apply pw_below_drewN | apply below_drew1) | exact HB.out)⟩⟩
            case round =>
              clear H'
              try clear p2
              try clear c3
              try clear c3b0
              try clear c4
              try clear p2
              obtain ⟨x5_3, rfl, HA, HK3, HO_3, HB⟩ := hrel
              cases gk with
              | zero => exact absurd HA.out (by simp [rampartlaw04_once.l1])
              | succ k3 =>
                have H := HA.out
                clear HA
                simp only [rampartlaw04_once.l1] at H
                by_cases c6 : x5_3 > 0
                · rw [if_pos c6] at H
                  have c6b0 : decide (0 < x5_3) = true := decide_eq_true c6
                  clear c6
                  obtain ⟨ji7, hji7⟩ : ∃ j_ : Int, (wrap64 (x5_3 - 1)) = j_ := ⟨_, rfl⟩
                  replace H : (if 0 ≤ (ji7) then (if (ji7) < (x3_1.length : Int) then (if 0 ≤ x4_1 then (if x4_1 < (l0.length : Int) then (if (Op.bytesLess ((rdOf ByteArray.empty l0 x4_1).toList) ((rdOf ByteArray.empty x3_1 (ji7)).toList)) = true then (rampartlaw04_once.l1 k3 l0 x3_1 x4_1 ji7) else (if (rdOf ByteArray.empty x3_1 (ji7)).toList = (rdOf ByteArray.empty l0 x4_1).toList then (rampartlaw04_once.l0 k3 l0 x3_1 (wrap64 (x4_1 + 1))) else (if 0 ≤ x5_3 then (if x5_3 ≤ (x3_1.length : Int) then ((some (x3_1.take (x5_3 : Int).toNat : List ByteArray)).bind fun y519 => (if ([] : List ByteArray).length + y519.length < 8796093022208 then ((some (([] : List ByteArray) ++ y519 : List ByteArray)).bind fun y523 => (if y523.length < 8796093022208 then ((some (y523 ++ [rdOf ByteArray.empty l0 x4_1] : List ByteArray)).bind fun y527 => ((some (x3_1.drop (x5_3 : Int).toNat : List ByteArray)).bind fun y530 => (if y527.length + y530.length < 8796093022208 then (rampartlaw04_once.l0 k3 l0 (y527 ++ y530) (wrap64 (x4_1 + 1))) else (none)))) else (none))) else (none))) else (none)) else (none)))) else (none)) else (none)) else (none)) else (none)) = some r := by first | (rw [hji7] at H; exact H) | (simp only [hji7] at H ⊢; exact H)
                  have hji7w : (IntKind.i64.wrap (x5_3 - 1)) = ji7 := (i64_w _).trans hji7
                  by_cases c8 : 0 ≤ (ji7)
                  · rw [if_pos c8] at H
                    have c8b0 : decide (0 ≤ (ji7)) = true := decide_eq_true c8
                    clear c8
                    by_cases c9 : (ji7) < (x3_1.length : Int)
                    · rw [if_pos c9] at H
                      have c9b0 : decide ((ji7) < (x3_1.length : Int)) = true := decide_eq_true c9
                      clear c9
                      by_cases c10 : 0 ≤ x4_1
                      · rw [if_pos c10] at H
                        have c10b0 : decide (0 ≤ x4_1) = true := decide_eq_true c10
                        clear c10
                        by_cases c11 : x4_1 < (l0.length : Int)
                        · rw [if_pos c11] at H
                          have c11b0 : decide (x4_1 < (l0.length : Int)) = true := decide_eq_true c11
                          clear c11
                          by_cases c12 : (Op.bytesLess ((rdOf ByteArray.empty l0 x4_1).toList) ((rdOf ByteArray.empty x3_1 (ji7)).toList)) = true
                          · rw [if_pos c12] at H
                            have c12b0 : (Op.bytesLess ((rdOf ByteArray.empty l0 x4_1).toList) ((rdOf ByteArray.empty x3_1 (ji7)).toList)) = true := c12
                            clear c12
                            have H' := Aside0.mk H
                            clear H
                            have p515 : 0 ≤ ((ji7) : Int) := of_decide_eq_true (by first | (with_reducible assumption) | assumption)
                            have q515 : (ji7) < (x3_1.length : Int) := of_decide_eq_true (by first | (with_reducible assumption) | assumption)
                            obtain ⟨ad515, e515, hx515_0⟩ := Kd.at_string (Kd.R_reads' HO_3.out).2.2 (ji7) p515 q515
                            cases e515
                            replace p515 := eq_true p515
                            replace q515 := eq_true q515
                            have p516 : 0 ≤ (x4_1 : Int) := of_decide_eq_true (by first | (with_reducible assumption) | assumption)
                            have q516 : x4_1 < (l0.length : Int) := of_decide_eq_true (by first | (with_reducible assumption) | assumption)
                            obtain ⟨ad516, e516, hx516_0⟩ := Kd.at_string HR0.out x4_1 p516 q516
                            cases e516
                            replace hx516_0 := (HB.out.cell (World.block_lt_of_cell? w _ hx516_0)).trans hx516_0
                            replace p516 := eq_true p516
                            replace q516 := eq_true q516
                            go_wp2
                            repeat (go_quiet (fail); try go_wp2)
                            go_roundg k3
                            case measure => have := HK1.out; have := HJ1.out; have := HK3.out; omega
                            case rel => exact ⟨(ji7), (by first | rfl | (simp; done) | (simp only [← hji7] <;> (first | rfl | simp)) | (simp [*]; done)), H', ⟨by have := HK1.out; have := HJ1.out; have := HK3.out; omega⟩, ⟨by (with_reducible repeat (first | apply Kd.R_alloc | apply Kd.R_drewN | apply Kd.R_drew)); exact HO_3.out⟩, ⟨by repeat (first | (with_reducible first | exact HB.out | apply below_alloc | apply pw_below_drewN | apply below_drew1) | exact HB.out)⟩⟩
                          · rw [if_neg c12] at H
                            have c12b0 : (Op.bytesLess ((rdOf ByteArray.empty l0 x4_1).toList) ((rdOf ByteArray.empty x3_1 (ji7)).toList)) = false := by simpa using c12
                            clear c12
                            by_cases c13 : (rdOf ByteArray.empty x3_1 (ji7)).toList = (rdOf ByteArray.empty l0 x4_1).toList
                            · rw [if_pos c13] at H
                              have c13b0 : ((rdOf ByteArray.empty x3_1 (ji7)).toList == (rdOf ByteArray.empty l0 x4_1).toList) = true := beq_iff_eq.mpr c13
                              have c13b1 : ((rdOf ByteArray.empty x3_1 (ji7)).toList != (rdOf ByteArray.empty l0 x4_1).toList) = false := bne_eq_false_iff_eq.mpr c13
                              clear c13
                              have H' := Aside0.mk H
                              clear H
                              have p515 : 0 ≤ ((ji7) : Int) := of_decide_eq_true (by first | (with_reducible assumption) | assumption)
                              have q515 : (ji7) < (x3_1.length : Int) := of_decide_eq_true (by first | (with_reducible assumption) | assumption)
                              obtain ⟨ad515, e515, hx515_0⟩ := Kd.at_string (Kd.R_reads' HO_3.out).2.2 (ji7) p515 q515
                              cases e515
                              replace p515 := eq_true p515
                              replace q515 := eq_true q515
                              have p516 : 0 ≤ (x4_1 : Int) := of_decide_eq_true (by first | (with_reducible assumption) | assumption)
                              have q516 : x4_1 < (l0.length : Int) := of_decide_eq_true (by first | (with_reducible assumption) | assumption)
                              obtain ⟨ad516, e516, hx516_0⟩ := Kd.at_string HR0.out x4_1 p516 q516
                              cases e516
                              replace hx516_0 := (HB.out.cell (World.block_lt_of_cell? w _ hx516_0)).trans hx516_0
                              replace p516 := eq_true p516
                              replace q516 := eq_true q516
                              have p517 : 0 ≤ ((ji7) : Int) := of_decide_eq_true (by first | (with_reducible assumption) | assumption)
                              have q517 : (ji7) < (x3_1.length : Int) := of_decide_eq_true (by first | (with_reducible assumption) | assumption)
                              obtain ⟨ad517, e517, hx517_0⟩ := Kd.at_string (Kd.R_reads' HO_3.out).2.2 (ji7) p517 q517
                              obtain rfl : ad515 = ad517 := (by injection e517)
                              replace p517 := eq_true p517
                              replace q517 := eq_true q517
                              have p518 : 0 ≤ (x4_1 : Int) := of_decide_eq_true (by first | (with_reducible assumption) | assumption)
                              have q518 : x4_1 < (l0.length : Int) := of_decide_eq_true (by first | (with_reducible assumption) | assumption)
                              obtain ⟨ad518, e518, hx518_0⟩ := Kd.at_string HR0.out x4_1 p518 q518
                              obtain rfl : ad516 = ad518 := (by injection e518)
                              replace hx518_0 := (HB.out.cell (World.block_lt_of_cell? w _ hx518_0)).trans hx518_0
                              replace p518 := eq_true p518
                              replace q518 := eq_true q518
                              go_wp2
                              repeat (go_quiet (fail); try go_wp2)
                              go_roundg k3
                              case measure => have := HK1.out; have := HJ1.out; have := HK3.out; omega
                              case rel => exact ⟨(x3_1), (wrap64 (x4_1 + 1)), (by first | rfl | (simp; done) | (simp [*]; done)), H', ⟨by have := HK1.out; have := HJ1.out; have := HK3.out; omega⟩, ⟨by (with_reducible repeat (first | apply Kd.R_alloc | apply Kd.R_drewN | apply Kd.R_drew)); exact HO_3.out⟩, ⟨by repeat (first | (with_reducible first | exact HB.out | apply below_alloc | apply pw_below_drewN | apply below_drew1) | exact HB.out)⟩⟩
                            · rw [if_neg c13] at H
                              have c13b0 : ((rdOf ByteArray.empty x3_1 (ji7)).toList == (rdOf ByteArray.empty l0 x4_1).toList) = false := beq_eq_false_iff_ne.mpr c13
                              have c13b1 : ((rdOf ByteArray.empty x3_1 (ji7)).toList != (rdOf ByteArray.empty l0 x4_1).toList) = true := bne_iff_ne.mpr c13
                              by_cases c14 : 0 ≤ x5_3
                              · rw [if_pos c14] at H
                                have c14b0 := eq_true c14
                                have c14b1 : decide (0 ≤ x5_3) = true := decide_eq_true c14
                                clear c14
                                by_cases c15 : x5_3 ≤ (x3_1.length : Int)
                                · rw [if_pos c15] at H
                                  have c15b0 := eq_true c15
                                  have c15b1 : decide (x5_3 ≤ (x3_1.length : Int)) = true := decide_eq_true c15
                                  clear c15
                                  obtain ⟨y519, hy519⟩ : ∃ y_ : List ByteArray, y_ = (x3_1.take (x5_3 : Int).toNat) := ⟨_, rfl⟩
                                  replace H : (if ([] : List ByteArray).length + y519.length < 8796093022208 then ((some (([] : List ByteArray) ++ y519 : List ByteArray)).bind fun y523 => (if y523.length < 8796093022208 then ((some (y523 ++ [rdOf ByteArray.empty l0 x4_1] : List ByteArray)).bind fun y527 => ((some (x3_1.drop (x5_3 : Int).toNat : List ByteArray)).bind fun y530 => (if y527.length + y530.length < 8796093022208 then (rampartlaw04_once.l0 k3 l0 (y527 ++ y530) (wrap64 (x4_1 + 1))) else (none)))) else (none))) else (none)) = some r := by first | (rw [hy519]; with_reducible exact H) | (have H2_ := (Option.bind_some _ _).symm.trans H; rw [hy519]; with_reducible exact H2_) | (have H2_ := (Option.bind_some _ _).symm.trans H; with_reducible exact H2_) | with_reducible exact H | (rw [hy519]; exact H) | exact H
                                  have Ny519 := Aside0.mk hy519
                                  clear hy519
                                  by_cases c16 : ([] : List ByteArray).length + y519.length < 8796093022208
                                  · rw [if_pos c16] at H
                                    have LMc16 := Aside0.mk c16
                                    clear c16
                                    obtain ⟨y523, hy523⟩ : ∃ y_ : List ByteArray, y_ = (([] : List ByteArray) ++ y519) := ⟨_, rfl⟩
                                    replace H : (if y523.length < 8796093022208 then ((some (y523 ++ [rdOf ByteArray.empty l0 x4_1] : List ByteArray)).bind fun y527 => ((some (x3_1.drop (x5_3 : Int).toNat : List ByteArray)).bind fun y530 => (if y527.length + y530.length < 8796093022208 then (rampartlaw04_once.l0 k3 l0 (y527 ++ y530) (wrap64 (x4_1 + 1))) else (none)))) else (none)) = some r := by first | (rw [hy523]; with_reducible exact H) | (have H2_ := (Option.bind_some _ _).symm.trans H; rw [hy523]; with_reducible exact H2_) | (have H2_ := (Option.bind_some _ _).symm.trans H; with_reducible exact H2_) | with_reducible exact H | (rw [hy523]; exact H) | exact H
                                    have Ny523 := Aside0.mk hy523
                                    clear hy523
                                    by_cases c17 : y523.length < 8796093022208
                                    · rw [if_pos c17] at H
                                      have LMc17 := Aside0.mk c17
                                      clear c17
                                      obtain ⟨y527, hy527⟩ : ∃ y_ : List ByteArray, y_ = (y523 ++ [rdOf ByteArray.empty l0 x4_1]) := ⟨_, rfl⟩
                                      replace H : ((some (x3_1.drop (x5_3 : Int).toNat : List ByteArray)).bind fun y530 => (if y527.length + y530.length < 8796093022208 then (rampartlaw04_once.l0 k3 l0 (y527 ++ y530) (wrap64 (x4_1 + 1))) else (none))) = some r := by first | (rw [hy527]; with_reducible exact H) | (have H2_ := (Option.bind_some _ _).symm.trans H; rw [hy527]; with_reducible exact H2_) | (have H2_ := (Option.bind_some _ _).symm.trans H; with_reducible exact H2_) | with_reducible exact H | (rw [hy527]; exact H) | exact H
                                      have Ny527 := Aside0.mk hy527
                                      clear hy527
                                      have c18b0 := eq_true (of_decide_eq_true (by first | (with_reducible assumption) | assumption) : 0 ≤ x5_3)
                                      have c19b0 := eq_true (of_decide_eq_true (by first | (with_reducible assumption) | assumption) : x5_3 ≤ (x3_1.length : Int))
                                      obtain ⟨y530, hy530⟩ : ∃ y_ : List ByteArray, y_ = (x3_1.drop (x5_3 : Int).toNat) := ⟨_, rfl⟩
                                      replace H : (if y527.length + y530.length < 8796093022208 then (rampartlaw04_once.l0 k3 l0 (y527 ++ y530) (wrap64 (x4_1 + 1))) else (none)) = some r := by first | (rw [hy530]; with_reducible exact H) | (have H2_ := (Option.bind_some _ _).symm.trans H; rw [hy530]; with_reducible exact H2_) | (have H2_ := (Option.bind_some _ _).symm.trans H; with_reducible exact H2_) | with_reducible exact H | (rw [hy530]; exact H) | exact H
                                      have Ny530 := Aside0.mk hy530
                                      clear hy530
                                      by_cases c20 : y527.length + y530.length < 8796093022208
                                      · rw [if_pos c20] at H
                                        have LMc20 := Aside0.mk c20
                                        clear c20
                                        obtain ⟨y534, hy534⟩ : ∃ y_ : List ByteArray, y_ = (y527 ++ y530) := ⟨_, rfl⟩
                                        replace H : (rampartlaw04_once.l0 k3 l0 y534 (wrap64 (x4_1 + 1))) = some r := by first | (rw [hy534]; with_reducible exact H) | (have H2_ := (Option.bind_some _ _).symm.trans H; rw [hy534]; with_reducible exact H2_) | (have H2_ := (Option.bind_some _ _).symm.trans H; with_reducible exact H2_) | with_reducible exact H | (rw [hy534]; exact H) | exact H
                                        have Ny534 := Aside0.mk hy534
                                        clear hy534
                                        have H' := Aside0.mk H
                                        clear H
                                        have p515 : 0 ≤ ((ji7) : Int) := of_decide_eq_true (by first | (with_reducible assumption) | assumption)
                                        have q515 : (ji7) < (x3_1.length : Int) := of_decide_eq_true (by first | (with_reducible assumption) | assumption)
                                        obtain ⟨ad515, e515, hx515_0⟩ := Kd.at_string (Kd.R_reads' HO_3.out).2.2 (ji7) p515 q515
                                        cases e515
                                        replace p515 := eq_true p515
                                        replace q515 := eq_true q515
                                        have p516 : 0 ≤ (x4_1 : Int) := of_decide_eq_true (by first | (with_reducible assumption) | assumption)
                                        have q516 : x4_1 < (l0.length : Int) := of_decide_eq_true (by first | (with_reducible assumption) | assumption)
                                        obtain ⟨ad516, e516, hx516_0⟩ := Kd.at_string HR0.out x4_1 p516 q516
                                        cases e516
                                        replace hx516_0 := (HB.out.cell (World.block_lt_of_cell? w _ hx516_0)).trans hx516_0
                                        replace p516 := eq_true p516
                                        replace q516 := eq_true q516
                                        have p517 : 0 ≤ ((ji7) : Int) := of_decide_eq_true (by first | (with_reducible assumption) | assumption)
                                        have q517 : (ji7) < (x3_1.length : Int) := of_decide_eq_true (by first | (with_reducible assumption) | assumption)
                                        obtain ⟨ad517, e517, hx517_0⟩ := Kd.at_string (Kd.R_reads' HO_3.out).2.2 (ji7) p517 q517
                                        obtain rfl : ad515 = ad517 := (by injection e517)
                                        replace p517 := eq_true p517
                                        replace q517 := eq_true q517
                                        have p518 : 0 ≤ (x4_1 : Int) := of_decide_eq_true (by first | (with_reducible assumption) | assumption)
                                        have q518 : x4_1 < (l0.length : Int) := of_decide_eq_true (by first | (with_reducible assumption) | assumption)
                                        obtain ⟨ad518, e518, hx518_0⟩ := Kd.at_string HR0.out x4_1 p518 q518
                                        obtain rfl : ad516 = ad518 := (by injection e518)
                                        replace hx518_0 := (HB.out.cell (World.block_lt_of_cell? w _ hx518_0)).trans hx518_0
                                        replace p518 := eq_true p518
                                        replace q518 := eq_true q518
                                        have q21 : (x5_3 : Int) ≤ ((x3_1.length : Int) : Int) := of_decide_eq_true (by first | (with_reducible assumption) | assumption)
                                        obtain ⟨i021, hi021, _, hsz21, _⟩ := info_parts info9
                                        have hroom21 : x3_1.length ≤ co5 := (Kd.R_reads' HO_3.out).2.1
                                        have hC21 : Kd.C Kd.string _ (some ad515) x3_1.length x3_1 := (Kd.R_reads' HO_3.out).2.2
                                        have hcut21 := cut_to (P := Try.prog) 22 9 .i64 Try.underlying22 hi021 (some ad515) x3_1.length co5 x5_3 (of_decide_eq_true (by first | (with_reducible assumption) | assumption)) q21 hroom21
                                        have hr21 := Kd.C_take (m := (x5_3 : Int).toNat) hC21 (by omega)
                                        have hy21 : y519.length = (x5_3 : Int).toNat := (by rw [Ny519.out, List.length_take]; omega)
                                        rw [← Ny519.out] at hr21
                                        rw [← hy21] at hcut21
                                        have HR522 := Aside0.mk hr21
                                        have HC522 := Aside0.mk (show y519.length ≤ co5 from by omega)
                                        clear hr21 hC21 hroom21 hi021 hsz21
                                        have KY21 := Aside0.mk hy21
                                        clear hy21
                                        have KL21 := Aside0.mk (show (x5_3 : Int).toNat ≤ x3_1.length from by omega)
                                        replace q21 := eq_true q21
                                        go_wp2_with (first | ((with_reducible refine gate_builtin (b := .append) (xs := #[.tmp 49, .tmp 52]) rfl ?_); at_builtin; refine Kd.R_append_rows Kd.string (w0 := w) w.heap.size rfl (.tmp 49) (.tmp 52) 22 9 (.string ⟨#[]⟩) 16 rfl Try.underlying22 info9 rfl (by decide) (by omega) (.slice none 0 0) ([] : List ByteArray) y519 _ _ _ (fun k_ => some k_ ≠ (.slice (some ad515) x3_1.length co5 : Value).ownBlock) (fun _ => False) rfl rfl ?aO ?aR (fun _ _ h => h) (fun _ h => h.elim) ?aF ?aB ?aS ?aL ?_; (case aR => repeat (first | exact (by repeat (first | (with_reducible exact HR522.out) | (with_reducible refine Kd.C_alloc ?_ _) | (with_reducible refine Kd.C_drewN ?_ _) | (with_reducible refine Kd.C_drew ?_) | exact HR522.out)) | (with_reducible refine Kd.C_alloc ?_ _) | (with_reducible refine Kd.C_drewN ?_ _) | (with_reducible refine Kd.C_drew ?_))); (case aB => exact (by repeat (first | (with_reducible first | exact HB.out | apply below_alloc | apply pw_below_drewN | apply below_drew1) | exact HB.out))); (case aF => exact (fun k_ hk => Kd.fresh' (Kd.R_lt (by (with_reducible repeat (first | apply Kd.R_alloc | apply Kd.R_drewN | apply Kd.R_drew)); exact HO_3.out)) k_ hk)); (case aO => exact ((Kd.R_nil _ _ _ _ (fun k_ => some k_ ≠ (.slice (some ad515) x3_1.length co5 : Value).ownBlock)))); (case aS => exact (below_size (by repeat (first | (with_reducible first | exact HB.out | apply below_alloc | apply pw_below_drewN | apply below_drew1) | exact HB.out)))); (case aL => have := LMc16.out; omega); intro v524 w22 ho hb hg hat; rw [← Ny523.out] at ho; have n0_ := Aside0.mk (Kd.R_after (Kd.R_apart_nil (by (with_reducible repeat (first | apply Kd.R_alloc | apply Kd.R_drewN | apply Kd.R_drew)); exact HO_3.out)) hg hat); have n1_ := Aside0.mk (hb); have n2_ := Aside0.mk ((show Kd.C Kd.string w22 (some ad515) y519.length y519 from by rw [Ny519.out]; exact Kd.C_take (m := (x5_3 : Int).toNat) ((Kd.R_reads' (Kd.R_after (Kd.R_apart_nil (by (with_reducible repeat (first | apply Kd.R_alloc | apply Kd.R_drewN | apply Kd.R_drew)); exact HO_3.out)) hg hat)).2.2) KL21.out)); have n3_ := Aside0.mk (ho); clear HO_3; clear HB; clear HR522; have HO_3 := n0_; have HB := n1_; have HR522 := n2_; have HO525 := n3_; clear n0_ n1_ n2_ n3_; clear ho hb hg hat; have p526 : 0 ≤ (x4_1 : Int) := of_decide_eq_true (by first | (with_reducible assumption) | assumption); have q526 : x4_1 < (l0.length : Int) := of_decide_eq_true (by first | (with_reducible assumption) | assumption); obtain ⟨ad526, e526, hx526_0⟩ := Kd.at_string HR0.out x4_1 p526 q526; obtain rfl : ad516 = ad526 := (by injection e526); replace hx526_0 := (HB.out.cell (World.block_lt_of_cell? w _ hx526_0)).trans hx526_0; replace p526 := eq_true p526; replace q526 := eq_true q526) | ((with_reducible refine gate_builtin (b := .append) (xs := #[.tmp 54, .tmp 59]) rfl ?_); at_builtin; refine Kd.R_append Kd.string (w0 := w) w.heap.size rfl (.tmp 54) (.tmp 59) 22 9 (.string ⟨#[]⟩) 16 rfl Try.underlying22 info9 rfl (by decide) (by omega) v524 y523 (rdOf ByteArray.empty l0 x4_1) [.string (rdOf ByteArray.empty l0 x4_1)] (fun k_ => some k_ ≠ (.slice (some ad515) x3_1.length co5 : Value).ownBlock) (fun _ => False) rfl rfl ?aP (fun _ hk => hk.elim) ?aF ?aO ?aB ?aS ?aL ?_; (case aP => exact rfl); (case aB => exact (by repeat (first | (with_reducible first | exact HB.out | apply below_alloc | apply pw_below_drewN | apply below_drew1) | exact HB.out))); (case aF => exact (fun k_ hk => Kd.fresh' (Kd.R_lt (by (with_reducible repeat (first | apply Kd.R_alloc | apply Kd.R_drewN | apply Kd.R_drew)); exact HO_3.out)) k_ hk)); (case aO => exact (by (with_reducible repeat (first | apply Kd.R_alloc | apply Kd.R_drewN | apply Kd.R_drew)); exact HO525.out)); (case aS => exact (below_size (by repeat (first | (with_reducible first | exact HB.out | apply below_alloc | apply pw_below_drewN | apply below_drew1) | exact HB.out)))); (case aL => have := LMc17.out; omega); intro v528 w23 ho hb hg hat; rw [← Ny527.out] at ho; have n0_ := Aside0.mk (Kd.R_after (ok := (fun _ => True)) (by (with_reducible repeat (first | apply Kd.R_alloc | apply Kd.R_drewN | apply Kd.R_drew)); exact HO_3.out) hg hat); have n1_ := Aside0.mk (hb); have n2_ := Aside0.mk ((show Kd.C Kd.string w23 (some ad515) y519.length y519 from by rw [Ny519.out]; exact Kd.C_take (m := (x5_3 : Int).toNat) ((Kd.R_reads' (Kd.R_after (ok := (fun _ => True)) (by (with_reducible repeat (first | apply Kd.R_alloc | apply Kd.R_drewN | apply Kd.R_drew)); exact HO_3.out) hg hat)).2.2) KL21.out)); have n3_ := Aside0.mk (ho); clear HO_3; clear HB; clear HR522; clear HO525; have HO_3 := n0_; have HB := n1_; have HR522 := n2_; have HO529 := n3_; clear n0_ n1_ n2_ n3_; clear ho hb hg hat; have q24 : (x5_3 : Int) ≤ ((x3_1.length : Int) : Int) := of_decide_eq_true (by first | (with_reducible assumption) | assumption); obtain ⟨i024, hi024, _, hsz24, _⟩ := info_parts info9; have hroom24 : x3_1.length ≤ co5 := (Kd.R_reads' HO_3.out).2.1; have hC24 : Kd.C Kd.string _ (some ad515) x3_1.length x3_1 := (Kd.R_reads' HO_3.out).2.2; have q024 : (0 : Int) ≤ (x5_3 : Int) := of_decide_eq_true (by first | (with_reducible assumption) | assumption); have hcut24 := cut_from (P := Try.prog) 22 9 .i64 Try.underlying22 hi024 1 hsz24 (some ad515) x3_1.length co5 x5_3 q024 q24; have hr24 := Kd.C_drop (m := (x5_3 : Int).toNat) (c := co5) hC24 (by omega) hroom24; obtain ⟨A24, hA24⟩ : ∃ A1, A1 = (if co5 = (x5_3 : Int).toNat then (some ad515) else ((some ad515) : Option Addr).map (·.add ((x5_3 : Int).toNat * 1))) := ⟨_, rfl⟩; obtain ⟨c24, hc24⟩ : ∃ c1, c1 = co5 - (x5_3 : Int).toNat := ⟨_, rfl⟩; have hy24 : y530.length = x3_1.length - (x5_3 : Int).toNat := (by rw [Ny530.out, List.length_drop] <;> omega); rw [show (x3_1).drop (x5_3 : Int).toNat = y530 from Ny530.out.symm] at hr24; replace hr24 : Kd.C Kd.string _ A24 y530.length y530 := (by rw [hA24]; exact hr24); rw [← hy24, ← hA24, ← hc24] at hcut24; have HR533 := Aside0.mk hr24; have HC533 := Aside0.mk (show y530.length ≤ c24 from by rw [hy24, hc24]; exact Nat.sub_le_sub_right hroom24 _); clear hr24 hC24 hroom24 hi024 hsz24 hc24; have KY24 := Aside0.mk hy24; have KA24 := Aside0.mk hA24; clear hy24 hA24; have KL24 := Aside0.mk (show (x5_3 : Int).toNat ≤ x3_1.length from by omega); replace q24 := eq_true q24) | ((with_reducible refine gate_builtin (b := .append) (xs := #[.tmp 61, .tmp 64]) rfl ?_); at_builtin; refine Kd.R_append_rows Kd.string (w0 := w) w.heap.size rfl (.tmp 61) (.tmp 64) 22 9 (.string ⟨#[]⟩) 16 rfl Try.underlying22 info9 rfl (by decide) (by omega) v528 y527 y530 _ _ _ (fun k_ => some k_ ≠ (.slice (some ad515) x3_1.length co5 : Value).ownBlock) (fun _ => False) rfl rfl ?aO ?aR (fun _ _ h => h) (fun _ h => h.elim) ?aF ?aB ?aS ?aL ?_; (case aR => repeat (first | exact (by repeat (first | (with_reducible exact HR533.out) | (with_reducible refine Kd.C_alloc ?_ _) | (with_reducible refine Kd.C_drewN ?_ _) | (with_reducible refine Kd.C_drew ?_) | exact HR533.out)) | (with_reducible refine Kd.C_alloc ?_ _) | (with_reducible refine Kd.C_drewN ?_ _) | (with_reducible refine Kd.C_drew ?_))); (case aB => exact (by repeat (first | (with_reducible first | exact HB.out | apply below_alloc | apply pw_below_drewN | apply below_drew1) | exact HB.out))); (case aF => exact (fun k_ hk => Kd.fresh' (Kd.R_lt (by (with_reducible repeat (first | apply Kd.R_alloc | apply Kd.R_drewN | apply Kd.R_drew)); exact HO_3.out)) k_ hk)); (case aO => exact (by (with_reducible repeat (first | apply Kd.R_alloc | apply Kd.R_drewN | apply Kd.R_drew)); exact HO529.out)); (case aS => exact (below_size (by repeat (first | (with_reducible first | exact HB.out | apply below_alloc | apply pw_below_drewN | apply below_drew1) | exact HB.out)))); (case aL => have := LMc20.out; omega); intro v535 w25 ho hb hg hat; rw [← Ny534.out] at ho; have n0_ := Aside0.mk (Kd.R_after (ok := (fun _ => True)) (by (with_reducible repeat (first | apply Kd.R_alloc | apply Kd.R_drewN | apply Kd.R_drew)); exact HO_3.out) hg hat); have n1_ := Aside0.mk (hb); have n2_ := Aside0.mk ((show Kd.C Kd.string w25 (some ad515) y519.length y519 from by rw [Ny519.out]; exact Kd.C_take (m := (x5_3 : Int).toNat) ((Kd.R_reads' (Kd.R_after (ok := (fun _ => True)) (by (with_reducible repeat (first | apply Kd.R_alloc | apply Kd.R_drewN | apply Kd.R_drew)); exact HO_3.out) hg hat)).2.2) KL21.out)); have n3_ := Aside0.mk ((show Kd.C Kd.string w25 A24 y530.length y530 from by rw [Ny530.out, KA24.out]; exact Kd.C_drop (m := (x5_3 : Int).toNat) (c := co5) ((Kd.R_reads' (Kd.R_after (ok := (fun _ => True)) (by (with_reducible repeat (first | apply Kd.R_alloc | apply Kd.R_drewN | apply Kd.R_drew)); exact HO_3.out) hg hat)).2.2) KL24.out ((Kd.R_reads' (Kd.R_after (ok := (fun _ => True)) (by (with_reducible repeat (first | apply Kd.R_alloc | apply Kd.R_drewN | apply Kd.R_drew)); exact HO_3.out) hg hat)).2.1))); have n4_ := Aside0.mk (ho); clear HO_3; clear HB; clear HR522; clear HR533; clear HO529; have HO_3 := n0_; have HB := n1_; have HR522 := n2_; have HR533 := n3_; have HO536 := n4_; clear n0_ n1_ n2_ n3_ n4_; clear ho hb hg hat))
                                        repeat (go_quiet (first | ((with_reducible refine gate_builtin (b := .append) (xs := #[.tmp 49, .tmp 52]) rfl ?_); at_builtin; refine Kd.R_append_rows Kd.string (w0 := w) w.heap.size rfl (.tmp 49) (.tmp 52) 22 9 (.string ⟨#[]⟩) 16 rfl Try.underlying22 info9 rfl (by decide) (by omega) (.slice none 0 0) ([] : List ByteArray) y519 _ _ _ (fun k_ => some k_ ≠ (.slice (some ad515) x3_1.length co5 : Value).ownBlock) (fun _ => False) rfl rfl ?aO ?aR (fun _ _ h => h) (fun _ h => h.elim) ?aF ?aB ?aS ?aL ?_; (case aR => repeat (first | exact (by repeat (first | (with_reducible exact HR522.out) | (with_reducible refine Kd.C_alloc ?_ _) | (with_reducible refine Kd.C_drewN ?_ _) | (with_reducible refine Kd.C_drew ?_) | exact HR522.out)) | (with_reducible refine Kd.C_alloc ?_ _) | (with_reducible refine Kd.C_drewN ?_ _) | (with_reducible refine Kd.C_drew ?_))); (case aB => exact (by repeat (first | (with_reducible first | exact HB.out | apply below_alloc | apply pw_below_drewN | apply below_drew1) | exact HB.out))); (case aF => exact (fun k_ hk => Kd.fresh' (Kd.R_lt (by (with_reducible repeat (first | apply Kd.R_alloc | apply Kd.R_drewN | apply Kd.R_drew)); exact HO_3.out)) k_ hk)); (case aO => exact ((Kd.R_nil _ _ _ _ (fun k_ => some k_ ≠ (.slice (some ad515) x3_1.length co5 : Value).ownBlock)))); (case aS => exact (below_size (by repeat (first | (with_reducible first | exact HB.out | apply below_alloc | apply pw_below_drewN | apply below_drew1) | exact HB.out)))); (case aL => have := LMc16.out; omega); intro v524 w22 ho hb hg hat; rw [← Ny523.out] at ho; have n0_ := Aside0.mk (Kd.R_after (Kd.R_apart_nil (by (with_reducible repeat (first | apply Kd.R_alloc | apply Kd.R_drewN | apply Kd.R_drew)); exact HO_3.out)) hg hat); have n1_ := Aside0.mk (hb); have n2_ := Aside0.mk ((show Kd.C Kd.string w22 (some ad515) y519.length y519 from by rw [Ny519.out]; exact Kd.C_take (m := (x5_3 : Int).toNat) ((Kd.R_reads' (Kd.R_after (Kd.R_apart_nil (by (with_reducible repeat (first | apply Kd.R_alloc | apply Kd.R_drewN | apply Kd.R_drew)); exact HO_3.out)) hg hat)).2.2) KL21.out)); have n3_ := Aside0.mk (ho); clear HO_3; clear HB; clear HR522; have HO_3 := n0_; have HB := n1_; have HR522 := n2_; have HO525 := n3_; clear n0_ n1_ n2_ n3_; clear ho hb hg hat; have p526 : 0 ≤ (x4_1 : Int) := of_decide_eq_true (by first | (with_reducible assumption) | assumption); have q526 : x4_1 < (l0.length : Int) := of_decide_eq_true (by first | (with_reducible assumption) | assumption); obtain ⟨ad526, e526, hx526_0⟩ := Kd.at_string HR0.out x4_1 p526 q526; obtain rfl : ad516 = ad526 := (by injection e526); replace hx526_0 := (HB.out.cell (World.block_lt_of_cell? w _ hx526_0)).trans hx526_0; replace p526 := eq_true p526; replace q526 := eq_true q526) | ((with_reducible refine gate_builtin (b := .append) (xs := #[.tmp 54, .tmp 59]) rfl ?_); at_builtin; refine Kd.R_append Kd.string (w0 := w) w.heap.size rfl (.tmp 54) (.tmp 59) 22 9 (.string ⟨#[]⟩) 16 rfl Try.underlying22 info9 rfl (by decide) (by omega) v524 y523 (rdOf ByteArray.empty l0 x4_1) [.string (rdOf ByteArray.empty l0 x4_1)] (fun k_ => some k_ ≠ (.slice (some ad515) x3_1.length co5 : Value).ownBlock) (fun _ => False) rfl rfl ?aP (fun _ hk => hk.elim) ?aF ?aO ?aB ?aS ?aL ?_; (case aP => exact rfl); (case aB => exact (by repeat (first | (with_reducible first | exact HB.out | apply below_alloc | apply pw_below_drewN | apply below_drew1) | exact HB.out))); (case aF => exact (fun k_ hk => Kd.fresh' (Kd.R_lt (by (with_reducible repeat (first | apply Kd.R_alloc | apply Kd.R_drewN | apply Kd.R_drew)); exact HO_3.out)) k_ hk)); (case aO => exact (by (with_reducible repeat (first | apply Kd.R_alloc | apply Kd.R_drewN | apply Kd.R_drew)); exact HO525.out)); (case aS => exact (below_size (by repeat (first | (with_reducible first | exact HB.out | apply below_alloc | apply pw_below_drewN | apply below_drew1) | exact HB.out)))); (case aL => have := LMc17.out; omega); intro v528 w23 ho hb hg hat; rw [← Ny527.out] at ho; have n0_ := Aside0.mk (Kd.R_after (ok := (fun _ => True)) (by (with_reducible repeat (first | apply Kd.R_alloc | apply Kd.R_drewN | apply Kd.R_drew)); exact HO_3.out) hg hat); have n1_ := Aside0.mk (hb); have n2_ := Aside0.mk ((show Kd.C Kd.string w23 (some ad515) y519.length y519 from by rw [Ny519.out]; exact Kd.C_take (m := (x5_3 : Int).toNat) ((Kd.R_reads' (Kd.R_after (ok := (fun _ => True)) (by (with_reducible repeat (first | apply Kd.R_alloc | apply Kd.R_drewN | apply Kd.R_drew)); exact HO_3.out) hg hat)).2.2) KL21.out)); have n3_ := Aside0.mk (ho); clear HO_3; clear HB; clear HR522; clear HO525; have HO_3 := n0_; have HB := n1_; have HR522 := n2_; have HO529 := n3_; clear n0_ n1_ n2_ n3_; clear ho hb hg hat; have q24 : (x5_3 : Int) ≤ ((x3_1.length : Int) : Int) := of_decide_eq_true (by first | (with_reducible assumption) | assumption); obtain ⟨i024, hi024, _, hsz24, _⟩ := info_parts info9; have hroom24 : x3_1.length ≤ co5 := (Kd.R_reads' HO_3.out).2.1; have hC24 : Kd.C Kd.string _ (some ad515) x3_1.length x3_1 := (Kd.R_reads' HO_3.out).2.2; have q024 : (0 : Int) ≤ (x5_3 : Int) := of_decide_eq_true (by first | (with_reducible assumption) | assumption); have hcut24 := cut_from (P := Try.prog) 22 9 .i64 Try.underlying22 hi024 1 hsz24 (some ad515) x3_1.length co5 x5_3 q024 q24; have hr24 := Kd.C_drop (m := (x5_3 : Int).toNat) (c := co5) hC24 (by omega) hroom24; obtain ⟨A24, hA24⟩ : ∃ A1, A1 = (if co5 = (x5_3 : Int).toNat then (some ad515) else ((some ad515) : Option Addr).map (·.add ((x5_3 : Int).toNat * 1))) := ⟨_, rfl⟩; obtain ⟨c24, hc24⟩ : ∃ c1, c1 = co5 - (x5_3 : Int).toNat := ⟨_, rfl⟩; have hy24 : y530.length = x3_1.length - (x5_3 : Int).toNat := (by rw [Ny530.out, List.length_drop] <;> omega); rw [show (x3_1).drop (x5_3 : Int).toNat = y530 from Ny530.out.symm] at hr24; replace hr24 : Kd.C Kd.string _ A24 y530.length y530 := (by rw [hA24]; exact hr24); rw [← hy24, ← hA24, ← hc24] at hcut24; have HR533 := Aside0.mk hr24; have HC533 := Aside0.mk (show y530.length ≤ c24 from by rw [hy24, hc24]; exact Nat.sub_le_sub_right hroom24 _); clear hr24 hC24 hroom24 hi024 hsz24 hc24; have KY24 := Aside0.mk hy24; have KA24 := Aside0.mk hA24; clear hy24 hA24; have KL24 := Aside0.mk (show (x5_3 : Int).toNat ≤ x3_1.length from by omega); replace q24 := eq_true q24) | ((with_reducible refine gate_builtin (b := .append) (xs := #[.tmp 61, .tmp 64]) rfl ?_); at_builtin; refine Kd.R_append_rows Kd.string (w0 := w) w.heap.size rfl (.tmp 61) (.tmp 64) 22 9 (.string ⟨#[]⟩) 16 rfl Try.underlying22 info9 rfl (by decide) (by omega) v528 y527 y530 _ _ _ (fun k_ => some k_ ≠ (.slice (some ad515) x3_1.length co5 : Value).ownBlock) (fun _ => False) rfl rfl ?aO ?aR (fun _ _ h => h) (fun _ h => h.elim) ?aF ?aB ?aS ?aL ?_; (case aR => repeat (first | exact (by repeat (first | (with_reducible exact HR533.out) | (with_reducible refine Kd.C_alloc ?_ _) | (with_reducible refine Kd.C_drewN ?_ _) | (with_reducible refine Kd.C_drew ?_) | exact HR533.out)) | (with_reducible refine Kd.C_alloc ?_ _) | (with_reducible refine Kd.C_drewN ?_ _) | (with_reducible refine Kd.C_drew ?_))); (case aB => exact (by repeat (first | (with_reducible first | exact HB.out | apply below_alloc | apply pw_below_drewN | apply below_drew1) | exact HB.out))); (case aF => exact (fun k_ hk => Kd.fresh' (Kd.R_lt (by (with_reducible repeat (first | apply Kd.R_alloc | apply Kd.R_drewN | apply Kd.R_drew)); exact HO_3.out)) k_ hk)); (case aO => exact (by (with_reducible repeat (first | apply Kd.R_alloc | apply Kd.R_drewN | apply Kd.R_drew)); exact HO529.out)); (case aS => exact (below_size (by repeat (first | (with_reducible first | exact HB.out | apply below_alloc | apply pw_below_drewN | apply below_drew1) | exact HB.out)))); (case aL => have := LMc20.out; omega); intro v535 w25 ho hb hg hat; rw [← Ny534.out] at ho; have n0_ := Aside0.mk (Kd.R_after (ok := (fun _ => True)) (by (with_reducible repeat (first | apply Kd.R_alloc | apply Kd.R_drewN | apply Kd.R_drew)); exact HO_3.out) hg hat); have n1_ := Aside0.mk (hb); have n2_ := Aside0.mk ((show Kd.C Kd.string w25 (some ad515) y519.length y519 from by rw [Ny519.out]; exact Kd.C_take (m := (x5_3 : Int).toNat) ((Kd.R_reads' (Kd.R_after (ok := (fun _ => True)) (by (with_reducible repeat (first | apply Kd.R_alloc | apply Kd.R_drewN | apply Kd.R_drew)); exact HO_3.out) hg hat)).2.2) KL21.out)); have n3_ := Aside0.mk ((show Kd.C Kd.string w25 A24 y530.length y530 from by rw [Ny530.out, KA24.out]; exact Kd.C_drop (m := (x5_3 : Int).toNat) (c := co5) ((Kd.R_reads' (Kd.R_after (ok := (fun _ => True)) (by (with_reducible repeat (first | apply Kd.R_alloc | apply Kd.R_drewN | apply Kd.R_drew)); exact HO_3.out) hg hat)).2.2) KL24.out ((Kd.R_reads' (Kd.R_after (ok := (fun _ => True)) (by (with_reducible repeat (first | apply Kd.R_alloc | apply Kd.R_drewN | apply Kd.R_drew)); exact HO_3.out) hg hat)).2.1))); have n4_ := Aside0.mk (ho); clear HO_3; clear HB; clear HR522; clear HR533; clear HO529; have HO_3 := n0_; have HB := n1_; have HR522 := n2_; have HR533 := n3_; have HO536 := n4_; clear n0_ n1_ n2_ n3_ n4_; clear ho hb hg hat)); try go_wp2_with (first | ((with_reducible refine gate_builtin (b := .append) (xs := #[.tmp 49, .tmp 52]) rfl ?_); at_builtin; refine Kd.R_append_rows Kd.string (w0 := w) w.heap.size rfl (.tmp 49) (.tmp 52) 22 9 (.string ⟨#[]⟩) 16 rfl Try.underlying22 info9 rfl (by decide) (by omega) (.slice none 0 0) ([] : List ByteArray) y519 _ _ _ (fun k_ => some k_ ≠ (.slice (some ad515) x3_1.length co5 : Value).ownBlock) (fun _ => False) rfl rfl ?aO ?aR (fun _ _ h => h) (fun _ h => h.elim) ?aF ?aB ?aS ?aL ?_; (case aR => repeat (first | exact (by repeat (first | (with_reducible exact HR522.out) | (with_reducible refine Kd.C_alloc ?_ _) | (with_reducible refine Kd.C_drewN ?_ _) | (with_reducible refine Kd.C_drew ?_) | exact HR522.out)) | (with_reducible refine Kd.C_alloc ?_ _) | (with_reducible refine Kd.C_drewN ?_ _) | (with_reducible refine Kd.C_drew ?_))); (case aB => exact (by repeat (first | (with_reducible first | exact HB.out | apply below_alloc | apply pw_below_drewN | apply below_drew1) | exact HB.out))); (case aF => exact (fun k_ hk => Kd.fresh' (Kd.R_lt (by (with_reducible repeat (first | apply Kd.R_alloc | apply Kd.R_drewN | apply Kd.R_drew)); exact HO_3.out)) k_ hk)); (case aO => exact ((Kd.R_nil _ _ _ _ (fun k_ => some k_ ≠ (.slice (some ad515) x3_1.length co5 : Value).ownBlock)))); (case aS => exact (below_size (by repeat (first | (with_reducible first | exact HB.out | apply below_alloc | apply pw_below_drewN | apply below_drew1) | exact HB.out)))); (case aL => have := LMc16.out; omega); intro v524 w22 ho hb hg hat; rw [← Ny523.out] at ho; have n0_ := Aside0.mk (Kd.R_after (Kd.R_apart_nil (by (with_reducible repeat (first | apply Kd.R_alloc | apply Kd.R_drewN | apply Kd.R_drew)); exact HO_3.out)) hg hat); have n1_ := Aside0.mk (hb); have n2_ := Aside0.mk ((show Kd.C Kd.string w22 (some ad515) y519.length y519 from by rw [Ny519.out]; exact Kd.C_take (m := (x5_3 : Int).toNat) ((Kd.R_reads' (Kd.R_after (Kd.R_apart_nil (by (with_reducible repeat (first | apply Kd.R_alloc | apply Kd.R_drewN | apply Kd.R_drew)); exact HO_3.out)) hg hat)).2.2) KL21.out)); have n3_ := Aside0.mk (ho); clear HO_3; clear HB; clear HR522; have HO_3 := n0_; have HB := n1_; have HR522 := n2_; have HO525 := n3_; clear n0_ n1_ n2_ n3_; clear ho hb hg hat; have p526 : 0 ≤ (x4_1 : Int) := of_decide_eq_true (by first | (with_reducible assumption) | assumption); have q526 : x4_1 < (l0.length : Int) := of_decide_eq_true (by first | (with_reducible assumption) | assumption); obtain ⟨ad526, e526, hx526_0⟩ := Kd.at_string HR0.out x4_1 p526 q526; obtain rfl : ad516 = ad526 := (by injection e526); replace hx526_0 := (HB.out.cell (World.block_lt_of_cell? w _ hx526_0)).trans hx526_0; replace p526 := eq_true p526; replace q526 := eq_true q526) | ((with_reducible refine gate_builtin (b := .append) (xs := #[.tmp 54, .tmp 59]) rfl ?_); at_builtin; refine Kd.R_append Kd.string (w0 := w) w.heap.size rfl (.tmp 54) (.tmp 59) 22 9 (.string ⟨#[]⟩) 16 rfl Try.underlying22 info9 rfl (by decide) (by omega) v524 y523 (rdOf ByteArray.empty l0 x4_1) [.string (rdOf ByteArray.empty l0 x4_1)] (fun k_ => some k_ ≠ (.slice (some ad515) x3_1.length co5 : Value).ownBlock) (fun _ => False) rfl rfl ?aP (fun _ hk => hk.elim) ?aF ?aO ?aB ?aS ?aL ?_; (case aP => exact rfl); (case aB => exact (by repeat (first | (with_reducible first | exact HB.out | apply below_alloc | apply pw_below_drewN | apply below_drew1) | exact HB.out))); (case aF => exact (fun k_ hk => Kd.fresh' (Kd.R_lt (by (with_reducible repeat (first | apply Kd.R_alloc | apply Kd.R_drewN | apply Kd.R_drew)); exact HO_3.out)) k_ hk)); (case aO => exact (by (with_reducible repeat (first | apply Kd.R_alloc | apply Kd.R_drewN | apply Kd.R_drew)); exact HO525.out)); (case aS => exact (below_size (by repeat (first | (with_reducible first | exact HB.out | apply below_alloc | apply pw_below_drewN | apply below_drew1) | exact HB.out)))); (case aL => have := LMc17.out; omega); intro v528 w23 ho hb hg hat; rw [← Ny527.out] at ho; have n0_ := Aside0.mk (Kd.R_after (ok := (fun _ => True)) (by (with_reducible repeat (first | apply Kd.R_alloc | apply Kd.R_drewN | apply Kd.R_drew)); exact HO_3.out) hg hat); have n1_ := Aside0.mk (hb); have n2_ := Aside0.mk ((show Kd.C Kd.string w23 (some ad515) y519.length y519 from by rw [Ny519.out]; exact Kd.C_take (m := (x5_3 : Int).toNat) ((Kd.R_reads' (Kd.R_after (ok := (fun _ => True)) (by (with_reducible repeat (first | apply Kd.R_alloc | apply Kd.R_drewN | apply Kd.R_drew)); exact HO_3.out) hg hat)).2.2) KL21.out)); have n3_ := Aside0.mk (ho); clear HO_3; clear HB; clear HR522; clear HO525; have HO_3 := n0_; have HB := n1_; have HR522 := n2_; have HO529 := n3_; clear n0_ n1_ n2_ n3_; clear ho hb hg hat; have q24 : (x5_3 : Int) ≤ ((x3_1.length : Int) : Int) := of_decide_eq_true (by first | (with_reducible assumption) | assumption); obtain ⟨i024, hi024, _, hsz24, _⟩ := info_parts info9; have hroom24 : x3_1.length ≤ co5 := (Kd.R_reads' HO_3.out).2.1; have hC24 : Kd.C Kd.string _ (some ad515) x3_1.length x3_1 := (Kd.R_reads' HO_3.out).2.2; have q024 : (0 : Int) ≤ (x5_3 : Int) := of_decide_eq_true (by first | (with_reducible assumption) | assumption); have hcut24 := cut_from (P := Try.prog) 22 9 .i64 Try.underlying22 hi024 1 hsz24 (some ad515) x3_1.length co5 x5_3 q024 q24; have hr24 := Kd.C_drop (m := (x5_3 : Int).toNat) (c := co5) hC24 (by omega) hroom24; obtain ⟨A24, hA24⟩ : ∃ A1, A1 = (if co5 = (x5_3 : Int).toNat then (some ad515) else ((some ad515) : Option Addr).map (·.add ((x5_3 : Int).toNat * 1))) := ⟨_, rfl⟩; obtain ⟨c24, hc24⟩ : ∃ c1, c1 = co5 - (x5_3 : Int).toNat := ⟨_, rfl⟩; have hy24 : y530.length = x3_1.length - (x5_3 : Int).toNat := (by rw [Ny530.out, List.length_drop] <;> omega); rw [show (x3_1).drop (x5_3 : Int).toNat = y530 from Ny530.out.symm] at hr24; replace hr24 : Kd.C Kd.string _ A24 y530.length y530 := (by rw [hA24]; exact hr24); rw [← hy24, ← hA24, ← hc24] at hcut24; have HR533 := Aside0.mk hr24; have HC533 := Aside0.mk (show y530.length ≤ c24 from by rw [hy24, hc24]; exact Nat.sub_le_sub_right hroom24 _); clear hr24 hC24 hroom24 hi024 hsz24 hc24; have KY24 := Aside0.mk hy24; have KA24 := Aside0.mk hA24; clear hy24 hA24; have KL24 := Aside0.mk (show (x5_3 : Int).toNat ≤ x3_1.length from by omega); replace q24 := eq_true q24) | ((with_reducible refine gate_builtin (b := .append) (xs := #[.tmp 61, .tmp 64]) rfl ?_); at_builtin; refine Kd.R_append_rows Kd.string (w0 := w) w.heap.size rfl (.tmp 61) (.tmp 64) 22 9 (.string ⟨#[]⟩) 16 rfl Try.underlying22 info9 rfl (by decide) (by omega) v528 y527 y530 _ _ _ (fun k_ => some k_ ≠ (.slice (some ad515) x3_1.length co5 : Value).ownBlock) (fun _ => False) rfl rfl ?aO ?aR (fun _ _ h => h) (fun _ h => h.elim) ?aF ?aB ?aS ?aL ?_; (case aR => repeat (first | exact (by repeat (first | (with_reducible exact HR533.out) | (with_reducible refine Kd.C_alloc ?_ _) | (with_reducible refine Kd.C_drewN ?_ _) | (with_reducible refine Kd.C_drew ?_) | exact HR533.out)) | (with_reducible refine Kd.C_alloc ?_ _) | (with_reducible refine Kd.C_drewN ?_ _) | (with_reducible refine Kd.C_drew ?_))); (case aB => exact (by repeat (first | (with_reducible first | exact HB.out | apply below_alloc | apply pw_below_drewN | apply below_drew1) | exact HB.out))); (case aF => exact (fun k_ hk => Kd.fresh' (Kd.R_lt (by (with_reducible repeat (first | apply Kd.R_alloc | apply Kd.R_drewN | apply Kd.R_drew)); exact HO_3.out)) k_ hk)); (case aO => exact (by (with_reducible repeat (first | apply Kd.R_alloc | apply Kd.R_drewN | apply Kd.R_drew)); exact HO529.out)); (case aS => exact (below_size (by repeat (first | (with_reducible first | exact HB.out | apply below_alloc | apply pw_below_drewN | apply below_drew1) | exact HB.out)))); (case aL => have := LMc20.out; omega); intro v535 w25 ho hb hg hat; rw [← Ny534.out] at ho; have n0_ := Aside0.mk (Kd.R_after (ok := (fun _ => True)) (by (with_reducible repeat (first | apply Kd.R_alloc | apply Kd.R_drewN | apply Kd.R_drew)); exact HO_3.out) hg hat); have n1_ := Aside0.mk (hb); have n2_ := Aside0.mk ((show Kd.C Kd.string w25 (some ad515) y519.length y519 from by rw [Ny519.out]; exact Kd.C_take (m := (x5_3 : Int).toNat) ((Kd.R_reads' (Kd.R_after (ok := (fun _ => True)) (by (with_reducible repeat (first | apply Kd.R_alloc | apply Kd.R_drewN | apply Kd.R_drew)); exact HO_3.out) hg hat)).2.2) KL21.out)); have n3_ := Aside0.mk ((show Kd.C Kd.string w25 A24 y530.length y530 from by rw [Ny530.out, KA24.out]; exact Kd.C_drop (m := (x5_3 : Int).toNat) (c := co5) ((Kd.R_reads' (Kd.R_after (ok := (fun _ => True)) (by (with_reducible repeat (first | apply Kd.R_alloc | apply Kd.R_drewN | apply Kd.R_drew)); exact HO_3.out) hg hat)).2.2) KL24.out ((Kd.R_reads' (Kd.R_after (ok := (fun _ => True)) (by (with_reducible repeat (first | apply Kd.R_alloc | apply Kd.R_drewN | apply Kd.R_drew)); exact HO_3.out) hg hat)).2.1))); have n4_ := Aside0.mk (ho); clear HO_3; clear HB; clear HR522; clear HR533; clear HO529; have HO_3 := n0_; have HB := n1_; have HR522 := n2_; have HR533 := n3_; have HO536 := n4_; clear n0_ n1_ n2_ n3_ n4_; clear ho hb hg hat)))
                                        go_roundg k3
                                        case measure => have := HK1.out; have := HJ1.out; have := HK3.out; omega
                                        case rel => exact ⟨(y534), (wrap64 (x4_1 + 1)), (by first | rfl | (simp; done) | (simp [*]; done)), H', ⟨by have := HK1.out; have := HJ1.out; have := HK3.out; omega⟩, ⟨by (with_reducible repeat (first | apply Kd.R_alloc | apply Kd.R_drewN | apply Kd.R_drew)); exact Kd.R_mono HO536.out (fun _ hk => trivial)⟩, ⟨by repeat (first | (with_reducible first | exact HB.out | apply below_alloc | apply pw_below_drewN | apply below_drew1) | exact HB.out)⟩⟩
                                      · rw [if_neg c20] at H
                                        exact absurd H (by simp)
                                    · rw [if_neg c17] at H
                                      exact absurd H (by simp)
                                  · rw [if_neg c16] at H
                                    exact absurd H (by simp)
                                · rw [if_neg c15] at H
                                  exact absurd H (by simp)
                              · rw [if_neg c14] at H
                                exact absurd H (by simp)
                        · rw [if_neg c11] at H
                          exact absurd H (by simp)
                      · rw [if_neg c10] at H
                        exact absurd H (by simp)
                    · rw [if_neg c9] at H
                      exact absurd H (by simp)
                  · rw [if_neg c8] at H
                    exact absurd H (by simp)
                · rw [if_neg c6] at H
                  have c6b0 : decide (0 < x5_3) = false := decide_eq_false c6
                  clear c6
                  by_cases c26 : 0 ≤ x5_3
                  · rw [if_pos c26] at H
                    have c26b0 := eq_true c26
                    have c26b1 : decide (0 ≤ x5_3) = true := decide_eq_true c26
                    clear c26
                    by_cases c27 : x5_3 ≤ (x3_1.length : Int)
                    · rw [if_pos c27] at H
                      have c27b0 := eq_true c27
                      have c27b1 : decide (x5_3 ≤ (x3_1.length : Int)) = true := decide_eq_true c27
                      clear c27
                      obtain ⟨y537, hy537⟩ : ∃ y_ : List ByteArray, y_ = (x3_1.take (x5_3 : Int).toNat) := ⟨_, rfl⟩
                      replace H : (if ([] : List ByteArray).length + y537.length < 8796093022208 then ((some (([] : List ByteArray) ++ y537 : List ByteArray)).bind fun y541 => (if 0 ≤ x4_1 then (if x4_1 < (l0.length : Int) then (if y541.length < 8796093022208 then ((some (y541 ++ [rdOf ByteArray.empty l0 x4_1] : List ByteArray)).bind fun y545 => ((some (x3_1.drop (x5_3 : Int).toNat : List ByteArray)).bind fun y548 => (if y545.length + y548.length < 8796093022208 then (rampartlaw04_once.l0 k3 l0 (y545 ++ y548) (wrap64 (x4_1 + 1))) else (none)))) else (none)) else (none)) else (none))) else (none)) = some r := by first | (rw [hy537]; with_reducible exact H) | (have H2_ := (Option.bind_some _ _).symm.trans H; rw [hy537]; with_reducible exact H2_) | (have H2_ := (Option.bind_some _ _).symm.trans H; with_reducible exact H2_) | with_reducible exact H | (rw [hy537]; exact H) | exact H
                      have Ny537 := Aside0.mk hy537
                      clear hy537
                      by_cases c28 : ([] : List ByteArray).length + y537.length < 8796093022208
                      · rw [if_pos c28] at H
                        have LMc28 := Aside0.mk c28
                        clear c28
                        obtain ⟨y541, hy541⟩ : ∃ y_ : List ByteArray, y_ = (([] : List ByteArray) ++ y537) := ⟨_, rfl⟩
                        replace H : (if 0 ≤ x4_1 then (if x4_1 < (l0.length : Int) then (if y541.length < 8796093022208 then ((some (y541 ++ [rdOf ByteArray.empty l0 x4_1] : List ByteArray)).bind fun y545 => ((some (x3_1.drop (x5_3 : Int).toNat : List ByteArray)).bind fun y548 => (if y545.length + y548.length < 8796093022208 then (rampartlaw04_once.l0 k3 l0 (y545 ++ y548) (wrap64 (x4_1 + 1))) else (none)))) else (none)) else (none)) else (none)) = some r := by first | (rw [hy541]; with_reducible exact H) | (have H2_ := (Option.bind_some _ _).symm.trans H; rw [hy541]; with_reducible exact H2_) | (have H2_ := (Option.bind_some _ _).symm.trans H; with_reducible exact H2_) | with_reducible exact H | (rw [hy541]; exact H) | exact H
                        have Ny541 := Aside0.mk hy541
                        clear hy541
                        by_cases c29 : 0 ≤ x4_1
                        · rw [if_pos c29] at H
                          have c29b0 : decide (0 ≤ x4_1) = true := decide_eq_true c29
                          clear c29
                          by_cases c30 : x4_1 < (l0.length : Int)
                          · rw [if_pos c30] at H
                            have c30b0 : decide (x4_1 < (l0.length : Int)) = true := decide_eq_true c30
                            clear c30
                            by_cases c31 : y541.length < 8796093022208
                            · rw [if_pos c31] at H
                              have LMc31 := Aside0.mk c31
                              clear c31
                              obtain ⟨y545, hy545⟩ : ∃ y_ : List ByteArray, y_ = (y541 ++ [rdOf ByteArray.empty l0 x4_1]) := ⟨_, rfl⟩
                              replace H : ((some (x3_1.drop (x5_3 : Int).toNat : List ByteArray)).bind fun y548 => (if y545.length + y548.length < 8796093022208 then (rampartlaw04_once.l0 k3 l0 (y545 ++ y548) (wrap64 (x4_1 + 1))) else (none))) = some r := by first | (rw [hy545]; with_reducible exact H) | (have H2_ := (Option.bind_some _ _).symm.trans H; rw [hy545]; with_reducible exact H2_) | (have H2_ := (Option.bind_some _ _).symm.trans H; with_reducible exact H2_) | with_reducible exact H | (rw [hy545]; exact H) | exact H
                              have Ny545 := Aside0.mk hy545
                              clear hy545
                              have c32b0 := eq_true (of_decide_eq_true (by first | (with_reducible assumption) | assumption) : 0 ≤ x5_3)
                              have c33b0 := eq_true (of_decide_eq_true (by first | (with_reducible assumption) | assumption) : x5_3 ≤ (x3_1.length : Int))
                              obtain ⟨y548, hy548⟩ : ∃ y_ : List ByteArray, y_ = (x3_1.drop (x5_3 : Int).toNat) := ⟨_, rfl⟩
                              replace H : (if y545.length + y548.length < 8796093022208 then (rampartlaw04_once.l0 k3 l0 (y545 ++ y548) (wrap64 (x4_1 + 1))) else (none)) = some r := by first | (rw [hy548]; with_reducible exact H) | (have H2_ := (Option.bind_some _ _).symm.trans H; rw [hy548]; with_reducible exact H2_) | (have H2_ := (Option.bind_some _ _).symm.trans H; with_reducible exact H2_) | with_reducible exact H | (rw [hy548]; exact H) | exact H
                              have Ny548 := Aside0.mk hy548
                              clear hy548
                              by_cases c34 : y545.length + y548.length < 8796093022208
                              · rw [if_pos c34] at H
                                have LMc34 := Aside0.mk c34
                                clear c34
                                obtain ⟨y552, hy552⟩ : ∃ y_ : List ByteArray, y_ = (y545 ++ y548) := ⟨_, rfl⟩
                                replace H : (rampartlaw04_once.l0 k3 l0 y552 (wrap64 (x4_1 + 1))) = some r := by first | (rw [hy552]; with_reducible exact H) | (have H2_ := (Option.bind_some _ _).symm.trans H; rw [hy552]; with_reducible exact H2_) | (have H2_ := (Option.bind_some _ _).symm.trans H; with_reducible exact H2_) | with_reducible exact H | (rw [hy552]; exact H) | exact H
                                have Ny552 := Aside0.mk hy552
                                clear hy552
                                have H' := Aside0.mk H
                                clear H
                                have q35 : (x5_3 : Int) ≤ ((x3_1.length : Int) : Int) := of_decide_eq_true (by first | (with_reducible assumption) | assumption)
                                obtain ⟨i035, hi035, _, hsz35, _⟩ := info_parts info9
                                have hroom35 : x3_1.length ≤ co5 := (Kd.R_reads' HO_3.out).2.1
                                have hC35 : Kd.C Kd.string _ Ao5 x3_1.length x3_1 := (Kd.R_reads' HO_3.out).2.2
                                have hcut35 := cut_to (P := Try.prog) 22 9 .i64 Try.underlying22 hi035 Ao5 x3_1.length co5 x5_3 (of_decide_eq_true (by first | (with_reducible assumption) | assumption)) q35 hroom35
                                have hr35 := Kd.C_take (m := (x5_3 : Int).toNat) hC35 (by omega)
                                have hy35 : y537.length = (x5_3 : Int).toNat := (by rw [Ny537.out, List.length_take]; omega)
                                rw [← Ny537.out] at hr35
                                rw [← hy35] at hcut35
                                have HR540 := Aside0.mk hr35
                                have HC540 := Aside0.mk (show y537.length ≤ co5 from by omega)
                                clear hr35 hC35 hroom35 hi035 hsz35
                                have KY35 := Aside0.mk hy35
                                clear hy35
                                have KL35 := Aside0.mk (show (x5_3 : Int).toNat ≤ x3_1.length from by omega)
                                replace q35 := eq_true q35
                                go_wp2_with (first | ((with_reducible refine gate_builtin (b := .append) (xs := #[.tmp 49, .tmp 52]) rfl ?_); at_builtin; refine Kd.R_append_rows Kd.string (w0 := w) w.heap.size rfl (.tmp 49) (.tmp 52) 22 9 (.string ⟨#[]⟩) 16 rfl Try.underlying22 info9 rfl (by decide) (by omega) (.slice none 0 0) ([] : List ByteArray) y537 _ _ _ (fun k_ => some k_ ≠ (.slice Ao5 x3_1.length co5 : Value).ownBlock) (fun _ => False) rfl rfl ?aO ?aR (fun _ _ h => h) (fun _ h => h.elim) ?aF ?aB ?aS ?aL ?_; (case aR => repeat (first | exact (by repeat (first | (with_reducible exact HR540.out) | (with_reducible refine Kd.C_alloc ?_ _) | (with_reducible refine Kd.C_drewN ?_ _) | (with_reducible refine Kd.C_drew ?_) | exact HR540.out)) | (with_reducible refine Kd.C_alloc ?_ _) | (with_reducible refine Kd.C_drewN ?_ _) | (with_reducible refine Kd.C_drew ?_))); (case aB => exact (by repeat (first | (with_reducible first | exact HB.out | apply below_alloc | apply pw_below_drewN | apply below_drew1) | exact HB.out))); (case aF => exact (fun k_ hk => Kd.fresh' (Kd.R_lt (by (with_reducible repeat (first | apply Kd.R_alloc | apply Kd.R_drewN | apply Kd.R_drew)); exact HO_3.out)) k_ hk)); (case aO => exact ((Kd.R_nil _ _ _ _ (fun k_ => some k_ ≠ (.slice Ao5 x3_1.length co5 : Value).ownBlock)))); (case aS => exact (below_size (by repeat (first | (with_reducible first | exact HB.out | apply below_alloc | apply pw_below_drewN | apply below_drew1) | exact HB.out)))); (case aL => have := LMc28.out; omega); intro v542 w36 ho hb hg hat; rw [← Ny541.out] at ho; have n0_ := Aside0.mk (Kd.R_after (Kd.R_apart_nil (by (with_reducible repeat (first | apply Kd.R_alloc | apply Kd.R_drewN | apply Kd.R_drew)); exact HO_3.out)) hg hat); have n1_ := Aside0.mk (hb); have n2_ := Aside0.mk ((show Kd.C Kd.string w36 Ao5 y537.length y537 from by rw [Ny537.out]; exact Kd.C_take (m := (x5_3 : Int).toNat) ((Kd.R_reads' (Kd.R_after (Kd.R_apart_nil (by (with_reducible repeat (first | apply Kd.R_alloc | apply Kd.R_drewN | apply Kd.R_drew)); exact HO_3.out)) hg hat)).2.2) KL35.out)); have n3_ := Aside0.mk (ho); clear HO_3; clear HB; clear HR540; have HO_3 := n0_; have HB := n1_; have HR540 := n2_; have HO543 := n3_; clear n0_ n1_ n2_ n3_; clear ho hb hg hat; have p544 : 0 ≤ (x4_1 : Int) := of_decide_eq_true (by first | (with_reducible assumption) | assumption); have q544 : x4_1 < (l0.length : Int) := of_decide_eq_true (by first | (with_reducible assumption) | assumption); obtain ⟨ad544, e544, hx544_0⟩ := Kd.at_string HR0.out x4_1 p544 q544; cases e544; replace hx544_0 := (HB.out.cell (World.block_lt_of_cell? w _ hx544_0)).trans hx544_0; replace p544 := eq_true p544; replace q544 := eq_true q544) | ((with_reducible refine gate_builtin (b := .append) (xs := #[.tmp 54, .tmp 59]) rfl ?_); at_builtin; refine Kd.R_append Kd.string (w0 := w) w.heap.size rfl (.tmp 54) (.tmp 59) 22 9 (.string ⟨#[]⟩) 16 rfl Try.underlying22 info9 rfl (by decide) (by omega) v542 y541 (rdOf ByteArray.empty l0 x4_1) [.string (rdOf ByteArray.empty l0 x4_1)] (fun k_ => some k_ ≠ (.slice Ao5 x3_1.length co5 : Value).ownBlock) (fun _ => False) rfl rfl ?aP (fun _ hk => hk.elim) ?aF ?aO ?aB ?aS ?aL ?_; (case aP => exact rfl); (case aB => exact (by repeat (first | (with_reducible first | exact HB.out | apply below_alloc | apply pw_below_drewN | apply below_drew1) | exact HB.out))); (case aF => exact (fun k_ hk => Kd.fresh' (Kd.R_lt (by (with_reducible repeat (first | apply Kd.R_alloc | apply Kd.R_drewN | apply Kd.R_drew)); exact HO_3.out)) k_ hk)); (case aO => exact (by (with_reducible repeat (first | apply Kd.R_alloc | apply Kd.R_drewN | apply Kd.R_drew)); exact HO543.out)); (case aS => exact (below_size (by repeat (first | (with_reducible first | exact HB.out | apply below_alloc | apply pw_below_drewN | apply below_drew1) | exact HB.out)))); (case aL => have := LMc31.out; omega); intro v546 w37 ho hb hg hat; rw [← Ny545.out] at ho; have n0_ := Aside0.mk (Kd.R_after (ok := (fun _ => True)) (by (with_reducible repeat (first | apply Kd.R_alloc | apply Kd.R_drewN | apply Kd.R_drew)); exact HO_3.out) hg hat); have n1_ := Aside0.mk (hb); have n2_ := Aside0.mk ((show Kd.C Kd.string w37 Ao5 y537.length y537 from by rw [Ny537.out]; exact Kd.C_take (m := (x5_3 : Int).toNat) ((Kd.R_reads' (Kd.R_after (ok := (fun _ => True)) (by (with_reducible repeat (first | apply Kd.R_alloc | apply Kd.R_drewN | apply Kd.R_drew)); exact HO_3.out) hg hat)).2.2) KL35.out)); have n3_ := Aside0.mk (ho); clear HO_3; clear HB; clear HR540; clear HO543; have HO_3 := n0_; have HB := n1_; have HR540 := n2_; have HO547 := n3_; clear n0_ n1_ n2_ n3_; clear ho hb hg hat; have q38 : (x5_3 : Int) ≤ ((x3_1.length : Int) : Int) := of_decide_eq_true (by first | (with_reducible assumption) | assumption); obtain ⟨i038, hi038, _, hsz38, _⟩ := info_parts info9; have hroom38 : x3_1.length ≤ co5 := (Kd.R_reads' HO_3.out).2.1; have hC38 : Kd.C Kd.string _ Ao5 x3_1.length x3_1 := (Kd.R_reads' HO_3.out).2.2; have q038 : (0 : Int) ≤ (x5_3 : Int) := of_decide_eq_true (by first | (with_reducible assumption) | assumption); have hcut38 := cut_from (P := Try.prog) 22 9 .i64 Try.underlying22 hi038 1 hsz38 Ao5 x3_1.length co5 x5_3 q038 q38; have hr38 := Kd.C_drop (m := (x5_3 : Int).toNat) (c := co5) hC38 (by omega) hroom38; obtain ⟨A38, hA38⟩ : ∃ A1, A1 = (if co5 = (x5_3 : Int).toNat then Ao5 else (Ao5 : Option Addr).map (·.add ((x5_3 : Int).toNat * 1))) := ⟨_, rfl⟩; obtain ⟨c38, hc38⟩ : ∃ c1, c1 = co5 - (x5_3 : Int).toNat := ⟨_, rfl⟩; have hy38 : y548.length = x3_1.length - (x5_3 : Int).toNat := (by rw [Ny548.out, List.length_drop] <;> omega); rw [show (x3_1).drop (x5_3 : Int).toNat = y548 from Ny548.out.symm] at hr38; replace hr38 : Kd.C Kd.string _ A38 y548.length y548 := (by rw [hA38]; exact hr38); rw [← hy38, ← hA38, ← hc38] at hcut38; have HR551 := Aside0.mk hr38; have HC551 := Aside0.mk (show y548.length ≤ c38 from by rw [hy38, hc38]; exact Nat.sub_le_sub_right hroom38 _); clear hr38 hC38 hroom38 hi038 hsz38 hc38; have KY38 := Aside0.mk hy38; have KA38 := Aside0.mk hA38; clear hy38 hA38; have KL38 := Aside0.mk (show (x5_3 : Int).toNat ≤ x3_1.length from by omega); replace q38 := eq_true q38) | ((with_reducible refine gate_builtin (b := .append) (xs := #[.tmp 61, .tmp 64]) rfl ?_); at_builtin; refine Kd.R_append_rows Kd.string (w0 := w) w.heap.size rfl (.tmp 61) (.tmp 64) 22 9 (.string ⟨#[]⟩) 16 rfl Try.underlying22 info9 rfl (by decide) (by omega) v546 y545 y548 _ _ _ (fun k_ => some k_ ≠ (.slice Ao5 x3_1.length co5 : Value).ownBlock) (fun _ => False) rfl rfl ?aO ?aR (fun _ _ h => h) (fun _ h => h.elim) ?aF ?aB ?aS ?aL ?_; (case aR => repeat (first | exact (by repeat (first | (with_reducible exact HR551.out) | (with_reducible refine Kd.C_alloc ?_ _) | (with_reducible refine Kd.C_drewN ?_ _) | (with_reducible refine Kd.C_drew ?_) | exact HR551.out)) | (with_reducible refine Kd.C_alloc ?_ _) | (with_reducible refine Kd.C_drewN ?_ _) | (with_reducible refine Kd.C_drew ?_))); (case aB => exact (by repeat (first | (with_reducible first | exact HB.out | apply below_alloc | apply pw_below_drewN | apply below_drew1) | exact HB.out))); (case aF => exact (fun k_ hk => Kd.fresh' (Kd.R_lt (by (with_reducible repeat (first | apply Kd.R_alloc | apply Kd.R_drewN | apply Kd.R_drew)); exact HO_3.out)) k_ hk)); (case aO => exact (by (with_reducible repeat (first | apply Kd.R_alloc | apply Kd.R_drewN | apply Kd.R_drew)); exact HO547.out)); (case aS => exact (below_size (by repeat (first | (with_reducible first | exact HB.out | apply below_alloc | apply pw_below_drewN | apply below_drew1) | exact HB.out)))); (case aL => have := LMc34.out; omega); intro v553 w39 ho hb hg hat; rw [← Ny552.out] at ho; have n0_ := Aside0.mk (Kd.R_after (ok := (fun _ => True)) (by (with_reducible repeat (first | apply Kd.R_alloc | apply Kd.R_drewN | apply Kd.R_drew)); exact HO_3.out) hg hat); have n1_ := Aside0.mk (hb); have n2_ := Aside0.mk ((show Kd.C Kd.string w39 Ao5 y537.length y537 from by rw [Ny537.out]; exact Kd.C_take (m := (x5_3 : Int).toNat) ((Kd.R_reads' (Kd.R_after (ok := (fun _ => True)) (by (with_reducible repeat (first | apply Kd.R_alloc | apply Kd.R_drewN | apply Kd.R_drew)); exact HO_3.out) hg hat)).2.2) KL35.out)); have n3_ := Aside0.mk ((show Kd.C Kd.string w39 A38 y548.length y548 from by rw [Ny548.out, KA38.out]; exact Kd.C_drop (m := (x5_3 : Int).toNat) (c := co5) ((Kd.R_reads' (Kd.R_after (ok := (fun _ => True)) (by (with_reducible repeat (first | apply Kd.R_alloc | apply Kd.R_drewN | apply Kd.R_drew)); exact HO_3.out) hg hat)).2.2) KL38.out ((Kd.R_reads' (Kd.R_after (ok := (fun _ => True)) (by (with_reducible repeat (first | apply Kd.R_alloc | apply Kd.R_drewN | apply Kd.R_drew)); exact HO_3.out) hg hat)).2.1))); have n4_ := Aside0.mk (ho); clear HO_3; clear HB; clear HR540; clear HR551; clear HO547; have HO_3 := n0_; have HB := n1_; have HR540 := n2_; have HR551 := n3_; have HO554 := n4_; clear n0_ n1_ n2_ n3_ n4_; clear ho hb hg hat))
                                repeat (go_quiet (first | ((with_reducible refine gate_builtin (b := .append) (xs := #[.tmp 49, .tmp 52]) rfl ?_); at_builtin; refine Kd.R_append_rows Kd.string (w0 := w) w.heap.size rfl (.tmp 49) (.tmp 52) 22 9 (.string ⟨#[]⟩) 16 rfl Try.underlying22 info9 rfl (by decide) (by omega) (.slice none 0 0) ([] : List ByteArray) y537 _ _ _ (fun k_ => some k_ ≠ (.slice Ao5 x3_1.length co5 : Value).ownBlock) (fun _ => False) rfl rfl ?aO ?aR (fun _ _ h => h) (fun _ h => h.elim) ?aF ?aB ?aS ?aL ?_; (case aR => repeat (first | exact (by repeat (first | (with_reducible exact HR540.out) | (with_reducible refine Kd.C_alloc ?_ _) | (with_reducible refine Kd.C_drewN ?_ _) | (with_reducible refine Kd.C_drew ?_) | exact HR540.out)) | (with_reducible refine Kd.C_alloc ?_ _) | (with_reducible refine Kd.C_drewN ?_ _) | (with_reducible refine Kd.C_drew ?_))); (case aB => exact (by repeat (first | (with_reducible first | exact HB.out | apply below_alloc | apply pw_below_drewN | apply below_drew1) | exact HB.out))); (case aF => exact (fun k_ hk => Kd.fresh' (Kd.R_lt (by (with_reducible repeat (first | apply Kd.R_alloc | apply Kd.R_drewN | apply Kd.R_drew)); exact HO_3.out)) k_ hk)); (case aO => exact ((Kd.R_nil _ _ _ _ (fun k_ => some k_ ≠ (.slice Ao5 x3_1.length co5 : Value).ownBlock)))); (case aS => exact (below_size (by repeat (first | (with_reducible first | exact HB.out | apply below_alloc | apply pw_below_drewN | apply below_drew1) | exact HB.out)))); (case aL => have := LMc28.out; omega); intro v542 w36 ho hb hg hat; rw [← Ny541.out] at ho; have n0_ := Aside0.mk (Kd.R_after (Kd.R_apart_nil (by (with_reducible repeat (first | apply Kd.R_alloc | apply Kd.R_drewN | apply Kd.R_drew)); exact HO_3.out)) hg hat); have n1_ := Aside0.mk (hb); have n2_ := Aside0.mk ((show Kd.C Kd.string w36 Ao5 y537.length y537 from by rw [Ny537.out]; exact Kd.C_take (m := (x5_3 : Int).toNat) ((Kd.R_reads' (Kd.R_after (Kd.R_apart_nil (by (with_reducible repeat (first | apply Kd.R_alloc | apply Kd.R_drewN | apply Kd.R_drew)); exact HO_3.out)) hg hat)).2.2) KL35.out)); have n3_ := Aside0.mk (ho); clear HO_3; clear HB; clear HR540; have HO_3 := n0_; have HB := n1_; have HR540 := n2_; have HO543 := n3_; clear n0_ n1_ n2_ n3_; clear ho hb hg hat; have p544 : 0 ≤ (x4_1 : Int) := of_decide_eq_true (by first | (with_reducible assumption) | assumption); have q544 : x4_1 < (l0.length : Int) := of_decide_eq_true (by first | (with_reducible assumption) | assumption); obtain ⟨ad544, e544, hx544_0⟩ := Kd.at_string HR0.out x4_1 p544 q544; cases e544; replace hx544_0 := (HB.out.cell (World.block_lt_of_cell? w _ hx544_0)).trans hx544_0; replace p544 := eq_true p544; replace q544 := eq_true q544) | ((with_reducible refine gate_builtin (b := .append) (xs := #[.tmp 54, .tmp 59]) rfl ?_); at_builtin; refine Kd.R_append Kd.string (w0 := w) w.heap.size rfl (.tmp 54) (.tmp 59) 22 9 (.string ⟨#[]⟩) 16 rfl Try.underlying22 info9 rfl (by decide) (by omega) v542 y541 (rdOf ByteArray.empty l0 x4_1) [.string (rdOf ByteArray.empty l0 x4_1)] (fun k_ => some k_ ≠ (.slice Ao5 x3_1.length co5 : Value).ownBlock) (fun _ => False) rfl rfl ?aP (fun _ hk => hk.elim) ?aF ?aO ?aB ?aS ?aL ?_; (case aP => exact rfl); (case aB => exact (by repeat (first | (with_reducible first | exact HB.out | apply below_alloc | apply pw_below_drewN | apply below_drew1) | exact HB.out))); (case aF => exact (fun k_ hk => Kd.fresh' (Kd.R_lt (by (with_reducible repeat (first | apply Kd.R_alloc | apply Kd.R_drewN | apply Kd.R_drew)); exact HO_3.out)) k_ hk)); (case aO => exact (by (with_reducible repeat (first | apply Kd.R_alloc | apply Kd.R_drewN | apply Kd.R_drew)); exact HO543.out)); (case aS => exact (below_size (by repeat (first | (with_reducible first | exact HB.out | apply below_alloc | apply pw_below_drewN | apply below_drew1) | exact HB.out)))); (case aL => have := LMc31.out; omega); intro v546 w37 ho hb hg hat; rw [← Ny545.out] at ho; have n0_ := Aside0.mk (Kd.R_after (ok := (fun _ => True)) (by (with_reducible repeat (first | apply Kd.R_alloc | apply Kd.R_drewN | apply Kd.R_drew)); exact HO_3.out) hg hat); have n1_ := Aside0.mk (hb); have n2_ := Aside0.mk ((show Kd.C Kd.string w37 Ao5 y537.length y537 from by rw [Ny537.out]; exact Kd.C_take (m := (x5_3 : Int).toNat) ((Kd.R_reads' (Kd.R_after (ok := (fun _ => True)) (by (with_reducible repeat (first | apply Kd.R_alloc | apply Kd.R_drewN | apply Kd.R_drew)); exact HO_3.out) hg hat)).2.2) KL35.out)); have n3_ := Aside0.mk (ho); clear HO_3; clear HB; clear HR540; clear HO543; have HO_3 := n0_; have HB := n1_; have HR540 := n2_; have HO547 := n3_; clear n0_ n1_ n2_ n3_; clear ho hb hg hat; have q38 : (x5_3 : Int) ≤ ((x3_1.length : Int) : Int) := of_decide_eq_true (by first | (with_reducible assumption) | assumption); obtain ⟨i038, hi038, _, hsz38, _⟩ := info_parts info9; have hroom38 : x3_1.length ≤ co5 := (Kd.R_reads' HO_3.out).2.1; have hC38 : Kd.C Kd.string _ Ao5 x3_1.length x3_1 := (Kd.R_reads' HO_3.out).2.2; have q038 : (0 : Int) ≤ (x5_3 : Int) := of_decide_eq_true (by first | (with_reducible assumption) | assumption); have hcut38 := cut_from (P := Try.prog) 22 9 .i64 Try.underlying22 hi038 1 hsz38 Ao5 x3_1.length co5 x5_3 q038 q38; have hr38 := Kd.C_drop (m := (x5_3 : Int).toNat) (c := co5) hC38 (by omega) hroom38; obtain ⟨A38, hA38⟩ : ∃ A1, A1 = (if co5 = (x5_3 : Int).toNat then Ao5 else (Ao5 : Option Addr).map (·.add ((x5_3 : Int).toNat * 1))) := ⟨_, rfl⟩; obtain ⟨c38, hc38⟩ : ∃ c1, c1 = co5 - (x5_3 : Int).toNat := ⟨_, rfl⟩; have hy38 : y548.length = x3_1.length - (x5_3 : Int).toNat := (by rw [Ny548.out, List.length_drop] <;> omega); rw [show (x3_1).drop (x5_3 : Int).toNat = y548 from Ny548.out.symm] at hr38; replace hr38 : Kd.C Kd.string _ A38 y548.length y548 := (by rw [hA38]; exact hr38); rw [← hy38, ← hA38, ← hc38] at hcut38; have HR551 := Aside0.mk hr38; have HC551 := Aside0.mk (show y548.length ≤ c38 from by rw [hy38, hc38]; exact Nat.sub_le_sub_right hroom38 _); clear hr38 hC38 hroom38 hi038 hsz38 hc38; have KY38 := Aside0.mk hy38; have KA38 := Aside0.mk hA38; clear hy38 hA38; have KL38 := Aside0.mk (show (x5_3 : Int).toNat ≤ x3_1.length from by omega); replace q38 := eq_true q38) | ((with_reducible refine gate_builtin (b := .append) (xs := #[.tmp 61, .tmp 64]) rfl ?_); at_builtin; refine Kd.R_append_rows Kd.string (w0 := w) w.heap.size rfl (.tmp 61) (.tmp 64) 22 9 (.string ⟨#[]⟩) 16 rfl Try.underlying22 info9 rfl (by decide) (by omega) v546 y545 y548 _ _ _ (fun k_ => some k_ ≠ (.slice Ao5 x3_1.length co5 : Value).ownBlock) (fun _ => False) rfl rfl ?aO ?aR (fun _ _ h => h) (fun _ h => h.elim) ?aF ?aB ?aS ?aL ?_; (case aR => repeat (first | exact (by repeat (first | (with_reducible exact HR551.out) | (with_reducible refine Kd.C_alloc ?_ _) | (with_reducible refine Kd.C_drewN ?_ _) | (with_reducible refine Kd.C_drew ?_) | exact HR551.out)) | (with_reducible refine Kd.C_alloc ?_ _) | (with_reducible refine Kd.C_drewN ?_ _) | (with_reducible refine Kd.C_drew ?_))); (case aB => exact (by repeat (first | (with_reducible first | exact HB.out | apply below_alloc | apply pw_below_drewN | apply below_drew1) | exact HB.out))); (case aF => exact (fun k_ hk => Kd.fresh' (Kd.R_lt (by (with_reducible repeat (first | apply Kd.R_alloc | apply Kd.R_drewN | apply Kd.R_drew)); exact HO_3.out)) k_ hk)); (case aO => exact (by (with_reducible repeat (first | apply Kd.R_alloc | apply Kd.R_drewN | apply Kd.R_drew)); exact HO547.out)); (case aS => exact (below_size (by repeat (first | (with_reducible first | exact HB.out | apply below_alloc | apply pw_below_drewN | apply below_drew1) | exact HB.out)))); (case aL => have := LMc34.out; omega); intro v553 w39 ho hb hg hat; rw [← Ny552.out] at ho; have n0_ := Aside0.mk (Kd.R_after (ok := (fun _ => True)) (by (with_reducible repeat (first | apply Kd.R_alloc | apply Kd.R_drewN | apply Kd.R_drew)); exact HO_3.out) hg hat); have n1_ := Aside0.mk (hb); have n2_ := Aside0.mk ((show Kd.C Kd.string w39 Ao5 y537.length y537 from by rw [Ny537.out]; exact Kd.C_take (m := (x5_3 : Int).toNat) ((Kd.R_reads' (Kd.R_after (ok := (fun _ => True)) (by (with_reducible repeat (first | apply Kd.R_alloc | apply Kd.R_drewN | apply Kd.R_drew)); exact HO_3.out) hg hat)).2.2) KL35.out)); have n3_ := Aside0.mk ((show Kd.C Kd.string w39 A38 y548.length y548 from by rw [Ny548.out, KA38.out]; exact Kd.C_drop (m := (x5_3 : Int).toNat) (c := co5) ((Kd.R_reads' (Kd.R_after (ok := (fun _ => True)) (by (with_reducible repeat (first | apply Kd.R_alloc | apply Kd.R_drewN | apply Kd.R_drew)); exact HO_3.out) hg hat)).2.2) KL38.out ((Kd.R_reads' (Kd.R_after (ok := (fun _ => True)) (by (with_reducible repeat (first | apply Kd.R_alloc | apply Kd.R_drewN | apply Kd.R_drew)); exact HO_3.out) hg hat)).2.1))); have n4_ := Aside0.mk (ho); clear HO_3; clear HB; clear HR540; clear HR551; clear HO547; have HO_3 := n0_; have HB := n1_; have HR540 := n2_; have HR551 := n3_; have HO554 := n4_; clear n0_ n1_ n2_ n3_ n4_; clear ho hb hg hat)); try go_wp2_with (first | ((with_reducible refine gate_builtin (b := .append) (xs := #[.tmp 49, .tmp 52]) rfl ?_); at_builtin; refine Kd.R_append_rows Kd.string (w0 := w) w.heap.size rfl (.tmp 49) (.tmp 52) 22 9 (.string ⟨#[]⟩) 16 rfl Try.underlying22 info9 rfl (by decide) (by omega) (.slice none 0 0) ([] : List ByteArray) y537 _ _ _ (fun k_ => some k_ ≠ (.slice Ao5 x3_1.length co5 : Value).ownBlock) (fun _ => False) rfl rfl ?aO ?aR (fun _ _ h => h) (fun _ h => h.elim) ?aF ?aB ?aS ?aL ?_; (case aR => repeat (first | exact (by repeat (first | (with_reducible exact HR540.out) | (with_reducible refine Kd.C_alloc ?_ _) | (with_reducible refine Kd.C_drewN ?_ _) | (with_reducible refine Kd.C_drew ?_) | exact HR540.out)) | (with_reducible refine Kd.C_alloc ?_ _) | (with_reducible refine Kd.C_drewN ?_ _) | (with_reducible refine Kd.C_drew ?_))); (case aB => exact (by repeat (first | (with_reducible first | exact HB.out | apply below_alloc | apply pw_below_drewN | apply below_drew1) | exact HB.out))); (case aF => exact (fun k_ hk => Kd.fresh' (Kd.R_lt (by (with_reducible repeat (first | apply Kd.R_alloc | apply Kd.R_drewN | apply Kd.R_drew)); exact HO_3.out)) k_ hk)); (case aO => exact ((Kd.R_nil _ _ _ _ (fun k_ => some k_ ≠ (.slice Ao5 x3_1.length co5 : Value).ownBlock)))); (case aS => exact (below_size (by repeat (first | (with_reducible first | exact HB.out | apply below_alloc | apply pw_below_drewN | apply below_drew1) | exact HB.out)))); (case aL => have := LMc28.out; omega); intro v542 w36 ho hb hg hat; rw [← Ny541.out] at ho; have n0_ := Aside0.mk (Kd.R_after (Kd.R_apart_nil (by (with_reducible repeat (first | apply Kd.R_alloc | apply Kd.R_drewN | apply Kd.R_drew)); exact HO_3.out)) hg hat); have n1_ := Aside0.mk (hb); have n2_ := Aside0.mk ((show Kd.C Kd.string w36 Ao5 y537.length y537 from by rw [Ny537.out]; exact Kd.C_take (m := (x5_3 : Int).toNat) ((Kd.R_reads' (Kd.R_after (Kd.R_apart_nil (by (with_reducible repeat (first | apply Kd.R_alloc | apply Kd.R_drewN | apply Kd.R_drew)); exact HO_3.out)) hg hat)).2.2) KL35.out)); have n3_ := Aside0.mk (ho); clear HO_3; clear HB; clear HR540; have HO_3 := n0_; have HB := n1_; have HR540 := n2_; have HO543 := n3_; clear n0_ n1_ n2_ n3_; clear ho hb hg hat; have p544 : 0 ≤ (x4_1 : Int) := of_decide_eq_true (by first | (with_reducible assumption) | assumption); have q544 : x4_1 < (l0.length : Int) := of_decide_eq_true (by first | (with_reducible assumption) | assumption); obtain ⟨ad544, e544, hx544_0⟩ := Kd.at_string HR0.out x4_1 p544 q544; cases e544; replace hx544_0 := (HB.out.cell (World.block_lt_of_cell? w _ hx544_0)).trans hx544_0; replace p544 := eq_true p544; replace q544 := eq_true q544) | ((with_reducible refine gate_builtin (b := .append) (xs := #[.tmp 54, .tmp 59]) rfl ?_); at_builtin; refine Kd.R_append Kd.string (w0 := w) w.heap.size rfl (.tmp 54) (.tmp 59) 22 9 (.string ⟨#[]⟩) 16 rfl Try.underlying22 info9 rfl (by decide) (by omega) v542 y541 (rdOf ByteArray.empty l0 x4_1) [.string (rdOf ByteArray.empty l0 x4_1)] (fun k_ => some k_ ≠ (.slice Ao5 x3_1.length co5 : Value).ownBlock) (fun _ => False) rfl rfl ?aP (fun _ hk => hk.elim) ?aF ?aO ?aB ?aS ?aL ?_; (case aP => exact rfl); (case aB => exact (by repeat (first | (with_reducible first | exact HB.out | apply below_alloc | apply pw_below_drewN | apply below_drew1) | exact HB.out))); (case aF => exact (fun k_ hk => Kd.fresh' (Kd.R_lt (by (with_reducible repeat (first | apply Kd.R_alloc | apply Kd.R_drewN | apply Kd.R_drew)); exact HO_3.out)) k_ hk)); (case aO => exact (by (with_reducible repeat (first | apply Kd.R_alloc | apply Kd.R_drewN | apply Kd.R_drew)); exact HO543.out)); (case aS => exact (below_size (by repeat (first | (with_reducible first | exact HB.out | apply below_alloc | apply pw_below_drewN | apply below_drew1) | exact HB.out)))); (case aL => have := LMc31.out; omega); intro v546 w37 ho hb hg hat; rw [← Ny545.out] at ho; have n0_ := Aside0.mk (Kd.R_after (ok := (fun _ => True)) (by (with_reducible repeat (first | apply Kd.R_alloc | apply Kd.R_drewN | apply Kd.R_drew)); exact HO_3.out) hg hat); have n1_ := Aside0.mk (hb); have n2_ := Aside0.mk ((show Kd.C Kd.string w37 Ao5 y537.length y537 from by rw [Ny537.out]; exact Kd.C_take (m := (x5_3 : Int).toNat) ((Kd.R_reads' (Kd.R_after (ok := (fun _ => True)) (by (with_reducible repeat (first | apply Kd.R_alloc | apply Kd.R_drewN | apply Kd.R_drew)); exact HO_3.out) hg hat)).2.2) KL35.out)); have n3_ := Aside0.mk (ho); clear HO_3; clear HB; clear HR540; clear HO543; have HO_3 := n0_; have HB := n1_; have HR540 := n2_; have HO547 := n3_; clear n0_ n1_ n2_ n3_; clear ho hb hg hat; have q38 : (x5_3 : Int) ≤ ((x3_1.length : Int) : Int) := of_decide_eq_true (by first | (with_reducible assumption) | assumption); obtain ⟨i038, hi038, _, hsz38, _⟩ := info_parts info9; have hroom38 : x3_1.length ≤ co5 := (Kd.R_reads' HO_3.out).2.1; have hC38 : Kd.C Kd.string _ Ao5 x3_1.length x3_1 := (Kd.R_reads' HO_3.out).2.2; have q038 : (0 : Int) ≤ (x5_3 : Int) := of_decide_eq_true (by first | (with_reducible assumption) | assumption); have hcut38 := cut_from (P := Try.prog) 22 9 .i64 Try.underlying22 hi038 1 hsz38 Ao5 x3_1.length co5 x5_3 q038 q38; have hr38 := Kd.C_drop (m := (x5_3 : Int).toNat) (c := co5) hC38 (by omega) hroom38; obtain ⟨A38, hA38⟩ : ∃ A1, A1 = (if co5 = (x5_3 : Int).toNat then Ao5 else (Ao5 : Option Addr).map (·.add ((x5_3 : Int).toNat * 1))) := ⟨_, rfl⟩; obtain ⟨c38, hc38⟩ : ∃ c1, c1 = co5 - (x5_3 : Int).toNat := ⟨_, rfl⟩; have hy38 : y548.length = x3_1.length - (x5_3 : Int).toNat := (by rw [Ny548.out, List.length_drop] <;> omega); rw [show (x3_1).drop (x5_3 : Int).toNat = y548 from Ny548.out.symm] at hr38; replace hr38 : Kd.C Kd.string _ A38 y548.length y548 := (by rw [hA38]; exact hr38); rw [← hy38, ← hA38, ← hc38] at hcut38; have HR551 := Aside0.mk hr38; have HC551 := Aside0.mk (show y548.length ≤ c38 from by rw [hy38, hc38]; exact Nat.sub_le_sub_right hroom38 _); clear hr38 hC38 hroom38 hi038 hsz38 hc38; have KY38 := Aside0.mk hy38; have KA38 := Aside0.mk hA38; clear hy38 hA38; have KL38 := Aside0.mk (show (x5_3 : Int).toNat ≤ x3_1.length from by omega); replace q38 := eq_true q38) | ((with_reducible refine gate_builtin (b := .append) (xs := #[.tmp 61, .tmp 64]) rfl ?_); at_builtin; refine Kd.R_append_rows Kd.string (w0 := w) w.heap.size rfl (.tmp 61) (.tmp 64) 22 9 (.string ⟨#[]⟩) 16 rfl Try.underlying22 info9 rfl (by decide) (by omega) v546 y545 y548 _ _ _ (fun k_ => some k_ ≠ (.slice Ao5 x3_1.length co5 : Value).ownBlock) (fun _ => False) rfl rfl ?aO ?aR (fun _ _ h => h) (fun _ h => h.elim) ?aF ?aB ?aS ?aL ?_; (case aR => repeat (first | exact (by repeat (first | (with_reducible exact HR551.out) | (with_reducible refine Kd.C_alloc ?_ _) | (with_reducible refine Kd.C_drewN ?_ _) | (with_reducible refine Kd.C_drew ?_) | exact HR551.out)) | (with_reducible refine Kd.C_alloc ?_ _) | (with_reducible refine Kd.C_drewN ?_ _) | (with_reducible refine Kd.C_drew ?_))); (case aB => exact (by repeat (first | (with_reducible first | exact HB.out | apply below_alloc | apply pw_below_drewN | apply below_drew1) | exact HB.out))); (case aF => exact (fun k_ hk => Kd.fresh' (Kd.R_lt (by (with_reducible repeat (first | apply Kd.R_alloc | apply Kd.R_drewN | apply Kd.R_drew)); exact HO_3.out)) k_ hk)); (case aO => exact (by (with_reducible repeat (first | apply Kd.R_alloc | apply Kd.R_drewN | apply Kd.R_drew)); exact HO547.out)); (case aS => exact (below_size (by repeat (first | (with_reducible first | exact HB.out | apply below_alloc | apply pw_below_drewN | apply below_drew1) | exact HB.out)))); (case aL => have := LMc34.out; omega); intro v553 w39 ho hb hg hat; rw [← Ny552.out] at ho; have n0_ := Aside0.mk (Kd.R_after (ok := (fun _ => True)) (by (with_reducible repeat (first | apply Kd.R_alloc | apply Kd.R_drewN | apply Kd.R_drew)); exact HO_3.out) hg hat); have n1_ := Aside0.mk (hb); have n2_ := Aside0.mk ((show Kd.C Kd.string w39 Ao5 y537.length y537 from by rw [Ny537.out]; exact Kd.C_take (m := (x5_3 : Int).toNat) ((Kd.R_reads' (Kd.R_after (ok := (fun _ => True)) (by (with_reducible repeat (first | apply Kd.R_alloc | apply Kd.R_drewN | apply Kd.R_drew)); exact HO_3.out) hg hat)).2.2) KL35.out)); have n3_ := Aside0.mk ((show Kd.C Kd.string w39 A38 y548.length y548 from by rw [Ny548.out, KA38.out]; exact Kd.C_drop (m := (x5_3 : Int).toNat) (c := co5) ((Kd.R_reads' (Kd.R_after (ok := (fun _ => True)) (by (with_reducible repeat (first | apply Kd.R_alloc | apply Kd.R_drewN | apply Kd.R_drew)); exact HO_3.out) hg hat)).2.2) KL38.out ((Kd.R_reads' (Kd.R_after (ok := (fun _ => True)) (by (with_reducible repeat (first | apply Kd.R_alloc | apply Kd.R_drewN | apply Kd.R_drew)); exact HO_3.out) hg hat)).2.1))); have n4_ := Aside0.mk (ho); clear HO_3; clear HB; clear HR540; clear HR551; clear HO547; have HO_3 := n0_; have HB := n1_; have HR540 := n2_; have HR551 := n3_; have HO554 := n4_; clear n0_ n1_ n2_ n3_ n4_; clear ho hb hg hat)))
                                go_roundg k3
                                case measure => have := HK1.out; have := HJ1.out; have := HK3.out; omega
                                case rel => exact ⟨(y552), (wrap64 (x4_1 + 1)), (by first | rfl | (simp; done) | (simp [*]; done)), H', ⟨by have := HK1.out; have := HJ1.out; have := HK3.out; omega⟩, ⟨by (with_reducible repeat (first | apply Kd.R_alloc | apply Kd.R_drewN | apply Kd.R_drew)); exact Kd.R_mono HO554.out (fun _ hk => trivial)⟩, ⟨by repeat (first | (with_reducible first | exact HB.out | apply below_alloc | apply pw_below_drewN | apply below_drew1) | exact HB.out)⟩⟩
                              · rw [if_neg c34] at H
                                exact absurd H (by simp)
                            · rw [if_neg c31] at H
                              exact absurd H (by simp)
                          · rw [if_neg c30] at H
                            exact absurd H (by simp)
                        · rw [if_neg c29] at H
                          exact absurd H (by simp)
                      · rw [if_neg c28] at H
                        exact absurd H (by simp)
                    · rw [if_neg c27] at H
                      exact absurd H (by simp)
                  · rw [if_neg c26] at H
                    exact absurd H (by simp)
          · replace c4 := Bool.eq_false_iff.mpr c4
            subst c4
            have H1 : (some x3_1) = some r := by rw [if_neg (show ¬ (false = true) by decide)] at H; exact H
            clear H
            have H := H1
            clear H1
            obtain rfl := Option.some.inj H
            go_wp2
            repeat (go_quiet (fail); try go_wp2)
            go_ret
            exact ⟨_, by first | rfl | (simp [errW_none, errW_some] <;> rfl) | (simp [*, errW_none, errW_some] <;> rfl), by (with_reducible repeat (first | apply Kd.R_alloc | apply Kd.R_drewN | apply Kd.R_drew)); exact HO_3.out, by repeat (first | (with_reducible first | exact HB.out | apply below_alloc | apply pw_below_drewN | apply below_drew1) | exact HB.out)⟩

-- NOT PRINTED: function 5 (rampartlaw04_KeysSets)

end Go.Proofs.Ytjahalkgjnnapaa.G
