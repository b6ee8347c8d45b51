-- laid by given.py of this session: the kit's print of the translation, some functions' contracts being this session's own (wip/given). Not trusted: Lean checks it.
import Derived.Test.YtjahalkgjnnapaaKb
namespace Go.Proofs.Ytjahalkgjnnapaa.G
open Go.RowKit Go.Proofs.YtjahalkgjnnapaaW.PrintWords Go.Proofs.YtjahalkgjnnapaaW.PrintLast Go.Proofs.YtjahalkgjnnapaaW.PrintMore
attribute [local go_sem] max2_int min2_int max_two min_two max_three min_three max_four min_four   -- for this text's walks alone
set_option linter.unusedVariables false
set_option linter.unusedSimpArgs false

/-! ### rampartlaw04_KeysOrder: function 6 -/
mutual
def rampartlaw04_KeysOrder.l0 : Nat → List (S41) → Int → List (S41) → Int → Int → Option (Bool)
  | 0, _, _, _, _, _ => none
  | k + 1, x0, x1, x6, x7, x8 => if x8 < x7 then (if (IntKind.u64.wrap (x7)) = 0 then (none) else (if x7 = 0 then (none) else (if 0 ≤ (Int.tmod (wrap64 ((wrap64 ((wrap64 (x7 - 1)) - x8)) + (wrap64 (Int.tmod (IntKind.u64.wrap (x1)) (IntKind.u64.wrap (x7)))))) x7) then (if (Int.tmod (wrap64 ((wrap64 ((wrap64 (x7 - 1)) - x8)) + (wrap64 (Int.tmod (IntKind.u64.wrap (x1)) (IntKind.u64.wrap (x7)))))) x7) < (x0.length : Int) then ((some (([(⟨(rd_T41 x0 (Int.tmod (wrap64 ((wrap64 ((wrap64 (x7 - 1)) - x8)) + (wrap64 (Int.tmod (IntKind.u64.wrap (x1)) (IntKind.u64.wrap (x7)))))) x7)).f0, (rd_T41 x0 (Int.tmod (wrap64 ((wrap64 ((wrap64 (x7 - 1)) - x8)) + (wrap64 (Int.tmod (IntKind.u64.wrap (x1)) (IntKind.u64.wrap (x7)))))) x7)).f1⟩ : S41)] : List (S41)) : List (S41))).bind fun y672 => (if x6.length + y672.length < 4398046511104 then (rampartlaw04_KeysOrder.l0 k x0 x1 (x6 ++ y672) x7 (wrap64 (x8 + 1))) else (none))) else (none)) else (none)))) else ((rampartlaw04_ownPairs.f x0).bind fun t678 => ((keys_Norm.f k t678).bind fun bt681 => ((rampartlaw04_ownPairs.f x6).bind fun t685 => ((keys_Norm.f k t685).bind fun bt688 => ((rampartlaw04_ownPairs.f x0).bind fun t692 => ((keys_Names.f k t692).bind fun t695 => ((keys_Sorted.f k t695).bind fun bt698 => (if bt681.2 = bt688.2 then ((rampartlaw04_samePairs.f k bt681.1 bt688.1).bind fun t702 => (rampartlaw04_KeysOrder.j1 k x0 x1 x7 bt681.1 bt681.2 bt698.1 bt698.2 (!t702))) else (rampartlaw04_KeysOrder.j1 k x0 x1 x7 bt681.1 bt681.2 bt698.1 bt698.2 true)))))))))
def rampartlaw04_KeysOrder.j1 : Nat → List (S41) → Int → Int → List (S41) → Int → List ByteArray → Int → Bool → Option (Bool)
  | 0, _, _, _, _, _, _, _, _ => none
  | k + 1, x0, x1, x7, x9, x10, x13, x14, x81 => if x81 = true then (some false) else (if x10 = 0 then ((rampartlaw04_own.f x13).bind fun t707 => ((keys_Sorted.f k t707).bind fun bt710 => (if x14 = 0 then (if bt710.2 = 0 then ((rampartlaw04_same.f k x13 bt710.1).bind fun t714 => (if t714 = true then ((rampartlaw04_ownPairs.f x9).bind fun t715 => ((keys_Names.f k t715).bind fun t718 => ((rampartlaw04_same.f k x13 t718).bind fun t721 => (if t721 = true then ((rampartlaw04_own.f x13).bind fun t722 => ((keys_Valid.f k t722).bind fun t725 => (if t725 = true then ((rampartlaw04_own.f x13).bind fun t726 => ((keys_Rising.f k t726).bind fun t729 => (if t729 = true then (if (x9.length : Int) = x7 then (rampartlaw04_KeysOrder.j2 k x0 x1 x7 ((x13.length : Int) != x7)) else (rampartlaw04_KeysOrder.j2 k x0 x1 x7 true)) else (rampartlaw04_KeysOrder.j2 k x0 x1 x7 true)))) else (rampartlaw04_KeysOrder.j2 k x0 x1 x7 true)))) else (rampartlaw04_KeysOrder.j2 k x0 x1 x7 true))))) else (rampartlaw04_KeysOrder.j2 k x0 x1 x7 true))) else (rampartlaw04_KeysOrder.j2 k x0 x1 x7 true)) else (rampartlaw04_KeysOrder.j2 k x0 x1 x7 true)))) else (if x10 = 40 then (if (x9.length : Int) = 0 then ((rampartlaw04_ownPairs.f x0).bind fun t703 => ((keys_ValidPairs.f k t703).bind fun t706 => (some (!t706)))) else (some false)) else (some false)))
def rampartlaw04_KeysOrder.j2 : Nat → List (S41) → Int → Int → Bool → Option (Bool)
  | 0, _, _, _, _ => none
  | k + 1, x0, x1, x7, x146 => if x146 = true then (some false) else ((rampartlaw04_ownPairs.f x0).bind fun t730 => (if (IntKind.u64.wrap (x7)) = 0 then (none) else (if 0 ≤ (wrap64 (Int.tmod (IntKind.u64.wrap (x1)) (IntKind.u64.wrap (x7)))) then (if (wrap64 (Int.tmod (IntKind.u64.wrap (x1)) (IntKind.u64.wrap (x7)))) < (x0.length : Int) then ((some (([(⟨(rd_T41 x0 (wrap64 (Int.tmod (IntKind.u64.wrap (x1)) (IntKind.u64.wrap (x7))))).f0, (rd_T41 x0 (wrap64 (Int.tmod (IntKind.u64.wrap (x1)) (IntKind.u64.wrap (x7))))).f1⟩ : S41)] : List (S41)) : List (S41))).bind fun y734 => (if t730.length + y734.length < 4398046511104 then ((some (t730 ++ y734 : List (S41))).bind fun y737 => ((keys_Norm.f k y737).bind fun bt740 => ((keys_Names.f k y737).bind fun t744 => ((keys_Sorted.f k t744).bind fun bt747 => (if bt740.2 = 40 then (if bt747.2 = 40 then (some ((wrap64 ((bt740.1.length : Int) + (bt747.1.length : Int))) == 0)) else (some false)) else (some false)))))) else (none))) else (none)) else (none))))
end
def rampartlaw04_KeysOrder.f (k : Nat) (l0 : List (S41)) (a1 : Int) : Option (Bool) := (rampartlaw04_alive.f k).bind fun t670 => (if t670 = true then (if (l0.length : Int) > 1200 then (some true) else (rampartlaw04_KeysOrder.l0 k l0 a1 ([] : List (S41)) (l0.length : Int) 0)) else (some false))
theorem rampartlaw04_KeysOrder.mono_l : ∀ k, (∀ y0 y1 y2 y3 y4, LeO (rampartlaw04_KeysOrder.l0 k y0 y1 y2 y3 y4) (rampartlaw04_KeysOrder.l0 (k + 1) y0 y1 y2 y3 y4)) ∧ (∀ y0 y1 y2 y3 y4 y5 y6 y7, LeO (rampartlaw04_KeysOrder.j1 k y0 y1 y2 y3 y4 y5 y6 y7) (rampartlaw04_KeysOrder.j1 (k + 1) y0 y1 y2 y3 y4 y5 y6 y7)) ∧ (∀ y0 y1 y2 y3, LeO (rampartlaw04_KeysOrder.j2 k y0 y1 y2 y3) (rampartlaw04_KeysOrder.j2 (k + 1) y0 y1 y2 y3))
  | 0 => ⟨fun _ _ _ _ _ r h => by simp [rampartlaw04_KeysOrder.l0] at h, fun _ _ _ _ _ _ _ _ r h => by simp [rampartlaw04_KeysOrder.j1] at h, fun _ _ _ _ r h => by simp [rampartlaw04_KeysOrder.j2] at h⟩
  | k + 1 => by
    obtain ⟨ih0, ih1, ih2⟩ := rampartlaw04_KeysOrder.mono_l k
    refine ⟨?_, ?_, ?_⟩
    · intro y0 y1 y2 y3 y4
      unfold rampartlaw04_KeysOrder.l0
      repeat' first
      | (with_reducible exact ih0 _ _ _ _ _)
      | (with_reducible exact ih1 _ _ _ _ _ _ _ _)
      | (with_reducible exact ih2 _ _ _ _)
      | (with_reducible exact keys_Names.mono _ _)
      | (with_reducible exact keys_Norm.mono _ _)
      | (with_reducible exact keys_Rising.mono _ _)
      | (with_reducible exact keys_Sorted.mono _ _)
      | (with_reducible exact keys_Valid.mono _ _)
      | (with_reducible exact keys_ValidPairs.mono _ _)
      | (with_reducible exact rampartlaw04_alive.mono _)
      | (with_reducible exact rampartlaw04_same.mono _ _ _)
      | (with_reducible exact rampartlaw04_samePairs.mono _ _ _)
      | (with_reducible exact LeO.refl _)
      | (with_reducible exact LeO.none _)
      | (with_reducible refine LeO.ite ?_ ?_)
      | (with_reducible refine LeO.bind ?_ (fun _ => ?_))
      | exact ih0 _ _ _ _ _
      | exact ih1 _ _ _ _ _ _ _ _
      | exact ih2 _ _ _ _
      | exact keys_Names.mono _ _
      | exact keys_Norm.mono _ _
      | exact keys_Rising.mono _ _
      | exact keys_Sorted.mono _ _
      | exact keys_Valid.mono _ _
      | exact keys_ValidPairs.mono _ _
      | exact rampartlaw04_alive.mono _
      | exact rampartlaw04_same.mono _ _ _
      | exact rampartlaw04_samePairs.mono _ _ _
      | exact LeO.none _
      | refine LeO.ite ?_ ?_
      | refine LeO.bind ?_ (fun _ => ?_)
    · intro y0 y1 y2 y3 y4 y5 y6 y7
      unfold rampartlaw04_KeysOrder.j1
      repeat' first
      | (with_reducible exact ih0 _ _ _ _ _)
      | (with_reducible exact ih1 _ _ _ _ _ _ _ _)
      | (with_reducible exact ih2 _ _ _ _)
      | (with_reducible exact keys_Names.mono _ _)
      | (with_reducible exact keys_Norm.mono _ _)
      | (with_reducible exact keys_Rising.mono _ _)
      | (with_reducible exact keys_Sorted.mono _ _)
      | (with_reducible exact keys_Valid.mono _ _)
      | (with_reducible exact keys_ValidPairs.mono _ _)
      | (with_reducible exact rampartlaw04_alive.mono _)
      | (with_reducible exact rampartlaw04_same.mono _ _ _)
      | (with_reducible exact rampartlaw04_samePairs.mono _ _ _)
      | (with_reducible exact LeO.refl _)
      | (with_reducible exact LeO.none _)
      | (with_reducible refine LeO.ite ?_ ?_)
      | (with_reducible refine LeO.bind ?_ (fun _ => ?_))
      | exact ih0 _ _ _ _ _
      | exact ih1 _ _ _ _ _ _ _ _
      | exact ih2 _ _ _ _
      | exact keys_Names.mono _ _
      | exact keys_Norm.mono _ _
      | exact keys_Rising.mono _ _
      | exact keys_Sorted.mono _ _
      | exact keys_Valid.mono _ _
      | exact keys_ValidPairs.mono _ _
      | exact rampartlaw04_alive.mono _
      | exact rampartlaw04_same.mono _ _ _
      | exact rampartlaw04_samePairs.mono _ _ _
      | exact LeO.none _
      | refine LeO.ite ?_ ?_
      | refine LeO.bind ?_ (fun _ => ?_)
    · intro y0 y1 y2 y3
      unfold rampartlaw04_KeysOrder.j2
      repeat' first
      | (with_reducible exact ih0 _ _ _ _ _)
      | (with_reducible exact ih1 _ _ _ _ _ _ _ _)
      | (with_reducible exact ih2 _ _ _ _)
      | (with_reducible exact keys_Names.mono _ _)
      | (with_reducible exact keys_Norm.mono _ _)
      | (with_reducible exact keys_Rising.mono _ _)
      | (with_reducible exact keys_Sorted.mono _ _)
      | (with_reducible exact keys_Valid.mono _ _)
      | (with_reducible exact keys_ValidPairs.mono _ _)
      | (with_reducible exact rampartlaw04_alive.mono _)
      | (with_reducible exact rampartlaw04_same.mono _ _ _)
      | (with_reducible exact rampartlaw04_samePairs.mono _ _ _)
      | (with_reducible exact LeO.refl _)
      | (with_reducible exact LeO.none _)
      | (with_reducible refine LeO.ite ?_ ?_)
      | (with_reducible refine LeO.bind ?_ (fun _ => ?_))
      | exact ih0 _ _ _ _ _
      | exact ih1 _ _ _ _ _ _ _ _
      | exact ih2 _ _ _ _
      | exact keys_Names.mono _ _
      | exact keys_Norm.mono _ _
      | exact keys_Rising.mono _ _
      | exact keys_Sorted.mono _ _
      | exact keys_Valid.mono _ _
      | exact keys_ValidPairs.mono _ _
      | exact rampartlaw04_alive.mono _
      | exact rampartlaw04_same.mono _ _ _
      | exact rampartlaw04_samePairs.mono _ _ _
      | exact LeO.none _
      | refine LeO.ite ?_ ?_
      | refine LeO.bind ?_ (fun _ => ?_)
theorem rampartlaw04_KeysOrder.mono : ∀ a0 a1 k, LeO (rampartlaw04_KeysOrder.f k a0 a1) (rampartlaw04_KeysOrder.f (k + 1) a0 a1) := by
  intro a0 a1 k
  obtain ⟨ih0, ih1, ih2⟩ := rampartlaw04_KeysOrder.mono_l k
  unfold rampartlaw04_KeysOrder.f
  repeat' first
      | (with_reducible exact ih0 _ _ _ _ _)
      | (with_reducible exact ih1 _ _ _ _ _ _ _ _)
      | (with_reducible exact ih2 _ _ _ _)
      | (with_reducible exact keys_Names.mono _ _)
      | (with_reducible exact keys_Norm.mono _ _)
      | (with_reducible exact keys_Rising.mono _ _)
      | (with_reducible exact keys_Sorted.mono _ _)
      | (with_reducible exact keys_Valid.mono _ _)
      | (with_reducible exact keys_ValidPairs.mono _ _)
      | (with_reducible exact rampartlaw04_alive.mono _)
      | (with_reducible exact rampartlaw04_same.mono _ _ _)
      | (with_reducible exact rampartlaw04_samePairs.mono _ _ _)
      | (with_reducible exact LeO.refl _)
      | (with_reducible exact LeO.none _)
      | (with_reducible refine LeO.ite ?_ ?_)
      | (with_reducible refine LeO.bind ?_ (fun _ => ?_))
      | exact ih0 _ _ _ _ _
      | exact ih1 _ _ _ _ _ _ _ _
      | exact ih2 _ _ _ _
      | exact keys_Names.mono _ _
      | exact keys_Norm.mono _ _
      | exact keys_Rising.mono _ _
      | exact keys_Sorted.mono _ _
      | exact keys_Valid.mono _ _
      | exact keys_ValidPairs.mono _ _
      | exact rampartlaw04_alive.mono _
      | exact rampartlaw04_same.mono _ _ _
      | exact rampartlaw04_samePairs.mono _ _ _
      | exact LeO.none _
      | refine LeO.ite ?_ ?_
      | refine LeO.bind ?_ (fun _ => ?_)
def rampartlaw04_KeysOrder.T22 : Bool × List (List Nat × List Nat) := (true, [([], []), ([0], [0]), ([], []), ([], []), ([3], [3]), ([], []), ([5], [5]), ([4, 6], [4, 6]), ([7], [7]), ([2, 8], [2, 8]), ([9], [9]), ([10], [10]), ([1, 11, 1], [1, 11]), ([12, 12, 0, 1, 2, 3, 4, 5, 6, 7, 8, 9, 10, 11, 12], [12])])
def rampartlaw04_KeysOrder.B22 : List Nat := [0, 1, 0, 0, 8, 0, 32, 120, 248, 508, 1020, 2044, 4095, 8191]
theorem rampartlaw04_KeysOrder.tab22 : rtab .any (opsOf Try.f6 22) = rampartlaw04_KeysOrder.T22 := by kernel_rfl
theorem rampartlaw04_KeysOrder.bits22 : waitsOk rampartlaw04_KeysOrder.T22.2 rampartlaw04_KeysOrder.B22 = true := by kernel_rfl
set_option maxHeartbeats 8000000 in
set_option maxRecDepth 100000 in
theorem rampartlaw04_KeysOrder.calls (k : Nat) (A0 : Option Addr) (c0 : Nat) (l0 : List (S41)) (a1 : Int) (r : Bool) (w : World) (hr0 : Kd.C k41 w A0 l0.length l0) (hc0 : l0.length ≤ c0) (h : rampartlaw04_KeysOrder.f k l0 a1 = some r) :
    Calls Try.prog 6 #[.slice A0 l0.length c0, .int .i64 a1] w fun e w' => e = .returned (.bool r) ∧ Below w.heap.size w w' := by
  have hu41 := Try.underlying41
  have HR0 := Aside0.mk hr0
  have HC0 := Aside0.mk hc0
  clear hr0 hc0
  have HB := Aside0.mk (Below.refl w.heap.size w)
  have H : ((rampartlaw04_alive.f k).bind fun t670 => (if t670 = true then (if (l0.length : Int) > 1200 then (some true) else (rampartlaw04_KeysOrder.l0 k l0 a1 ([] : List (S41)) (l0.length : Int) 0)) else (some false))) = some r := h
  clear h
  replace H := Option.bind_eq_some_iff.mp H
  obtain ⟨t670, A30, H⟩ := H
  replace H : (if t670 = true then (if (l0.length : Int) > 1200 then (some true) else (rampartlaw04_KeysOrder.l0 k l0 a1 ([] : List (S41)) (l0.length : Int) 0)) else (some false)) = some r := H
  have A3 := Aside0.mk A30
  clear A30
  by_cases c4 : t670 = true
  · subst c4
    have H1 : (if (l0.length : Int) > 1200 then (some true) else (rampartlaw04_KeysOrder.l0 k l0 a1 ([] : List (S41)) (l0.length : Int) 0)) = some r := by rw [if_pos rfl] at H; exact H
    clear H
    have H := H1
    clear H1
    by_cases c5 : (l0.length : Int) > 1200
    · rw [if_pos c5] at H
      have c5b0 : decide (1200 < (l0.length : Int)) = true := decide_eq_true c5
      have c5b1 : decide (1200 < l0.length) = true := decide_eq_true (by omega)
      clear c5
      obtain rfl := Option.some.inj H
      go_enter Try.func6, Try.ntmps6
      go_wp2_with (first | ((with_reducible refine gate_callee (f := 8) rfl ?_); refine goesL_ (some 22) rfl rfl Try.func8 (by kernel_rfl) rfl #[] rfl (by (try simp only [List.map_toArray, List.map_cons, List.map_nil]); first | done | rfl | (simp only [List.length_drop, List.length_take]; rfl)) ?_; (with_reducible refine (rampartlaw04_alive.calls k  true _ A3.out).mono ?_); rintro e w6 ⟨rfl, hb⟩; refine ⟨_, rfl, ?_⟩; have n0_ := Aside0.mk (below_step (by repeat (first | (with_reducible first | exact HB.out | apply below_alloc | apply pw_below_drewN | apply below_drew1) | exact HB.out)) hb); clear HB; have HB := n0_; clear n0_; (try clear hb); (try clear hb2); (try clear hk); (try clear hi)))
      go_ret
      exact ⟨by first | rfl | (simp [errW_none, errW_some] <;> rfl) | (simp [*, errW_none, errW_some] <;> rfl), by repeat (first | (with_reducible first | exact HB.out | apply below_alloc | apply pw_below_drewN | apply below_drew1) | exact HB.out)⟩
    · rw [if_neg c5] at H
      have c5b0 : decide (1200 < (l0.length : Int)) = false := decide_eq_false c5
      have c5b1 : decide (1200 < l0.length) = false := decide_eq_false (by omega)
      clear c5
      have H' := Aside0.mk H
      clear H
      go_enter Try.func6, Try.ntmps6
      go_wp2_with (first | ((with_reducible refine gate_callee (f := 8) rfl ?_); refine goesL_ (some 22) rfl rfl Try.func8 (by kernel_rfl) rfl #[] rfl (by (try simp only [List.map_toArray, List.map_cons, List.map_nil]); first | done | rfl | (simp only [List.length_drop, List.length_take]; rfl)) ?_; (with_reducible refine (rampartlaw04_alive.calls k  true _ A3.out).mono ?_); rintro e w7 ⟨rfl, hb⟩; refine ⟨_, rfl, ?_⟩; have n0_ := Aside0.mk (below_step (by repeat (first | (with_reducible first | exact HB.out | apply below_alloc | apply pw_below_drewN | apply below_drew1) | exact HB.out)) hb); clear HB; have HB := n0_; clear n0_; (try clear hb); (try clear hb2); (try clear hk); (try clear hi)))
      go_loopg [6, 8] k (fun kq v6 v8 w' => ∃ (x6_1 : List (S41)) (x8_1 : Int), v8 = .int .i64 x8_1 ∧ Aside0 (rampartlaw04_KeysOrder.l0 kq l0 a1 x6_1 (l0.length : Int) x8_1 = some r) ∧ Aside0 (kq ≤ k) ∧ Aside0 (Kd.R k41 41 w' w.heap.size (fun _ => True) v6 x6_1) ∧ Aside0 (Below w.heap.size w w'))
      case atStart => exact ⟨(([] : List (S41))), (0), (by first | rfl | (simp; done) | (simp [*]; done)), H', ⟨Nat.le_refl _⟩, ⟨by first | exact Kd.R_nil _ _ _ _ _ | exact Kd.N_nil _ _ _ _ _ | exact Kd.V_nil _ _ _ _ _ | exact Kd.Q_nil _ _ _ _ _ | exact Kd.S_nil _ _ _ _ _⟩, ⟨by repeat (first | (with_reducible first | exact HB.out | apply below_alloc | apply pw_below_drewN | apply below_drew1) | exact HB.out)⟩⟩
      case round =>
        clear H'
        try clear p2
        try clear c4
        try clear c5
        try clear c5b0
        try clear c5b1
        try clear c6
        obtain ⟨x6_1, x8_1, rfl, HA, HK1, HO_6, HB⟩ := hrel
        cases gk with
        | zero => exact absurd HA.out (by simp [rampartlaw04_KeysOrder.l0])
        | succ k1 =>
          have H := HA.out
          clear HA
          simp only [rampartlaw04_KeysOrder.l0] at H
          by_cases c8 : x8_1 < (l0.length : Int)
          · rw [if_pos c8] at H
            have c8b0 : decide (x8_1 < (l0.length : Int)) = true := decide_eq_true c8
            clear c8
            by_cases c9 : (IntKind.u64.wrap ((l0.length : Int))) = 0
            · rw [if_pos c9] at H
              exact absurd H (by simp)
            · rw [if_neg c9] at H
              have c9b0 : ((IntKind.u64.wrap ((l0.length : Int))) == 0) = false := beq_eq_false_iff_ne.mpr c9
              have c9b1 : ((IntKind.u64.wrap ((l0.length : Int))) != 0) = true := bne_iff_ne.mpr c9
              by_cases c10 : (l0.length : Int) = 0
              · rw [if_pos c10] at H
                exact absurd H (by simp)
              · rw [if_neg c10] at H
                have c10b0 : ((l0.length : Int) == 0) = false := beq_eq_false_iff_ne.mpr c10
                have c10b1 : ((l0.length : Int) != 0) = true := bne_iff_ne.mpr c10
                have c10b2 : ¬ (l0 = []) := fun h_ => c10 (by rw [h_]; rfl)
                obtain ⟨ji11, hji11⟩ : ∃ j_ : Int, (Int.tmod (wrap64 ((wrap64 ((wrap64 ((l0.length : Int) - 1)) - x8_1)) + (wrap64 (Int.tmod (IntKind.u64.wrap (a1)) (IntKind.u64.wrap ((l0.length : Int))))))) (l0.length : Int)) = j_ := ⟨_, rfl⟩
                replace H : (if 0 ≤ (ji11) then (if (ji11) < (l0.length : Int) then ((some (([(⟨(rd_T41 l0 (ji11)).f0, (rd_T41 l0 (ji11)).f1⟩ : S41)] : List (S41)) : List (S41))).bind fun y672 => (if x6_1.length + y672.length < 4398046511104 then (rampartlaw04_KeysOrder.l0 k1 l0 a1 (x6_1 ++ y672) (l0.length : Int) (wrap64 (x8_1 + 1))) else (none))) else (none)) else (none)) = some r := by first | (rw [hji11] at H; exact H) | (simp only [hji11] at H ⊢; exact H)
                by_cases c12 : 0 ≤ (ji11)
                · rw [if_pos c12] at H
                  have c12b0 : decide (0 ≤ (ji11)) = true := decide_eq_true c12
                  clear c12
                  by_cases c13 : (ji11) < (l0.length : Int)
                  · rw [if_pos c13] at H
                    have c13b0 : decide ((ji11) < (l0.length : Int)) = true := decide_eq_true c13
                    clear c13
                    obtain ⟨y672, hy672⟩ : ∃ y_ : List (S41), y_ = (([(⟨(rd_T41 l0 (ji11)).f0, (rd_T41 l0 (ji11)).f1⟩ : S41)] : List (S41))) := ⟨_, rfl⟩
                    replace H : (if x6_1.length + y672.length < 4398046511104 then (rampartlaw04_KeysOrder.l0 k1 l0 a1 (x6_1 ++ y672) (l0.length : Int) (wrap64 (x8_1 + 1))) else (none)) = some r := by first | (rw [hy672]; with_reducible exact H) | (have H2_ := (Option.bind_some _ _).symm.trans H; rw [hy672]; with_reducible exact H2_) | (have H2_ := (Option.bind_some _ _).symm.trans H; with_reducible exact H2_) | with_reducible exact H | (rw [hy672]; exact H) | exact H
                    have Ny672 := Aside0.mk hy672
                    clear hy672
                    by_cases c14 : x6_1.length + y672.length < 4398046511104
                    · rw [if_pos c14] at H
                      have LMc14 := Aside0.mk c14
                      clear c14
                      obtain ⟨y675, hy675⟩ : ∃ y_ : List (S41), y_ = (x6_1 ++ y672) := ⟨_, rfl⟩
                      replace H : (rampartlaw04_KeysOrder.l0 k1 l0 a1 y675 (l0.length : Int) (wrap64 (x8_1 + 1))) = some r := by first | (rw [hy675]; with_reducible exact H) | (have H2_ := (Option.bind_some _ _).symm.trans H; rw [hy675]; with_reducible exact H2_) | (have H2_ := (Option.bind_some _ _).symm.trans H; with_reducible exact H2_) | with_reducible exact H | (rw [hy675]; exact H) | exact H
                      have Ny675 := Aside0.mk hy675
                      clear hy675
                      have H' := Aside0.mk H
                      clear H
                      have p671 : 0 ≤ ((ji11) : Int) := of_decide_eq_true (by first | (with_reducible assumption) | assumption)
                      have q671 : (ji11) < (l0.length : Int) := of_decide_eq_true (by first | (with_reducible assumption) | assumption)
                      obtain ⟨ad671, e671, hx671_0, hx671_1⟩ := at_T41 HR0.out (ji11) p671 q671
                      cases e671
                      replace hx671_0 := (HB.out.cell (World.block_lt_of_cell? w _ hx671_0)).trans hx671_0
                      replace hx671_1 := (HB.out.cell (World.block_lt_of_cell? w _ hx671_1)).trans hx671_1
                      replace p671 := eq_true p671
                      replace q671 := eq_true q671
                      go_wp2_with (first | ((fail_if_success have chk_ := uq47_); (with_reducible refine gate_dst (N := 52) rfl ?_); (try (refine gate_guard (by rfl) ?_; dsimp only)); refine Kd.R_lit k41 _ 41 ?hg (N := 52) ?hd (xs := ([(⟨(rd_T41 l0 (ji11)).f0, (rd_T41 l0 (ji11)).f1⟩ : S41)] : List (S41))) (inner := [.string ((rd_T41 l0 (ji11)).f0), .string ((rd_T41 l0 (ji11)).f1)]) (ok := fun _ => True) (okp := fun _ => True) ?hr ?hp (fun _ hk => hk) trivial (Below.refl _ _) (Nat.le_refl _) (by simp) ?_; (case hd => rfl); (case hg => rfl); (case hr => first | (go_simp; done) | (go_simp; rfl)); (case hp => exact (Reps.c2 (show Kd.M k41 _ _ _ (⟨(rd_T41 l0 (ji11)).f0, (rd_T41 l0 (ji11)).f1⟩ : S41) [.string ((rd_T41 l0 (ji11)).f0), .string ((rd_T41 l0 (ji11)).f1)] from (k41_mkM _ _ _ (⟨(rd_T41 l0 (ji11)).f0, (rd_T41 l0 (ji11)).f1⟩ : S41) )) (Reps.none _ _))); intro v673 w15 ho16 hb hg_ hnew_; clear hg_ hnew_; (first | rw [← Ny672.out] at ho16 | (simp only [Int.reduceToNat] at ho16; rw [← Ny672.out] at ho16)); have n0_ := Aside0.mk (Kd.R_elder' (by (with_reducible repeat (first | apply Kd.R_alloc | apply Kd.R_drewN | apply Kd.R_drew)); exact HO_6.out) (Kd.R_base ho16) hb); have n1_ := Aside0.mk (Kd.R_lower (Kd.R_new' ho16 (Kd.R_lt (by (with_reducible repeat (first | apply Kd.R_alloc | apply Kd.R_drewN | apply Kd.R_drew)); exact HO_6.out))) (below_size (by repeat (first | (with_reducible first | exact HB.out | apply below_alloc | apply pw_below_drewN | apply below_drew1) | exact HB.out)))); have n2_ := Aside0.mk (below_step (by repeat (first | (with_reducible first | exact HB.out | apply below_alloc | apply pw_below_drewN | apply below_drew1) | exact HB.out)) hb); clear HO_6; clear HB; have HO_6 := n0_; have HO674 := n1_; have HB := n2_; clear n0_ n1_ n2_; clear hb ho16; obtain ⟨Ao18, co18, eo18⟩ := Kd.R_slice HO674.out; subst eo18; have uq47_ := True.intro) | ((fail_if_success have chk_ := uq48_); (with_reducible refine gate_builtin (b := .append) (xs := #[.tmp 35, .tmp 52]) rfl ?_); (try (refine gate_guard (by rfl) ?_; dsimp only)); at_builtin; refine Kd.R_append_rows k41 (w0 := w) w.heap.size rfl (.tmp 35) (.tmp 52) 33 41 (.agg #[(.string ⟨#[]⟩), (.string ⟨#[]⟩)]) 32 rfl Try.underlying33 info41 rfl (by decide) (by omega) u6 x6_1 y672 _ _ _ (fun k_ => some k_ ≠ (.slice Ao18 y672.length co18 : Value).ownBlock) (fun _ => False) rfl rfl ?aO ?aR (fun _ _ h => h) (fun _ h => h.elim) ?aF ?aB ?aS ?aL ?_; (case aR => repeat (first | exact (Kd.R_reads' HO674.out).2.2 | (with_reducible refine Kd.C_alloc ?_ _) | (with_reducible refine Kd.C_drewN ?_ _) | (with_reducible refine Kd.C_drew ?_))); (case aB => exact (by repeat (first | (with_reducible first | exact HB.out | apply below_alloc | apply pw_below_drewN | apply below_drew1) | exact HB.out))); (case aF => exact (fun k_ hk => Kd.fresh' (Kd.R_lt (by (with_reducible repeat (first | apply Kd.R_alloc | apply Kd.R_drewN | apply Kd.R_drew)); exact HO674.out)) k_ hk)); (case aO => exact (by (with_reducible repeat (first | apply Kd.R_alloc | apply Kd.R_drewN | apply Kd.R_drew)); exact Kd.R_mono HO_6.out (fun _ hk => hk.2))); (case aS => exact (below_size (by repeat (first | (with_reducible first | exact HB.out | apply below_alloc | apply pw_below_drewN | apply below_drew1) | exact HB.out)))); (case aL => have := LMc14.out; omega); intro v676 w17 ho hb hg hat; rw [← Ny675.out] at ho; have n0_ := Aside0.mk (Kd.R_after (ok := (fun _ => True)) (by (with_reducible repeat (first | apply Kd.R_alloc | apply Kd.R_drewN | apply Kd.R_drew)); exact HO674.out) hg hat); have n1_ := Aside0.mk (hb); have n2_ := Aside0.mk (ho); clear HO674; clear HB; clear HO_6; have HO674 := n0_; have HB := n1_; have HO677 := n2_; clear n0_ n1_ n2_; clear ho hb hg hat; have uq48_ := True.intro))
                      go_roundg k1
                      case measure => have := HK1.out; omega
                      case rel => exact ⟨(y675), (wrap64 (x8_1 + 1)), (by first | rfl | (simp; done) | (simp [*]; done)), H', ⟨by have := HK1.out; omega⟩, ⟨by (with_reducible repeat (first | apply Kd.R_alloc | apply Kd.R_drewN | apply Kd.R_drew)); exact Kd.R_mono HO677.out (fun _ hk => trivial)⟩, ⟨by repeat (first | (with_reducible first | exact HB.out | apply below_alloc | apply pw_below_drewN | apply below_drew1) | exact HB.out)⟩⟩
                    · rw [if_neg c14] at H
                      exact absurd H (by simp)
                  · rw [if_neg c13] at H
                    exact absurd H (by simp)
                · rw [if_neg c12] at H
                  exact absurd H (by simp)
          · rw [if_neg c8] at H
            have c8b0 : decide (x8_1 < (l0.length : Int)) = false := decide_eq_false c8
            clear c8
            replace H := Option.bind_eq_some_iff.mp H
            obtain ⟨t678, A190, H⟩ := H
            replace H : ((keys_Norm.f k1 t678).bind fun bt681 => ((rampartlaw04_ownPairs.f x6_1).bind fun t685 => ((keys_Norm.f k1 t685).bind fun bt688 => ((rampartlaw04_ownPairs.f l0).bind fun t692 => ((keys_Names.f k1 t692).bind fun t695 => ((keys_Sorted.f k1 t695).bind fun bt698 => (if bt681.2 = bt688.2 then ((rampartlaw04_samePairs.f k1 bt681.1 bt688.1).bind fun t702 => (rampartlaw04_KeysOrder.j1 k1 l0 a1 (l0.length : Int) bt681.1 bt681.2 bt698.1 bt698.2 (!t702))) else (rampartlaw04_KeysOrder.j1 k1 l0 a1 (l0.length : Int) bt681.1 bt681.2 bt698.1 bt698.2 true)))))))) = some r := H
            have A19 := Aside0.mk A190
            clear A190
            replace H := Option.bind_eq_some_iff.mp H
            obtain ⟨⟨t681, t682⟩, A200, H⟩ := H
            replace H : ((rampartlaw04_ownPairs.f x6_1).bind fun t685 => ((keys_Norm.f k1 t685).bind fun bt688 => ((rampartlaw04_ownPairs.f l0).bind fun t692 => ((keys_Names.f k1 t692).bind fun t695 => ((keys_Sorted.f k1 t695).bind fun bt698 => (if t682 = bt688.2 then ((rampartlaw04_samePairs.f k1 t681 bt688.1).bind fun t702 => (rampartlaw04_KeysOrder.j1 k1 l0 a1 (l0.length : Int) t681 t682 bt698.1 bt698.2 (!t702))) else (rampartlaw04_KeysOrder.j1 k1 l0 a1 (l0.length : Int) t681 t682 bt698.1 bt698.2 true))))))) = some r := H
            have A20 := Aside0.mk A200
            clear A200
            replace H := Option.bind_eq_some_iff.mp H
            obtain ⟨t685, A210, H⟩ := H
            replace H : ((keys_Norm.f k1 t685).bind fun bt688 => ((rampartlaw04_ownPairs.f l0).bind fun t692 => ((keys_Names.f k1 t692).bind fun t695 => ((keys_Sorted.f k1 t695).bind fun bt698 => (if t682 = bt688.2 then ((rampartlaw04_samePairs.f k1 t681 bt688.1).bind fun t702 => (rampartlaw04_KeysOrder.j1 k1 l0 a1 (l0.length : Int) t681 t682 bt698.1 bt698.2 (!t702))) else (rampartlaw04_KeysOrder.j1 k1 l0 a1 (l0.length : Int) t681 t682 bt698.1 bt698.2 true)))))) = some r := H
            have A21 := Aside0.mk A210
            clear A210
            replace H := Option.bind_eq_some_iff.mp H
            obtain ⟨⟨t688, t689⟩, A220, H⟩ := H
            replace H : ((rampartlaw04_ownPairs.f l0).bind fun t692 => ((keys_Names.f k1 t692).bind fun t695 => ((keys_Sorted.f k1 t695).bind fun bt698 => (if t682 = t689 then ((rampartlaw04_samePairs.f k1 t681 t688).bind fun t702 => (rampartlaw04_KeysOrder.j1 k1 l0 a1 (l0.length : Int) t681 t682 bt698.1 bt698.2 (!t702))) else (rampartlaw04_KeysOrder.j1 k1 l0 a1 (l0.length : Int) t681 t682 bt698.1 bt698.2 true))))) = some r := H
            have A22 := Aside0.mk A220
            clear A220
            replace H := Option.bind_eq_some_iff.mp H
            obtain ⟨t692, A230, H⟩ := H
            replace H : ((keys_Names.f k1 t692).bind fun t695 => ((keys_Sorted.f k1 t695).bind fun bt698 => (if t682 = t689 then ((rampartlaw04_samePairs.f k1 t681 t688).bind fun t702 => (rampartlaw04_KeysOrder.j1 k1 l0 a1 (l0.length : Int) t681 t682 bt698.1 bt698.2 (!t702))) else (rampartlaw04_KeysOrder.j1 k1 l0 a1 (l0.length : Int) t681 t682 bt698.1 bt698.2 true)))) = some r := H
            have A23 := Aside0.mk A230
            clear A230
            replace H := Option.bind_eq_some_iff.mp H
            obtain ⟨t695, A240, H⟩ := H
            replace H : ((keys_Sorted.f k1 t695).bind fun bt698 => (if t682 = t689 then ((rampartlaw04_samePairs.f k1 t681 t688).bind fun t702 => (rampartlaw04_KeysOrder.j1 k1 l0 a1 (l0.length : Int) t681 t682 bt698.1 bt698.2 (!t702))) else (rampartlaw04_KeysOrder.j1 k1 l0 a1 (l0.length : Int) t681 t682 bt698.1 bt698.2 true))) = some r := H
            have A24 := Aside0.mk A240
            clear A240
            replace H := Option.bind_eq_some_iff.mp H
            obtain ⟨⟨t698, t699⟩, A250, H⟩ := H
            replace H : (if t682 = t689 then ((rampartlaw04_samePairs.f k1 t681 t688).bind fun t702 => (rampartlaw04_KeysOrder.j1 k1 l0 a1 (l0.length : Int) t681 t682 t698 t699 (!t702))) else (rampartlaw04_KeysOrder.j1 k1 l0 a1 (l0.length : Int) t681 t682 t698 t699 true)) = some r := H
            have A25 := Aside0.mk A250
            clear A250
            have HC26 := Aside0.mk H
            clear H
            go_upto_region 15 with (first | ((with_reducible refine gate_callee (f := 26) rfl ?_); refine goesL_ (some 56) rfl rfl Try.func26 (by kernel_rfl) rfl #[.slice A0 l0.length c0] rfl (by (try simp only [List.map_toArray, List.map_cons, List.map_nil]); first | done | rfl | (simp only [List.length_drop, List.length_take]; rfl)) ?_; (with_reducible refine (rampartlaw04_ownPairs.calls _ _ l0 t678 _ ?side1 ?side2 A19.out).mono ?_); (case side1 => repeat (first | exact (Kd.C_below HR0.out HB.out) | (with_reducible refine Kd.C_alloc ?_ _) | (with_reducible refine Kd.C_drewN ?_ _) | (with_reducible refine Kd.C_drew ?_))); (case side2 => exact HC0.out); rintro e w27 ⟨v679, rfl, ho0, hb⟩; refine ⟨_, rfl, ?_⟩; have n0_ := Aside0.mk (Kd.R_elder' (by (with_reducible repeat (first | apply Kd.R_alloc | apply Kd.R_drewN | apply Kd.R_drew)); exact HO_6.out) (Kd.R_base ho0) hb); have n1_ := Aside0.mk (Kd.R_lower (Kd.R_new' ho0 (Kd.R_lt (by (with_reducible repeat (first | apply Kd.R_alloc | apply Kd.R_drewN | apply Kd.R_drew)); exact HO_6.out))) (below_size (by repeat (first | (with_reducible first | exact HB.out | apply below_alloc | apply pw_below_drewN | apply below_drew1) | exact HB.out)))); have n2_ := Aside0.mk (below_step (by repeat (first | (with_reducible first | exact HB.out | apply below_alloc | apply pw_below_drewN | apply below_drew1) | exact HB.out)) hb); clear HO_6; clear HB; have HO_6 := n0_; have HO680 := n1_; have HB := n2_; clear n0_ n1_ n2_; (try clear hb); (try clear hb2); (try clear hk); (try clear hi); (try clear ho0); obtain ⟨Ao28, co28, eo28⟩ := Kd.R_slice HO680.out; subst eo28) | ((with_reducible refine gate_callee (f := 25) rfl ?_); refine goesL_ (some 57) rfl rfl Try.func25 (by kernel_rfl) rfl #[.slice Ao28 t678.length co28] rfl (by (try simp only [List.map_toArray, List.map_cons, List.map_nil]); first | done | rfl | (simp only [List.length_drop, List.length_take]; rfl)) ?_; (with_reducible refine (keys_Norm.calls k1 _ _ t678 t681 t682 _ ?side1 ?side2 A20.out).mono ?_); (case side1 => repeat (first | exact (Kd.R_reads' HO680.out).2.2 | (with_reducible refine Kd.C_alloc ?_ _) | (with_reducible refine Kd.C_drewN ?_ _) | (with_reducible refine Kd.C_drew ?_))); (case side2 => exact (Kd.R_reads' HO680.out).2.1); rintro e w29 ⟨v683, rfl, ho0, hb⟩; refine ⟨_, rfl, ?_⟩; have n0_ := Aside0.mk (Kd.R_elder' (by (with_reducible repeat (first | apply Kd.R_alloc | apply Kd.R_drewN | apply Kd.R_drew)); exact HO_6.out) (Kd.R_base ho0) hb); have n1_ := Aside0.mk (Kd.R_elder' (by (with_reducible repeat (first | apply Kd.R_alloc | apply Kd.R_drewN | apply Kd.R_drew)); exact HO680.out) (Kd.R_base ho0) hb); have n2_ := Aside0.mk (Kd.R_lower (Kd.R_new' (Kd.R_new' ho0 (Kd.R_lt (by (with_reducible repeat (first | apply Kd.R_alloc | apply Kd.R_drewN | apply Kd.R_drew)); exact HO_6.out))) (Kd.R_lt (by (with_reducible repeat (first | apply Kd.R_alloc | apply Kd.R_drewN | apply Kd.R_drew)); exact HO680.out))) (below_size (by repeat (first | (with_reducible first | exact HB.out | apply below_alloc | apply pw_below_drewN | apply below_drew1) | exact HB.out)))); have n3_ := Aside0.mk (below_step (by repeat (first | (with_reducible first | exact HB.out | apply below_alloc | apply pw_below_drewN | apply below_drew1) | exact HB.out)) hb); clear HO_6; clear HO680; clear HB; have HO_6 := n0_; have HO680 := n1_; have HO684 := n2_; have HB := n3_; clear n0_ n1_ n2_ n3_; (try clear hb); (try clear hb2); (try clear hk); (try clear hi); (try clear ho0); obtain ⟨Ao30, co30, eo30⟩ := Kd.R_slice HO_6.out; subst eo30) | ((with_reducible refine gate_callee (f := 26) rfl ?_); refine goesL_ (some 62) rfl rfl Try.func26 (by kernel_rfl) rfl #[.slice Ao30 x6_1.length co30] rfl (by (try simp only [List.map_toArray, List.map_cons, List.map_nil]); first | done | rfl | (simp only [List.length_drop, List.length_take]; rfl)) ?_; (with_reducible refine (rampartlaw04_ownPairs.calls _ _ x6_1 t685 _ ?side1 ?side2 A21.out).mono ?_); (case side1 => repeat (first | exact (Kd.R_reads' HO_6.out).2.2 | (with_reducible refine Kd.C_alloc ?_ _) | (with_reducible refine Kd.C_drewN ?_ _) | (with_reducible refine Kd.C_drew ?_))); (case side2 => exact (Kd.R_reads' HO_6.out).2.1); rintro e w31 ⟨v686, rfl, ho0, hb⟩; refine ⟨_, rfl, ?_⟩; have n0_ := Aside0.mk (Kd.R_elder' (by (with_reducible repeat (first | apply Kd.R_alloc | apply Kd.R_drewN | apply Kd.R_drew)); exact HO_6.out) (Kd.R_base ho0) hb); have n1_ := Aside0.mk (Kd.R_elder' (by (with_reducible repeat (first | apply Kd.R_alloc | apply Kd.R_drewN | apply Kd.R_drew)); exact HO680.out) (Kd.R_base ho0) hb); have n2_ := Aside0.mk (Kd.R_elder' (by (with_reducible repeat (first | apply Kd.R_alloc | apply Kd.R_drewN | apply Kd.R_drew)); exact HO684.out) (Kd.R_base ho0) hb); have n3_ := Aside0.mk (Kd.R_lower (Kd.R_new' (Kd.R_new' (Kd.R_new' ho0 (Kd.R_lt (by (with_reducible repeat (first | apply Kd.R_alloc | apply Kd.R_drewN | apply Kd.R_drew)); exact HO_6.out))) (Kd.R_lt (by (with_reducible repeat (first | apply Kd.R_alloc | apply Kd.R_drewN | apply Kd.R_drew)); exact HO680.out))) (Kd.R_lt (by (with_reducible repeat (first | apply Kd.R_alloc | apply Kd.R_drewN | apply Kd.R_drew)); exact HO684.out))) (below_size (by repeat (first | (with_reducible first | exact HB.out | apply below_alloc | apply pw_below_drewN | apply below_drew1) | exact HB.out)))); have n4_ := Aside0.mk (below_step (by repeat (first | (with_reducible first | exact HB.out | apply below_alloc | apply pw_below_drewN | apply below_drew1) | exact HB.out)) hb); clear HO_6; clear HO680; clear HO684; clear HB; have HO_6 := n0_; have HO680 := n1_; have HO684 := n2_; have HO687 := n3_; have HB := n4_; clear n0_ n1_ n2_ n3_ n4_; (try clear hb); (try clear hb2); (try clear hk); (try clear hi); (try clear ho0); obtain ⟨Ao32, co32, eo32⟩ := Kd.R_slice HO687.out; subst eo32) | ((with_reducible refine gate_callee (f := 25) rfl ?_); refine goesL_ (some 63) rfl rfl Try.func25 (by kernel_rfl) rfl #[.slice Ao32 t685.length co32] rfl (by (try simp only [List.map_toArray, List.map_cons, List.map_nil]); first | done | rfl | (simp only [List.length_drop, List.length_take]; rfl)) ?_; (with_reducible refine (keys_Norm.calls k1 _ _ t685 t688 t689 _ ?side1 ?side2 A22.out).mono ?_); (case side1 => repeat (first | exact (Kd.R_reads' HO687.out).2.2 | (with_reducible refine Kd.C_alloc ?_ _) | (with_reducible refine Kd.C_drewN ?_ _) | (with_reducible refine Kd.C_drew ?_))); (case side2 => exact (Kd.R_reads' HO687.out).2.1); rintro e w33 ⟨v690, rfl, ho0, hb⟩; refine ⟨_, rfl, ?_⟩; have n0_ := Aside0.mk (Kd.R_elder' (by (with_reducible repeat (first | apply Kd.R_alloc | apply Kd.R_drewN | apply Kd.R_drew)); exact HO_6.out) (Kd.R_base ho0) hb); have n1_ := Aside0.mk (Kd.R_elder' (by (with_reducible repeat (first | apply Kd.R_alloc | apply Kd.R_drewN | apply Kd.R_drew)); exact HO680.out) (Kd.R_base ho0) hb); have n2_ := Aside0.mk (Kd.R_elder' (by (with_reducible repeat (first | apply Kd.R_alloc | apply Kd.R_drewN | apply Kd.R_drew)); exact HO684.out) (Kd.R_base ho0) hb); have n3_ := Aside0.mk (Kd.R_elder' (by (with_reducible repeat (first | apply Kd.R_alloc | apply Kd.R_drewN | apply Kd.R_drew)); exact HO687.out) (Kd.R_base ho0) hb); have n4_ := Aside0.mk (Kd.R_lower (Kd.R_new' (Kd.R_new' (Kd.R_new' (Kd.R_new' ho0 (Kd.R_lt (by (with_reducible repeat (first | apply Kd.R_alloc | apply Kd.R_drewN | apply Kd.R_drew)); exact HO_6.out))) (Kd.R_lt (by (with_reducible repeat (first | apply Kd.R_alloc | apply Kd.R_drewN | apply Kd.R_drew)); exact HO680.out))) (Kd.R_lt (by (with_reducible repeat (first | apply Kd.R_alloc | apply Kd.R_drewN | apply Kd.R_drew)); exact HO684.out))) (Kd.R_lt (by (with_reducible repeat (first | apply Kd.R_alloc | apply Kd.R_drewN | apply Kd.R_drew)); exact HO687.out))) (below_size (by repeat (first | (with_reducible first | exact HB.out | apply below_alloc | apply pw_below_drewN | apply below_drew1) | exact HB.out)))); have n5_ := Aside0.mk (below_step (by repeat (first | (with_reducible first | exact HB.out | apply below_alloc | apply pw_below_drewN | apply below_drew1) | exact HB.out)) hb); clear HO_6; clear HO680; clear HO684; clear HO687; clear HB; have HO_6 := n0_; have HO680 := n1_; have HO684 := n2_; have HO687 := n3_; have HO691 := n4_; have HB := n5_; clear n0_ n1_ n2_ n3_ n4_ n5_; (try clear hb); (try clear hb2); (try clear hk); (try clear hi); (try clear ho0)) | ((with_reducible refine gate_callee (f := 26) rfl ?_); refine goesL_ (some 68) rfl rfl Try.func26 (by kernel_rfl) rfl #[.slice A0 l0.length c0] rfl (by (try simp only [List.map_toArray, List.map_cons, List.map_nil]); first | done | rfl | (simp only [List.length_drop, List.length_take]; rfl)) ?_; (with_reducible refine (rampartlaw04_ownPairs.calls _ _ l0 t692 _ ?side1 ?side2 A23.out).mono ?_); (case side1 => repeat (first | exact (Kd.C_below HR0.out HB.out) | (with_reducible refine Kd.C_alloc ?_ _) | (with_reducible refine Kd.C_drewN ?_ _) | (with_reducible refine Kd.C_drew ?_))); (case side2 => exact HC0.out); rintro e w34 ⟨v693, rfl, ho0, hb⟩; refine ⟨_, rfl, ?_⟩; have n0_ := Aside0.mk (Kd.R_elder' (by (with_reducible repeat (first | apply Kd.R_alloc | apply Kd.R_drewN | apply Kd.R_drew)); exact HO_6.out) (Kd.R_base ho0) hb); have n1_ := Aside0.mk (Kd.R_elder' (by (with_reducible repeat (first | apply Kd.R_alloc | apply Kd.R_drewN | apply Kd.R_drew)); exact HO680.out) (Kd.R_base ho0) hb); have n2_ := Aside0.mk (Kd.R_elder' (by (with_reducible repeat (first | apply Kd.R_alloc | apply Kd.R_drewN | apply Kd.R_drew)); exact HO684.out) (Kd.R_base ho0) hb); have n3_ := Aside0.mk (Kd.R_elder' (by (with_reducible repeat (first | apply Kd.R_alloc | apply Kd.R_drewN | apply Kd.R_drew)); exact HO687.out) (Kd.R_base ho0) hb); have n4_ := Aside0.mk (Kd.R_elder' (by (with_reducible repeat (first | apply Kd.R_alloc | apply Kd.R_drewN | apply Kd.R_drew)); exact HO691.out) (Kd.R_base ho0) hb); have n5_ := Aside0.mk (Kd.R_lower (Kd.R_new' (Kd.R_new' (Kd.R_new' (Kd.R_new' (Kd.R_new' ho0 (Kd.R_lt (by (with_reducible repeat (first | apply Kd.R_alloc | apply Kd.R_drewN | apply Kd.R_drew)); exact HO_6.out))) (Kd.R_lt (by (with_reducible repeat (first | apply Kd.R_alloc | apply Kd.R_drewN | apply Kd.R_drew)); exact HO680.out))) (Kd.R_lt (by (with_reducible repeat (first | apply Kd.R_alloc | apply Kd.R_drewN | apply Kd.R_drew)); exact HO684.out))) (Kd.R_lt (by (with_reducible repeat (first | apply Kd.R_alloc | apply Kd.R_drewN | apply Kd.R_drew)); exact HO687.out))) (Kd.R_lt (by (with_reducible repeat (first | apply Kd.R_alloc | apply Kd.R_drewN | apply Kd.R_drew)); exact HO691.out))) (below_size (by repeat (first | (with_reducible first | exact HB.out | apply below_alloc | apply pw_below_drewN | apply below_drew1) | exact HB.out)))); have n6_ := Aside0.mk (below_step (by repeat (first | (with_reducible first | exact HB.out | apply below_alloc | apply pw_below_drewN | apply below_drew1) | exact HB.out)) hb); clear HO_6; clear HO680; clear HO684; clear HO687; clear HO691; clear HB; have HO_6 := n0_; have HO680 := n1_; have HO684 := n2_; have HO687 := n3_; have HO691 := n4_; have HO694 := n5_; have HB := n6_; clear n0_ n1_ n2_ n3_ n4_ n5_ n6_; (try clear hb); (try clear hb2); (try clear hk); (try clear hi); (try clear ho0); obtain ⟨Ao35, co35, eo35⟩ := Kd.R_slice HO694.out; subst eo35) | ((with_reducible refine gate_callee (f := 31) rfl ?_); refine goesL_ (some 69) rfl rfl Try.func31 (by kernel_rfl) rfl #[.slice Ao35 t692.length co35] rfl (by (try simp only [List.map_toArray, List.map_cons, List.map_nil]); first | done | rfl | (simp only [List.length_drop, List.length_take]; rfl)) ?_; (with_reducible refine (keys_Names.calls k1 _ _ t692 t695 _ ?side1 ?side2 A24.out).mono ?_); (case side1 => repeat (first | exact (Kd.R_reads' HO694.out).2.2 | (with_reducible refine Kd.C_alloc ?_ _) | (with_reducible refine Kd.C_drewN ?_ _) | (with_reducible refine Kd.C_drew ?_))); (case side2 => exact (Kd.R_reads' HO694.out).2.1); rintro e w36 ⟨v696, rfl, ho0, hb⟩; refine ⟨_, rfl, ?_⟩; have n0_ := Aside0.mk (Kd.R_below (by (with_reducible repeat (first | apply Kd.R_alloc | apply Kd.R_drewN | apply Kd.R_drew)); exact HO_6.out) hb); have n1_ := Aside0.mk (Kd.R_below (by (with_reducible repeat (first | apply Kd.R_alloc | apply Kd.R_drewN | apply Kd.R_drew)); exact HO680.out) hb); have n2_ := Aside0.mk (Kd.R_below (by (with_reducible repeat (first | apply Kd.R_alloc | apply Kd.R_drewN | apply Kd.R_drew)); exact HO684.out) hb); have n3_ := Aside0.mk (Kd.R_below (by (with_reducible repeat (first | apply Kd.R_alloc | apply Kd.R_drewN | apply Kd.R_drew)); exact HO687.out) hb); have n4_ := Aside0.mk (Kd.R_below (by (with_reducible repeat (first | apply Kd.R_alloc | apply Kd.R_drewN | apply Kd.R_drew)); exact HO691.out) hb); have n5_ := Aside0.mk (Kd.R_below (by (with_reducible repeat (first | apply Kd.R_alloc | apply Kd.R_drewN | apply Kd.R_drew)); exact HO694.out) hb); have n6_ := Aside0.mk (Kd.R_lower ho0 (below_size (by repeat (first | (with_reducible first | exact HB.out | apply below_alloc | apply pw_below_drewN | apply below_drew1) | exact HB.out)))); have n7_ := Aside0.mk (below_step (by repeat (first | (with_reducible first | exact HB.out | apply below_alloc | apply pw_below_drewN | apply below_drew1) | exact HB.out)) hb); clear HO_6; clear HO680; clear HO684; clear HO687; clear HO691; clear HO694; clear HB; have HO_6 := n0_; have HO680 := n1_; have HO684 := n2_; have HO687 := n3_; have HO691 := n4_; have HO694 := n5_; have HO697 := n6_; have HB := n7_; clear n0_ n1_ n2_ n3_ n4_ n5_ n6_ n7_; (try clear hb); (try clear hb2); (try clear hk); (try clear hi); (try clear ho0); obtain ⟨Ao37, co37, eo37⟩ := Kd.R_slice HO697.out; subst eo37) | ((with_reducible refine gate_callee (f := 9) rfl ?_); refine goesL_ (some 70) rfl rfl Try.func9 (by kernel_rfl) rfl #[.slice Ao37 t695.length co37] rfl (by (try simp only [List.map_toArray, List.map_cons, List.map_nil]); first | done | rfl | (simp only [List.length_drop, List.length_take]; rfl)) ?_; (with_reducible refine (keys_Sorted.calls k1 _ _ t695 t698 t699 _ ?side1 ?side2 A25.out).mono ?_); (case side1 => repeat (first | exact (Kd.R_reads' HO697.out).2.2 | (with_reducible refine Kd.C_alloc ?_ _) | (with_reducible refine Kd.C_drewN ?_ _) | (with_reducible refine Kd.C_drew ?_))); (case side2 => exact (Kd.R_reads' HO697.out).2.1); rintro e w38 ⟨v700, rfl, ho0, hb⟩; refine ⟨_, rfl, ?_⟩; have n0_ := Aside0.mk (Kd.R_below (by (with_reducible repeat (first | apply Kd.R_alloc | apply Kd.R_drewN | apply Kd.R_drew)); exact HO_6.out) hb); have n1_ := Aside0.mk (Kd.R_below (by (with_reducible repeat (first | apply Kd.R_alloc | apply Kd.R_drewN | apply Kd.R_drew)); exact HO680.out) hb); have n2_ := Aside0.mk (Kd.R_below (by (with_reducible repeat (first | apply Kd.R_alloc | apply Kd.R_drewN | apply Kd.R_drew)); exact HO684.out) hb); have n3_ := Aside0.mk (Kd.R_below (by (with_reducible repeat (first | apply Kd.R_alloc | apply Kd.R_drewN | apply Kd.R_drew)); exact HO687.out) hb); have n4_ := Aside0.mk (Kd.R_below (by (with_reducible repeat (first | apply Kd.R_alloc | apply Kd.R_drewN | apply Kd.R_drew)); exact HO691.out) hb); have n5_ := Aside0.mk (Kd.R_below (by (with_reducible repeat (first | apply Kd.R_alloc | apply Kd.R_drewN | apply Kd.R_drew)); exact HO694.out) hb); have n6_ := Aside0.mk (Kd.R_elder' (by (with_reducible repeat (first | apply Kd.R_alloc | apply Kd.R_drewN | apply Kd.R_drew)); exact HO697.out) (Kd.R_base ho0) hb); have n7_ := Aside0.mk (Kd.R_lower (Kd.R_new' ho0 (Kd.R_lt (by (with_reducible repeat (first | apply Kd.R_alloc | apply Kd.R_drewN | apply Kd.R_drew)); exact HO697.out))) (below_size (by repeat (first | (with_reducible first | exact HB.out | apply below_alloc | apply pw_below_drewN | apply below_drew1) | exact HB.out)))); have n8_ := Aside0.mk (below_step (by repeat (first | (with_reducible first | exact HB.out | apply below_alloc | apply pw_below_drewN | apply below_drew1) | exact HB.out)) hb); clear HO_6; clear HO680; clear HO684; clear HO687; clear HO691; clear HO694; clear HO697; clear HB; have HO_6 := n0_; have HO680 := n1_; have HO684 := n2_; have HO687 := n3_; have HO691 := n4_; have HO694 := n5_; have HO697 := n6_; have HO701 := n7_; have HB := n8_; clear n0_ n1_ n2_ n3_ n4_ n5_ n6_ n7_ n8_; (try clear hb); (try clear hb2); (try clear hk); (try clear hi); (try clear ho0)))
            (try simp only [Act.put, List.setIfInBounds_toArray, List.set_cons_zero, List.set_cons_succ])
            go_cut [81] (fun v81 wc => ∃ (kq : Nat) (x81_25 : Bool), v81 = .bool x81_25 ∧ Aside0 (rampartlaw04_KeysOrder.j1 kq l0 a1 (l0.length : Int) t681 t682 t698 t699 x81_25 = some r) ∧ Aside0 (kq ≤ k1) ∧ Aside0 (Kd.R k41 41 wc w.heap.size (fun _ => True) v683 t681) ∧ Aside0 (Kd.R Kd.string 9 wc w.heap.size (fun _ => True) v700 t698) ∧ Aside0 (Below w.heap.size w wc))
            case first =>
              have H := HC26.out
              clear HC26
              by_cases c39 : t682 = t689
              · rw [if_pos c39] at H
                have c39b0 : (t682 == t689) = true := beq_iff_eq.mpr c39
                have c39b1 : (t682 != t689) = false := bne_eq_false_iff_eq.mpr c39
                clear c39
                (first | rw [c39b0] | (simp only [i64_w, i32_w]; rw [c39b0]) | skip)
                replace H := Option.bind_eq_some_iff.mp H
                obtain ⟨t702, A400, H⟩ := H
                replace H : (rampartlaw04_KeysOrder.j1 k1 l0 a1 (l0.length : Int) t681 t682 t698 t699 (!t702)) = some r := H
                have A40 := Aside0.mk A400
                clear A400
                have H' := Aside0.mk H
                clear H
                obtain ⟨Ao41, co41, eo41⟩ := Kd.R_slice HO684.out
                subst eo41
                obtain ⟨Ao42, co42, eo42⟩ := Kd.R_slice HO691.out
                subst eo42
                go_wp2_with (first | (go_at_call 28; (with_reducible refine (rampartlaw04_samePairs.calls k1 _ _ t681 _ _ t688 t702 _ ?side1 ?side2 ?side3 ?side4 A40.out).mono ?_); (case side1 => repeat (first | exact (Kd.R_reads' HO684.out).2.2 | (with_reducible refine Kd.C_alloc ?_ _) | (with_reducible refine Kd.C_drewN ?_ _) | (with_reducible refine Kd.C_drew ?_))); (case side2 => exact (Kd.R_reads' HO684.out).2.1); (case side3 => repeat (first | exact (Kd.R_reads' HO691.out).2.2 | (with_reducible refine Kd.C_alloc ?_ _) | (with_reducible refine Kd.C_drewN ?_ _) | (with_reducible refine Kd.C_drew ?_))); (case side4 => exact (Kd.R_reads' HO691.out).2.1); rintro e w' ⟨rfl, ⟨nd, rfl⟩⟩))
                go_meet
                case rel => exact ⟨_, (!t702), (by first | rfl | (simp; done) | (simp [*]; done)), H', ⟨by have := HK1.out; first | omega | exact Nat.le_refl _⟩, ⟨by (with_reducible repeat (first | apply Kd.R_alloc | apply Kd.R_drewN | apply Kd.R_drew)); exact Kd.R_mono HO684.out (fun _ hk => trivial)⟩, ⟨by (with_reducible repeat (first | apply Kd.R_alloc | apply Kd.R_drewN | apply Kd.R_drew)); exact Kd.R_mono HO701.out (fun _ hk => trivial)⟩, ⟨by repeat (first | (with_reducible first | exact HB.out | apply below_alloc | apply pw_below_drewN | apply below_drew1) | exact HB.out)⟩⟩
              · rw [if_neg c39] at H
                have c39b0 : (t682 == t689) = false := beq_eq_false_iff_ne.mpr c39
                have c39b1 : (t682 != t689) = true := bne_iff_ne.mpr c39
                (first | rw [c39b0] | (simp only [i64_w, i32_w]; rw [c39b0]) | skip)
                have H' := Aside0.mk H
                clear H
                go_wp2
                go_meet
                case rel => exact ⟨_, (true), (by first | rfl | (simp; done) | (simp [*]; done)), H', ⟨by have := HK1.out; first | omega | exact Nat.le_refl _⟩, ⟨by (with_reducible repeat (first | apply Kd.R_alloc | apply Kd.R_drewN | apply Kd.R_drew)); exact Kd.R_mono HO684.out (fun _ hk => trivial)⟩, ⟨by (with_reducible repeat (first | apply Kd.R_alloc | apply Kd.R_drewN | apply Kd.R_drew)); exact Kd.R_mono HO701.out (fun _ hk => trivial)⟩, ⟨by repeat (first | (with_reducible first | exact HB.out | apply below_alloc | apply pw_below_drewN | apply below_drew1) | exact HB.out)⟩⟩
            case rest =>
              clear HC26
              try clear c1
              try clear c2
              try clear p2
              try clear c3
              try clear c4
              try clear c5
              try clear c5b0
              try clear c5b1
              try clear c6
              try clear p6
              try clear q6
              try clear hx6
              try clear c8
              try clear c8b0
              try clear c9
              try clear c9b0
              try clear c9b1
              try clear c10
              try clear c10b0
              try clear c10b1
              try clear c10b2
              try clear c12
              try clear c12b0
              try clear c13
              try clear c13b0
              try clear c14
              try clear c25
              try clear c26
              try clear c31
              try clear c39
              try clear c39b0
              try clear c39b1
              try clear hx671_0
              try clear hx671_1
              try clear p2
              try clear p671
              try clear q671
              obtain ⟨kq, x81_25, rfl, HA, HJ25, HO_9, HO_13, HB⟩ := hcut
              cases kq with
              | zero => exact absurd HA.out (by simp [rampartlaw04_KeysOrder.j1])
              | succ kj25 =>
                have H := HA.out
                clear HA
                simp only [rampartlaw04_KeysOrder.j1] at H
                by_cases c43 : x81_25 = true
                · subst c43
                  have H1 : (some false) = some r := by rw [if_pos rfl] at H; exact H
                  clear H
                  have H := H1
                  clear H1
                  obtain rfl := Option.some.inj H
                  go_wp2
                  go_ret
                  exact ⟨by first | rfl | (simp [errW_none, errW_some] <;> rfl) | (simp [*, errW_none, errW_some] <;> rfl), by repeat (first | (with_reducible first | exact HB.out | apply below_alloc | apply pw_below_drewN | apply below_drew1) | exact HB.out)⟩
                · replace c43 := Bool.eq_false_iff.mpr c43
                  subst c43
                  have H1 : (if t682 = 0 then ((rampartlaw04_own.f t698).bind fun t707 => ((keys_Sorted.f kj25 t707).bind fun bt710 => (if t699 = 0 then (if bt710.2 = 0 then ((rampartlaw04_same.f kj25 t698 bt710.1).bind fun t714 => (if t714 = true then ((rampartlaw04_ownPairs.f t681).bind fun t715 => ((keys_Names.f kj25 t715).bind fun t718 => ((rampartlaw04_same.f kj25 t698 t718).bind fun t721 => (if t721 = true then ((rampartlaw04_own.f t698).bind fun t722 => ((keys_Valid.f kj25 t722).bind fun t725 => (if t725 = true then ((rampartlaw04_own.f t698).bind fun t726 => ((keys_Rising.f kj25 t726).bind fun t729 => (if t729 = true then (if (t681.length : Int) = (l0.length : Int) then (rampartlaw04_KeysOrder.j2 kj25 l0 a1 (l0.length : Int) ((t698.length : Int) != (l0.length : Int))) else (rampartlaw04_KeysOrder.j2 kj25 l0 a1 (l0.length : Int) true)) else (rampartlaw04_KeysOrder.j2 kj25 l0 a1 (l0.length : Int) true)))) else (rampartlaw04_KeysOrder.j2 kj25 l0 a1 (l0.length : Int) true)))) else (rampartlaw04_KeysOrder.j2 kj25 l0 a1 (l0.length : Int) true))))) else (rampartlaw04_KeysOrder.j2 kj25 l0 a1 (l0.length : Int) true))) else (rampartlaw04_KeysOrder.j2 kj25 l0 a1 (l0.length : Int) true)) else (rampartlaw04_KeysOrder.j2 kj25 l0 a1 (l0.length : Int) true)))) else (if t682 = 40 then (if (t681.length : Int) = 0 then ((rampartlaw04_ownPairs.f l0).bind fun t703 => ((keys_ValidPairs.f kj25 t703).bind fun t706 => (some (!t706)))) else (some false)) else (some false))) = some r := by rw [if_neg (show ¬ (false = true) by decide)] at H; exact H
                  clear H
                  have H := H1
                  clear H1
                  by_cases c44 : t682 = 0
                  · rw [if_pos c44] at H
                    have c44b0 : (t682 == 0) = true := beq_iff_eq.mpr c44
                    have c44b1 : (t682 != 0) = false := bne_eq_false_iff_eq.mpr c44
                    clear c44
                    replace H := Option.bind_eq_some_iff.mp H
                    obtain ⟨t707, A450, H⟩ := H
                    replace H : ((keys_Sorted.f kj25 t707).bind fun bt710 => (if t699 = 0 then (if bt710.2 = 0 then ((rampartlaw04_same.f kj25 t698 bt710.1).bind fun t714 => (if t714 = true then ((rampartlaw04_ownPairs.f t681).bind fun t715 => ((keys_Names.f kj25 t715).bind fun t718 => ((rampartlaw04_same.f kj25 t698 t718).bind fun t721 => (if t721 = true then ((rampartlaw04_own.f t698).bind fun t722 => ((keys_Valid.f kj25 t722).bind fun t725 => (if t725 = true then ((rampartlaw04_own.f t698).bind fun t726 => ((keys_Rising.f kj25 t726).bind fun t729 => (if t729 = true then (if (t681.length : Int) = (l0.length : Int) then (rampartlaw04_KeysOrder.j2 kj25 l0 a1 (l0.length : Int) ((t698.length : Int) != (l0.length : Int))) else (rampartlaw04_KeysOrder.j2 kj25 l0 a1 (l0.length : Int) true)) else (rampartlaw04_KeysOrder.j2 kj25 l0 a1 (l0.length : Int) true)))) else (rampartlaw04_KeysOrder.j2 kj25 l0 a1 (l0.length : Int) true)))) else (rampartlaw04_KeysOrder.j2 kj25 l0 a1 (l0.length : Int) true))))) else (rampartlaw04_KeysOrder.j2 kj25 l0 a1 (l0.length : Int) true))) else (rampartlaw04_KeysOrder.j2 kj25 l0 a1 (l0.length : Int) true)) else (rampartlaw04_KeysOrder.j2 kj25 l0 a1 (l0.length : Int) true))) = some r := H
                    have A45 := Aside0.mk A450
                    clear A450
                    replace H := Option.bind_eq_some_iff.mp H
                    obtain ⟨⟨t710, t711⟩, A460, H⟩ := H
                    replace H : (if t699 = 0 then (if t711 = 0 then ((rampartlaw04_same.f kj25 t698 t710).bind fun t714 => (if t714 = true then ((rampartlaw04_ownPairs.f t681).bind fun t715 => ((keys_Names.f kj25 t715).bind fun t718 => ((rampartlaw04_same.f kj25 t698 t718).bind fun t721 => (if t721 = true then ((rampartlaw04_own.f t698).bind fun t722 => ((keys_Valid.f kj25 t722).bind fun t725 => (if t725 = true then ((rampartlaw04_own.f t698).bind fun t726 => ((keys_Rising.f kj25 t726).bind fun t729 => (if t729 = true then (if (t681.length : Int) = (l0.length : Int) then (rampartlaw04_KeysOrder.j2 kj25 l0 a1 (l0.length : Int) ((t698.length : Int) != (l0.length : Int))) else (rampartlaw04_KeysOrder.j2 kj25 l0 a1 (l0.length : Int) true)) else (rampartlaw04_KeysOrder.j2 kj25 l0 a1 (l0.length : Int) true)))) else (rampartlaw04_KeysOrder.j2 kj25 l0 a1 (l0.length : Int) true)))) else (rampartlaw04_KeysOrder.j2 kj25 l0 a1 (l0.length : Int) true))))) else (rampartlaw04_KeysOrder.j2 kj25 l0 a1 (l0.length : Int) true))) else (rampartlaw04_KeysOrder.j2 kj25 l0 a1 (l0.length : Int) true)) else (rampartlaw04_KeysOrder.j2 kj25 l0 a1 (l0.length : Int) true)) = some r := H
                    have A46 := Aside0.mk A460
                    clear A460
                    have HC47 := Aside0.mk H
                    clear H
                    obtain ⟨Ao48, co48, eo48⟩ := Kd.R_slice HO_13.out
                    subst eo48
                    go_upto_region 20 with (first | ((with_reducible refine gate_callee (f := 10) rfl ?_); refine goesL_ (some 99) rfl rfl Try.func10 (by kernel_rfl) rfl #[.slice Ao48 t698.length co48] rfl (by (try simp only [List.map_toArray, List.map_cons, List.map_nil]); first | done | rfl | (simp only [List.length_drop, List.length_take]; rfl)) ?_; (with_reducible refine (rampartlaw04_own.calls _ _ t698 t707 _ ?side1 ?side2 A45.out).mono ?_); (case side1 => repeat (first | exact (Kd.R_reads' HO_13.out).2.2 | (with_reducible refine Kd.C_alloc ?_ _) | (with_reducible refine Kd.C_drewN ?_ _) | (with_reducible refine Kd.C_drew ?_))); (case side2 => exact (Kd.R_reads' HO_13.out).2.1); rintro e w49 ⟨v708, rfl, ho0, hb⟩; refine ⟨_, rfl, ?_⟩; have n0_ := Aside0.mk (Kd.R_below (by (with_reducible repeat (first | apply Kd.R_alloc | apply Kd.R_drewN | apply Kd.R_drew)); exact HO_9.out) hb); have n1_ := Aside0.mk (Kd.R_elder' (by (with_reducible repeat (first | apply Kd.R_alloc | apply Kd.R_drewN | apply Kd.R_drew)); exact HO_13.out) (Kd.R_base ho0) hb); have n2_ := Aside0.mk (Kd.R_lower (Kd.R_new' ho0 (Kd.R_lt (by (with_reducible repeat (first | apply Kd.R_alloc | apply Kd.R_drewN | apply Kd.R_drew)); exact HO_13.out))) (below_size (by repeat (first | (with_reducible first | exact HB.out | apply below_alloc | apply pw_below_drewN | apply below_drew1) | exact HB.out)))); have n3_ := Aside0.mk (below_step (by repeat (first | (with_reducible first | exact HB.out | apply below_alloc | apply pw_below_drewN | apply below_drew1) | exact HB.out)) hb); clear HO_9; clear HO_13; clear HB; have HO_9 := n0_; have HO_13 := n1_; have HO709 := n2_; have HB := n3_; clear n0_ n1_ n2_ n3_; (try clear hb); (try clear hb2); (try clear hk); (try clear hi); (try clear ho0); obtain ⟨Ao50, co50, eo50⟩ := Kd.R_slice HO709.out; subst eo50) | ((with_reducible refine gate_callee (f := 9) rfl ?_); refine goesL_ (some 100) rfl rfl Try.func9 (by kernel_rfl) rfl #[.slice Ao50 t707.length co50] rfl (by (try simp only [List.map_toArray, List.map_cons, List.map_nil]); first | done | rfl | (simp only [List.length_drop, List.length_take]; rfl)) ?_; (with_reducible refine (keys_Sorted.calls kj25 _ _ t707 t710 t711 _ ?side1 ?side2 A46.out).mono ?_); (case side1 => repeat (first | exact (Kd.R_reads' HO709.out).2.2 | (with_reducible refine Kd.C_alloc ?_ _) | (with_reducible refine Kd.C_drewN ?_ _) | (with_reducible refine Kd.C_drew ?_))); (case side2 => exact (Kd.R_reads' HO709.out).2.1); rintro e w51 ⟨v712, rfl, ho0, hb⟩; refine ⟨_, rfl, ?_⟩; have n0_ := Aside0.mk (Kd.R_below (by (with_reducible repeat (first | apply Kd.R_alloc | apply Kd.R_drewN | apply Kd.R_drew)); exact HO_9.out) hb); have n1_ := Aside0.mk (Kd.R_elder' (by (with_reducible repeat (first | apply Kd.R_alloc | apply Kd.R_drewN | apply Kd.R_drew)); exact HO_13.out) (Kd.R_base ho0) hb); have n2_ := Aside0.mk (Kd.R_elder' (by (with_reducible repeat (first | apply Kd.R_alloc | apply Kd.R_drewN | apply Kd.R_drew)); exact HO709.out) (Kd.R_base ho0) hb); have n3_ := Aside0.mk (Kd.R_lower (Kd.R_new' (Kd.R_new' ho0 (Kd.R_lt (by (with_reducible repeat (first | apply Kd.R_alloc | apply Kd.R_drewN | apply Kd.R_drew)); exact HO_13.out))) (Kd.R_lt (by (with_reducible repeat (first | apply Kd.R_alloc | apply Kd.R_drewN | apply Kd.R_drew)); exact HO709.out))) (below_size (by repeat (first | (with_reducible first | exact HB.out | apply below_alloc | apply pw_below_drewN | apply below_drew1) | exact HB.out)))); have n4_ := Aside0.mk (below_step (by repeat (first | (with_reducible first | exact HB.out | apply below_alloc | apply pw_below_drewN | apply below_drew1) | exact HB.out)) hb); clear HO_9; clear HO_13; clear HO709; clear HB; have HO_9 := n0_; have HO_13 := n1_; have HO709 := n2_; have HO713 := n3_; have HB := n4_; clear n0_ n1_ n2_ n3_ n4_; (try clear hb); (try clear hb2); (try clear hk); (try clear hi); (try clear ho0)))
                    (try simp only [Act.put, List.setIfInBounds_toArray, List.set_cons_zero, List.set_cons_succ])
                    go_cut [146] (fun v146 wc => ∃ (kq : Nat) (x146_46 : Bool), v146 = .bool x146_46 ∧ Aside0 (rampartlaw04_KeysOrder.j2 kq l0 a1 (l0.length : Int) x146_46 = some r) ∧ Aside0 (kq ≤ kj25) ∧ Aside0 (Below w.heap.size w wc))
                    case first =>
                      have H := HC47.out
                      clear HC47
                      by_cases c52 : t699 = 0
                      · rw [if_pos c52] at H
                        have c52b0 : (t699 == 0) = true := beq_iff_eq.mpr c52
                        have c52b1 : (t699 != 0) = false := bne_eq_false_iff_eq.mpr c52
                        clear c52
                        (first | rw [c52b0] | (simp only [i64_w, i32_w]; rw [c52b0]) | skip)
                        by_cases c53 : t711 = 0
                        · rw [if_pos c53] at H
                          have c53b0 : (t711 == 0) = true := beq_iff_eq.mpr c53
                          have c53b1 : (t711 != 0) = false := bne_eq_false_iff_eq.mpr c53
                          clear c53
                          replace H := Option.bind_eq_some_iff.mp H
                          obtain ⟨t714, A540, H⟩ := H
                          replace H : (if t714 = true then ((rampartlaw04_ownPairs.f t681).bind fun t715 => ((keys_Names.f kj25 t715).bind fun t718 => ((rampartlaw04_same.f kj25 t698 t718).bind fun t721 => (if t721 = true then ((rampartlaw04_own.f t698).bind fun t722 => ((keys_Valid.f kj25 t722).bind fun t725 => (if t725 = true then ((rampartlaw04_own.f t698).bind fun t726 => ((keys_Rising.f kj25 t726).bind fun t729 => (if t729 = true then (if (t681.length : Int) = (l0.length : Int) then (rampartlaw04_KeysOrder.j2 kj25 l0 a1 (l0.length : Int) ((t698.length : Int) != (l0.length : Int))) else (rampartlaw04_KeysOrder.j2 kj25 l0 a1 (l0.length : Int) true)) else (rampartlaw04_KeysOrder.j2 kj25 l0 a1 (l0.length : Int) true)))) else (rampartlaw04_KeysOrder.j2 kj25 l0 a1 (l0.length : Int) true)))) else (rampartlaw04_KeysOrder.j2 kj25 l0 a1 (l0.length : Int) true))))) else (rampartlaw04_KeysOrder.j2 kj25 l0 a1 (l0.length : Int) true)) = some r := H
                          have A54 := Aside0.mk A540
                          clear A540
                          by_cases c55 : t714 = true
                          · subst c55
                            have H1 : ((rampartlaw04_ownPairs.f t681).bind fun t715 => ((keys_Names.f kj25 t715).bind fun t718 => ((rampartlaw04_same.f kj25 t698 t718).bind fun t721 => (if t721 = true then ((rampartlaw04_own.f t698).bind fun t722 => ((keys_Valid.f kj25 t722).bind fun t725 => (if t725 = true then ((rampartlaw04_own.f t698).bind fun t726 => ((keys_Rising.f kj25 t726).bind fun t729 => (if t729 = true then (if (t681.length : Int) = (l0.length : Int) then (rampartlaw04_KeysOrder.j2 kj25 l0 a1 (l0.length : Int) ((t698.length : Int) != (l0.length : Int))) else (rampartlaw04_KeysOrder.j2 kj25 l0 a1 (l0.length : Int) true)) else (rampartlaw04_KeysOrder.j2 kj25 l0 a1 (l0.length : Int) true)))) else (rampartlaw04_KeysOrder.j2 kj25 l0 a1 (l0.length : Int) true)))) else (rampartlaw04_KeysOrder.j2 kj25 l0 a1 (l0.length : Int) true))))) = some r := by rw [if_pos rfl] at H; exact H
                            clear H
                            have H := H1
                            clear H1
                            replace H := Option.bind_eq_some_iff.mp H
                            obtain ⟨t715, A560, H⟩ := H
                            replace H : ((keys_Names.f kj25 t715).bind fun t718 => ((rampartlaw04_same.f kj25 t698 t718).bind fun t721 => (if t721 = true then ((rampartlaw04_own.f t698).bind fun t722 => ((keys_Valid.f kj25 t722).bind fun t725 => (if t725 = true then ((rampartlaw04_own.f t698).bind fun t726 => ((keys_Rising.f kj25 t726).bind fun t729 => (if t729 = true then (if (t681.length : Int) = (l0.length : Int) then (rampartlaw04_KeysOrder.j2 kj25 l0 a1 (l0.length : Int) ((t698.length : Int) != (l0.length : Int))) else (rampartlaw04_KeysOrder.j2 kj25 l0 a1 (l0.length : Int) true)) else (rampartlaw04_KeysOrder.j2 kj25 l0 a1 (l0.length : Int) true)))) else (rampartlaw04_KeysOrder.j2 kj25 l0 a1 (l0.length : Int) true)))) else (rampartlaw04_KeysOrder.j2 kj25 l0 a1 (l0.length : Int) true)))) = some r := H
                            have A56 := Aside0.mk A560
                            clear A560
                            replace H := Option.bind_eq_some_iff.mp H
                            obtain ⟨t718, A570, H⟩ := H
                            replace H : ((rampartlaw04_same.f kj25 t698 t718).bind fun t721 => (if t721 = true then ((rampartlaw04_own.f t698).bind fun t722 => ((keys_Valid.f kj25 t722).bind fun t725 => (if t725 = true then ((rampartlaw04_own.f t698).bind fun t726 => ((keys_Rising.f kj25 t726).bind fun t729 => (if t729 = true then (if (t681.length : Int) = (l0.length : Int) then (rampartlaw04_KeysOrder.j2 kj25 l0 a1 (l0.length : Int) ((t698.length : Int) != (l0.length : Int))) else (rampartlaw04_KeysOrder.j2 kj25 l0 a1 (l0.length : Int) true)) else (rampartlaw04_KeysOrder.j2 kj25 l0 a1 (l0.length : Int) true)))) else (rampartlaw04_KeysOrder.j2 kj25 l0 a1 (l0.length : Int) true)))) else (rampartlaw04_KeysOrder.j2 kj25 l0 a1 (l0.length : Int) true))) = some r := H
                            have A57 := Aside0.mk A570
                            clear A570
                            replace H := Option.bind_eq_some_iff.mp H
                            obtain ⟨t721, A580, H⟩ := H
                            replace H : (if t721 = true then ((rampartlaw04_own.f t698).bind fun t722 => ((keys_Valid.f kj25 t722).bind fun t725 => (if t725 = true then ((rampartlaw04_own.f t698).bind fun t726 => ((keys_Rising.f kj25 t726).bind fun t729 => (if t729 = true then (if (t681.length : Int) = (l0.length : Int) then (rampartlaw04_KeysOrder.j2 kj25 l0 a1 (l0.length : Int) ((t698.length : Int) != (l0.length : Int))) else (rampartlaw04_KeysOrder.j2 kj25 l0 a1 (l0.length : Int) true)) else (rampartlaw04_KeysOrder.j2 kj25 l0 a1 (l0.length : Int) true)))) else (rampartlaw04_KeysOrder.j2 kj25 l0 a1 (l0.length : Int) true)))) else (rampartlaw04_KeysOrder.j2 kj25 l0 a1 (l0.length : Int) true)) = some r := H
                            have A58 := Aside0.mk A580
                            clear A580
                            by_cases c59 : t721 = true
                            · subst c59
                              have H1 : ((rampartlaw04_own.f t698).bind fun t722 => ((keys_Valid.f kj25 t722).bind fun t725 => (if t725 = true then ((rampartlaw04_own.f t698).bind fun t726 => ((keys_Rising.f kj25 t726).bind fun t729 => (if t729 = true then (if (t681.length : Int) = (l0.length : Int) then (rampartlaw04_KeysOrder.j2 kj25 l0 a1 (l0.length : Int) ((t698.length : Int) != (l0.length : Int))) else (rampartlaw04_KeysOrder.j2 kj25 l0 a1 (l0.length : Int) true)) else (rampartlaw04_KeysOrder.j2 kj25 l0 a1 (l0.length : Int) true)))) else (rampartlaw04_KeysOrder.j2 kj25 l0 a1 (l0.length : Int) true)))) = some r := by rw [if_pos rfl] at H; exact H
                              clear H
                              have H := H1
                              clear H1
                              replace H := Option.bind_eq_some_iff.mp H
                              obtain ⟨t722, A600, H⟩ := H
                              replace H : ((keys_Valid.f kj25 t722).bind fun t725 => (if t725 = true then ((rampartlaw04_own.f t698).bind fun t726 => ((keys_Rising.f kj25 t726).bind fun t729 => (if t729 = true then (if (t681.length : Int) = (l0.length : Int) then (rampartlaw04_KeysOrder.j2 kj25 l0 a1 (l0.length : Int) ((t698.length : Int) != (l0.length : Int))) else (rampartlaw04_KeysOrder.j2 kj25 l0 a1 (l0.length : Int) true)) else (rampartlaw04_KeysOrder.j2 kj25 l0 a1 (l0.length : Int) true)))) else (rampartlaw04_KeysOrder.j2 kj25 l0 a1 (l0.length : Int) true))) = some r := H
                              have A60 := Aside0.mk A600
                              clear A600
                              replace H := Option.bind_eq_some_iff.mp H
                              obtain ⟨t725, A610, H⟩ := H
                              replace H : (if t725 = true then ((rampartlaw04_own.f t698).bind fun t726 => ((keys_Rising.f kj25 t726).bind fun t729 => (if t729 = true then (if (t681.length : Int) = (l0.length : Int) then (rampartlaw04_KeysOrder.j2 kj25 l0 a1 (l0.length : Int) ((t698.length : Int) != (l0.length : Int))) else (rampartlaw04_KeysOrder.j2 kj25 l0 a1 (l0.length : Int) true)) else (rampartlaw04_KeysOrder.j2 kj25 l0 a1 (l0.length : Int) true)))) else (rampartlaw04_KeysOrder.j2 kj25 l0 a1 (l0.length : Int) true)) = some r := H
                              have A61 := Aside0.mk A610
                              clear A610
                              by_cases c62 : t725 = true
                              · subst c62
                                have H1 : ((rampartlaw04_own.f t698).bind fun t726 => ((keys_Rising.f kj25 t726).bind fun t729 => (if t729 = true then (if (t681.length : Int) = (l0.length : Int) then (rampartlaw04_KeysOrder.j2 kj25 l0 a1 (l0.length : Int) ((t698.length : Int) != (l0.length : Int))) else (rampartlaw04_KeysOrder.j2 kj25 l0 a1 (l0.length : Int) true)) else (rampartlaw04_KeysOrder.j2 kj25 l0 a1 (l0.length : Int) true)))) = some r := by rw [if_pos rfl] at H; exact H
                                clear H
                                have H := H1
                                clear H1
                                replace H := Option.bind_eq_some_iff.mp H
                                obtain ⟨t726, A630, H⟩ := H
                                replace H : ((keys_Rising.f kj25 t726).bind fun t729 => (if t729 = true then (if (t681.length : Int) = (l0.length : Int) then (rampartlaw04_KeysOrder.j2 kj25 l0 a1 (l0.length : Int) ((t698.length : Int) != (l0.length : Int))) else (rampartlaw04_KeysOrder.j2 kj25 l0 a1 (l0.length : Int) true)) else (rampartlaw04_KeysOrder.j2 kj25 l0 a1 (l0.length : Int) true))) = some r := H
                                have A63 := Aside0.mk A630
                                clear A630
                                replace H := Option.bind_eq_some_iff.mp H
                                obtain ⟨t729, A640, H⟩ := H
                                replace H : (if t729 = true then (if (t681.length : Int) = (l0.length : Int) then (rampartlaw04_KeysOrder.j2 kj25 l0 a1 (l0.length : Int) ((t698.length : Int) != (l0.length : Int))) else (rampartlaw04_KeysOrder.j2 kj25 l0 a1 (l0.length : Int) true)) else (rampartlaw04_KeysOrder.j2 kj25 l0 a1 (l0.length : Int) true)) = some r := H
                                have A64 := Aside0.mk A640
                                clear A640
                                by_cases c65 : t729 = true
                                · subst c65
                                  have H1 : (if (t681.length : Int) = (l0.length : Int) then (rampartlaw04_KeysOrder.j2 kj25 l0 a1 (l0.length : Int) ((t698.length : Int) != (l0.length : Int))) else (rampartlaw04_KeysOrder.j2 kj25 l0 a1 (l0.length : Int) true)) = some r := by rw [if_pos rfl] at H; exact H
                                  clear H
                                  have H := H1
                                  clear H1
                                  by_cases c66 : (t681.length : Int) = (l0.length : Int)
                                  · rw [if_pos c66] at H
                                    have c66b0 : ((t681.length : Int) == (l0.length : Int)) = true := beq_iff_eq.mpr c66
                                    have c66b1 : ((t681.length : Int) != (l0.length : Int)) = false := bne_eq_false_iff_eq.mpr c66
                                    have c66b2 : (t681.length == l0.length) = true := by first | simpa using c66 | (simp at c66 ⊢; omega)
                                    clear c66
                                    have H' := Aside0.mk H
                                    clear H
                                    obtain ⟨Ao67, co67, eo67⟩ := Kd.R_slice HO713.out
                                    subst eo67
                                    go_wp2_with (first | ((fail_if_success have chk_ := uq49_); go_at_call 12; (with_reducible refine (rampartlaw04_same.calls kj25 _ _ t698 _ _ t710 true _ ?side1 ?side2 ?side3 ?side4 A54.out).mono ?_); (case side1 => repeat (first | exact (Kd.R_reads' HO_13.out).2.2 | (with_reducible refine Kd.C_alloc ?_ _) | (with_reducible refine Kd.C_drewN ?_ _) | (with_reducible refine Kd.C_drew ?_))); (case side2 => exact (Kd.R_reads' HO_13.out).2.1); (case side3 => repeat (first | exact (Kd.R_reads' HO713.out).2.2 | (with_reducible refine Kd.C_alloc ?_ _) | (with_reducible refine Kd.C_drewN ?_ _) | (with_reducible refine Kd.C_drew ?_))); (case side4 => exact (Kd.R_reads' HO713.out).2.1); rintro e w' ⟨rfl, ⟨nd, rfl⟩⟩; obtain ⟨Ao68, co68, eo68⟩ := Kd.R_slice HO_9.out; subst eo68; have uq49_ := True.intro) | ((fail_if_success have chk_ := uq50_); go_at_call 26; (with_reducible refine (rampartlaw04_ownPairs.calls _ _ t681 t715 _ ?side1 ?side2 A56.out).mono ?_); (case side1 => repeat (first | exact (Kd.R_reads' HO_9.out).2.2 | (with_reducible refine Kd.C_alloc ?_ _) | (with_reducible refine Kd.C_drewN ?_ _) | (with_reducible refine Kd.C_drew ?_))); (case side2 => exact (Kd.R_reads' HO_9.out).2.1); rintro e w69 ⟨v716, rfl, ho0, hb⟩; have n0_ := Aside0.mk (Kd.R_elder' (by (with_reducible repeat (first | apply Kd.R_alloc | apply Kd.R_drewN | apply Kd.R_drew)); exact HO_9.out) (Kd.R_base ho0) hb); have n1_ := Aside0.mk (Kd.R_below (by (with_reducible repeat (first | apply Kd.R_alloc | apply Kd.R_drewN | apply Kd.R_drew)); exact HO_13.out) hb); have n2_ := Aside0.mk (Kd.R_below (by (with_reducible repeat (first | apply Kd.R_alloc | apply Kd.R_drewN | apply Kd.R_drew)); exact HO709.out) hb); have n3_ := Aside0.mk (Kd.R_below (by (with_reducible repeat (first | apply Kd.R_alloc | apply Kd.R_drewN | apply Kd.R_drew)); exact HO713.out) hb); have n4_ := Aside0.mk (Kd.R_lower (Kd.R_new' ho0 (Kd.R_lt (by (with_reducible repeat (first | apply Kd.R_alloc | apply Kd.R_drewN | apply Kd.R_drew)); exact HO_9.out))) (below_size (by repeat (first | (with_reducible first | exact HB.out | apply below_alloc | apply pw_below_drewN | apply below_drew1) | exact HB.out)))); have n5_ := Aside0.mk (below_step (by repeat (first | (with_reducible first | exact HB.out | apply below_alloc | apply pw_below_drewN | apply below_drew1) | exact HB.out)) hb); clear HO_9; clear HO_13; clear HO709; clear HO713; clear HB; have HO_9 := n0_; have HO_13 := n1_; have HO709 := n2_; have HO713 := n3_; have HO717 := n4_; have HB := n5_; clear n0_ n1_ n2_ n3_ n4_ n5_; (try clear hb); (try clear hb2); (try clear hk); (try clear hi); (try clear ho0); obtain ⟨Ao70, co70, eo70⟩ := Kd.R_slice HO717.out; subst eo70; have uq50_ := True.intro) | ((fail_if_success have chk_ := uq51_); go_at_call 31; (with_reducible refine (keys_Names.calls kj25 _ _ t715 t718 _ ?side1 ?side2 A57.out).mono ?_); (case side1 => repeat (first | exact (Kd.R_reads' HO717.out).2.2 | (with_reducible refine Kd.C_alloc ?_ _) | (with_reducible refine Kd.C_drewN ?_ _) | (with_reducible refine Kd.C_drew ?_))); (case side2 => exact (Kd.R_reads' HO717.out).2.1); rintro e w71 ⟨v719, rfl, ho0, hb⟩; have n0_ := Aside0.mk (Kd.R_below (by (with_reducible repeat (first | apply Kd.R_alloc | apply Kd.R_drewN | apply Kd.R_drew)); exact HO_9.out) hb); have n1_ := Aside0.mk (Kd.R_elder' (by (with_reducible repeat (first | apply Kd.R_alloc | apply Kd.R_drewN | apply Kd.R_drew)); exact HO_13.out) (Kd.R_base ho0) hb); have n2_ := Aside0.mk (Kd.R_elder' (by (with_reducible repeat (first | apply Kd.R_alloc | apply Kd.R_drewN | apply Kd.R_drew)); exact HO709.out) (Kd.R_base ho0) hb); have n3_ := Aside0.mk (Kd.R_elder' (by (with_reducible repeat (first | apply Kd.R_alloc | apply Kd.R_drewN | apply Kd.R_drew)); exact HO713.out) (Kd.R_base ho0) hb); have n4_ := Aside0.mk (Kd.R_below (by (with_reducible repeat (first | apply Kd.R_alloc | apply Kd.R_drewN | apply Kd.R_drew)); exact HO717.out) hb); have n5_ := Aside0.mk (Kd.R_lower (Kd.R_new' (Kd.R_new' (Kd.R_new' ho0 (Kd.R_lt (by (with_reducible repeat (first | apply Kd.R_alloc | apply Kd.R_drewN | apply Kd.R_drew)); exact HO_13.out))) (Kd.R_lt (by (with_reducible repeat (first | apply Kd.R_alloc | apply Kd.R_drewN | apply Kd.R_drew)); exact HO709.out))) (Kd.R_lt (by (with_reducible repeat (first | apply Kd.R_alloc | apply Kd.R_drewN | apply Kd.R_drew)); exact HO713.out))) (below_size (by repeat (first | (with_reducible first | exact HB.out | apply below_alloc | apply pw_below_drewN | apply below_drew1) | exact HB.out)))); have n6_ := Aside0.mk (below_step (by repeat (first | (with_reducible first | exact HB.out | apply below_alloc | apply pw_below_drewN | apply below_drew1) | exact HB.out)) hb); clear HO_9; clear HO_13; clear HO709; clear HO713; clear HO717; clear HB; have HO_9 := n0_; have HO_13 := n1_; have HO709 := n2_; have HO713 := n3_; have HO717 := n4_; have HO720 := n5_; have HB := n6_; clear n0_ n1_ n2_ n3_ n4_ n5_ n6_; (try clear hb); (try clear hb2); (try clear hk); (try clear hi); (try clear ho0); obtain ⟨Ao72, co72, eo72⟩ := Kd.R_slice HO720.out; subst eo72; have uq51_ := True.intro) | ((fail_if_success have chk_ := uq52_); go_at_call 12; (with_reducible refine (rampartlaw04_same.calls kj25 _ _ t698 _ _ t718 true _ ?side1 ?side2 ?side3 ?side4 A58.out).mono ?_); (case side1 => repeat (first | exact (Kd.R_reads' HO_13.out).2.2 | (with_reducible refine Kd.C_alloc ?_ _) | (with_reducible refine Kd.C_drewN ?_ _) | (with_reducible refine Kd.C_drew ?_))); (case side2 => exact (Kd.R_reads' HO_13.out).2.1); (case side3 => repeat (first | exact (Kd.R_reads' HO720.out).2.2 | (with_reducible refine Kd.C_alloc ?_ _) | (with_reducible refine Kd.C_drewN ?_ _) | (with_reducible refine Kd.C_drew ?_))); (case side4 => exact (Kd.R_reads' HO720.out).2.1); rintro e w' ⟨rfl, ⟨nd, rfl⟩⟩; have uq52_ := True.intro) | ((fail_if_success have chk_ := uq53_); go_at_call 10; (with_reducible refine (rampartlaw04_own.calls _ _ t698 t722 _ ?side1 ?side2 A60.out).mono ?_); (case side1 => repeat (first | exact (Kd.R_reads' HO_13.out).2.2 | (with_reducible refine Kd.C_alloc ?_ _) | (with_reducible refine Kd.C_drewN ?_ _) | (with_reducible refine Kd.C_drew ?_))); (case side2 => exact (Kd.R_reads' HO_13.out).2.1); rintro e w73 ⟨v723, rfl, ho0, hb⟩; have n0_ := Aside0.mk (Kd.R_below (by (with_reducible repeat (first | apply Kd.R_alloc | apply Kd.R_drewN | apply Kd.R_drew)); exact HO_9.out) hb); have n1_ := Aside0.mk (Kd.R_elder' (by (with_reducible repeat (first | apply Kd.R_alloc | apply Kd.R_drewN | apply Kd.R_drew)); exact HO_13.out) (Kd.R_base ho0) hb); have n2_ := Aside0.mk (Kd.R_elder' (by (with_reducible repeat (first | apply Kd.R_alloc | apply Kd.R_drewN | apply Kd.R_drew)); exact HO709.out) (Kd.R_base ho0) hb); have n3_ := Aside0.mk (Kd.R_elder' (by (with_reducible repeat (first | apply Kd.R_alloc | apply Kd.R_drewN | apply Kd.R_drew)); exact HO713.out) (Kd.R_base ho0) hb); have n4_ := Aside0.mk (Kd.R_below (by (with_reducible repeat (first | apply Kd.R_alloc | apply Kd.R_drewN | apply Kd.R_drew)); exact HO717.out) hb); have n5_ := Aside0.mk (Kd.R_elder' (by (with_reducible repeat (first | apply Kd.R_alloc | apply Kd.R_drewN | apply Kd.R_drew)); exact HO720.out) (Kd.R_base ho0) hb); have n6_ := Aside0.mk (Kd.R_lower (Kd.R_new' (Kd.R_new' (Kd.R_new' (Kd.R_new' ho0 (Kd.R_lt (by (with_reducible repeat (first | apply Kd.R_alloc | apply Kd.R_drewN | apply Kd.R_drew)); exact HO_13.out))) (Kd.R_lt (by (with_reducible repeat (first | apply Kd.R_alloc | apply Kd.R_drewN | apply Kd.R_drew)); exact HO709.out))) (Kd.R_lt (by (with_reducible repeat (first | apply Kd.R_alloc | apply Kd.R_drewN | apply Kd.R_drew)); exact HO713.out))) (Kd.R_lt (by (with_reducible repeat (first | apply Kd.R_alloc | apply Kd.R_drewN | apply Kd.R_drew)); exact HO720.out))) (below_size (by repeat (first | (with_reducible first | exact HB.out | apply below_alloc | apply pw_below_drewN | apply below_drew1) | exact HB.out)))); have n7_ := Aside0.mk (below_step (by repeat (first | (with_reducible first | exact HB.out | apply below_alloc | apply pw_below_drewN | apply below_drew1) | exact HB.out)) hb); clear HO_9; clear HO_13; clear HO709; clear HO713; clear HO717; clear HO720; clear HB; have HO_9 := n0_; have HO_13 := n1_; have HO709 := n2_; have HO713 := n3_; have HO717 := n4_; have HO720 := n5_; have HO724 := n6_; have HB := n7_; clear n0_ n1_ n2_ n3_ n4_ n5_ n6_ n7_; (try clear hb); (try clear hb2); (try clear hk); (try clear hi); (try clear ho0); obtain ⟨Ao74, co74, eo74⟩ := Kd.R_slice HO724.out; subst eo74; have uq53_ := True.intro) | ((fail_if_success have chk_ := uq54_); go_at_call 13; (with_reducible refine (keys_Valid.calls kj25 _ _ t722 true _ ?side1 ?side2 A61.out).mono ?_); (case side1 => repeat (first | exact (Kd.R_reads' HO724.out).2.2 | (with_reducible refine Kd.C_alloc ?_ _) | (with_reducible refine Kd.C_drewN ?_ _) | (with_reducible refine Kd.C_drew ?_))); (case side2 => exact (Kd.R_reads' HO724.out).2.1); rintro e w75 ⟨rfl, hb⟩; have n0_ := Aside0.mk (Kd.R_below (by (with_reducible repeat (first | apply Kd.R_alloc | apply Kd.R_drewN | apply Kd.R_drew)); exact HO_9.out) hb); have n1_ := Aside0.mk (Kd.R_below (by (with_reducible repeat (first | apply Kd.R_alloc | apply Kd.R_drewN | apply Kd.R_drew)); exact HO_13.out) hb); have n2_ := Aside0.mk (Kd.R_below (by (with_reducible repeat (first | apply Kd.R_alloc | apply Kd.R_drewN | apply Kd.R_drew)); exact HO709.out) hb); have n3_ := Aside0.mk (Kd.R_below (by (with_reducible repeat (first | apply Kd.R_alloc | apply Kd.R_drewN | apply Kd.R_drew)); exact HO713.out) hb); have n4_ := Aside0.mk (Kd.R_below (by (with_reducible repeat (first | apply Kd.R_alloc | apply Kd.R_drewN | apply Kd.R_drew)); exact HO717.out) hb); have n5_ := Aside0.mk (Kd.R_below (by (with_reducible repeat (first | apply Kd.R_alloc | apply Kd.R_drewN | apply Kd.R_drew)); exact HO720.out) hb); have n6_ := Aside0.mk (Kd.R_below (by (with_reducible repeat (first | apply Kd.R_alloc | apply Kd.R_drewN | apply Kd.R_drew)); exact HO724.out) hb); have n7_ := Aside0.mk (below_step (by repeat (first | (with_reducible first | exact HB.out | apply below_alloc | apply pw_below_drewN | apply below_drew1) | exact HB.out)) hb); clear HO_9; clear HO_13; clear HO709; clear HO713; clear HO717; clear HO720; clear HO724; clear HB; have HO_9 := n0_; have HO_13 := n1_; have HO709 := n2_; have HO713 := n3_; have HO717 := n4_; have HO720 := n5_; have HO724 := n6_; have HB := n7_; clear n0_ n1_ n2_ n3_ n4_ n5_ n6_ n7_; (try clear hb); (try clear hb2); (try clear hk); (try clear hi); have uq54_ := True.intro) | ((fail_if_success have chk_ := uq55_); go_at_call 10; (with_reducible refine (rampartlaw04_own.calls _ _ t698 t726 _ ?side1 ?side2 A63.out).mono ?_); (case side1 => repeat (first | exact (Kd.R_reads' HO_13.out).2.2 | (with_reducible refine Kd.C_alloc ?_ _) | (with_reducible refine Kd.C_drewN ?_ _) | (with_reducible refine Kd.C_drew ?_))); (case side2 => exact (Kd.R_reads' HO_13.out).2.1); rintro e w76 ⟨v727, rfl, ho0, hb⟩; have n0_ := Aside0.mk (Kd.R_below (by (with_reducible repeat (first | apply Kd.R_alloc | apply Kd.R_drewN | apply Kd.R_drew)); exact HO_9.out) hb); have n1_ := Aside0.mk (Kd.R_elder' (by (with_reducible repeat (first | apply Kd.R_alloc | apply Kd.R_drewN | apply Kd.R_drew)); exact HO_13.out) (Kd.R_base ho0) hb); have n2_ := Aside0.mk (Kd.R_elder' (by (with_reducible repeat (first | apply Kd.R_alloc | apply Kd.R_drewN | apply Kd.R_drew)); exact HO709.out) (Kd.R_base ho0) hb); have n3_ := Aside0.mk (Kd.R_elder' (by (with_reducible repeat (first | apply Kd.R_alloc | apply Kd.R_drewN | apply Kd.R_drew)); exact HO713.out) (Kd.R_base ho0) hb); have n4_ := Aside0.mk (Kd.R_below (by (with_reducible repeat (first | apply Kd.R_alloc | apply Kd.R_drewN | apply Kd.R_drew)); exact HO717.out) hb); have n5_ := Aside0.mk (Kd.R_elder' (by (with_reducible repeat (first | apply Kd.R_alloc | apply Kd.R_drewN | apply Kd.R_drew)); exact HO720.out) (Kd.R_base ho0) hb); have n6_ := Aside0.mk (Kd.R_elder' (by (with_reducible repeat (first | apply Kd.R_alloc | apply Kd.R_drewN | apply Kd.R_drew)); exact HO724.out) (Kd.R_base ho0) hb); have n7_ := Aside0.mk (Kd.R_lower (Kd.R_new' (Kd.R_new' (Kd.R_new' (Kd.R_new' (Kd.R_new' ho0 (Kd.R_lt (by (with_reducible repeat (first | apply Kd.R_alloc | apply Kd.R_drewN | apply Kd.R_drew)); exact HO_13.out))) (Kd.R_lt (by (with_reducible repeat (first | apply Kd.R_alloc | apply Kd.R_drewN | apply Kd.R_drew)); exact HO709.out))) (Kd.R_lt (by (with_reducible repeat (first | apply Kd.R_alloc | apply Kd.R_drewN | apply Kd.R_drew)); exact HO713.out))) (Kd.R_lt (by (with_reducible repeat (first | apply Kd.R_alloc | apply Kd.R_drewN | apply Kd.R_drew)); exact HO720.out))) (Kd.R_lt (by (with_reducible repeat (first | apply Kd.R_alloc | apply Kd.R_drewN | apply Kd.R_drew)); exact HO724.out))) (below_size (by repeat (first | (with_reducible first | exact HB.out | apply below_alloc | apply pw_below_drewN | apply below_drew1) | exact HB.out)))); have n8_ := Aside0.mk (below_step (by repeat (first | (with_reducible first | exact HB.out | apply below_alloc | apply pw_below_drewN | apply below_drew1) | exact HB.out)) hb); clear HO_9; clear HO_13; clear HO709; clear HO713; clear HO717; clear HO720; clear HO724; clear HB; have HO_9 := n0_; have HO_13 := n1_; have HO709 := n2_; have HO713 := n3_; have HO717 := n4_; have HO720 := n5_; have HO724 := n6_; have HO728 := n7_; have HB := n8_; clear n0_ n1_ n2_ n3_ n4_ n5_ n6_ n7_ n8_; (try clear hb); (try clear hb2); (try clear hk); (try clear hi); (try clear ho0); obtain ⟨Ao77, co77, eo77⟩ := Kd.R_slice HO728.out; subst eo77; have uq55_ := True.intro) | ((fail_if_success have chk_ := uq56_); go_at_call 15; (with_reducible refine (keys_Rising.calls kj25 _ _ t726 true _ ?side1 ?side2 A64.out).mono ?_); (case side1 => repeat (first | exact (Kd.R_reads' HO728.out).2.2 | (with_reducible refine Kd.C_alloc ?_ _) | (with_reducible refine Kd.C_drewN ?_ _) | (with_reducible refine Kd.C_drew ?_))); (case side2 => exact (Kd.R_reads' HO728.out).2.1); rintro e w' ⟨rfl, ⟨nd, rfl⟩⟩; have uq56_ := True.intro))
                                    go_meet
                                    case rel => exact ⟨_, (((t698.length : Int) != (l0.length : Int))), (by first | rfl | (simp; done) | (simp [*]; done)), H', ⟨by have := HK1.out; have := HJ25.out; first | omega | exact Nat.le_refl _⟩, ⟨by repeat (first | (with_reducible first | exact HB.out | apply below_alloc | apply pw_below_drewN | apply below_drew1) | exact HB.out)⟩⟩
                                  · rw [if_neg c66] at H
                                    have c66b0 : ((t681.length : Int) == (l0.length : Int)) = false := beq_eq_false_iff_ne.mpr c66
                                    have c66b1 : ((t681.length : Int) != (l0.length : Int)) = true := bne_iff_ne.mpr c66
                                    have c66b2 : (t681.length == l0.length) = false := by first | simpa using c66 | (simp at c66 ⊢; omega)
                                    have H' := Aside0.mk H
                                    clear H
                                    obtain ⟨Ao78, co78, eo78⟩ := Kd.R_slice HO713.out
                                    subst eo78
                                    go_wp2_with (first | ((fail_if_success have chk_ := uq57_); go_at_call 12; (with_reducible refine (rampartlaw04_same.calls kj25 _ _ t698 _ _ t710 true _ ?side1 ?side2 ?side3 ?side4 A54.out).mono ?_); (case side1 => repeat (first | exact (Kd.R_reads' HO_13.out).2.2 | (with_reducible refine Kd.C_alloc ?_ _) | (with_reducible refine Kd.C_drewN ?_ _) | (with_reducible refine Kd.C_drew ?_))); (case side2 => exact (Kd.R_reads' HO_13.out).2.1); (case side3 => repeat (first | exact (Kd.R_reads' HO713.out).2.2 | (with_reducible refine Kd.C_alloc ?_ _) | (with_reducible refine Kd.C_drewN ?_ _) | (with_reducible refine Kd.C_drew ?_))); (case side4 => exact (Kd.R_reads' HO713.out).2.1); rintro e w' ⟨rfl, ⟨nd, rfl⟩⟩; obtain ⟨Ao79, co79, eo79⟩ := Kd.R_slice HO_9.out; subst eo79; have uq57_ := True.intro) | ((fail_if_success have chk_ := uq58_); go_at_call 26; (with_reducible refine (rampartlaw04_ownPairs.calls _ _ t681 t715 _ ?side1 ?side2 A56.out).mono ?_); (case side1 => repeat (first | exact (Kd.R_reads' HO_9.out).2.2 | (with_reducible refine Kd.C_alloc ?_ _) | (with_reducible refine Kd.C_drewN ?_ _) | (with_reducible refine Kd.C_drew ?_))); (case side2 => exact (Kd.R_reads' HO_9.out).2.1); rintro e w80 ⟨v716, rfl, ho0, hb⟩; have n0_ := Aside0.mk (Kd.R_elder' (by (with_reducible repeat (first | apply Kd.R_alloc | apply Kd.R_drewN | apply Kd.R_drew)); exact HO_9.out) (Kd.R_base ho0) hb); have n1_ := Aside0.mk (Kd.R_below (by (with_reducible repeat (first | apply Kd.R_alloc | apply Kd.R_drewN | apply Kd.R_drew)); exact HO_13.out) hb); have n2_ := Aside0.mk (Kd.R_below (by (with_reducible repeat (first | apply Kd.R_alloc | apply Kd.R_drewN | apply Kd.R_drew)); exact HO709.out) hb); have n3_ := Aside0.mk (Kd.R_below (by (with_reducible repeat (first | apply Kd.R_alloc | apply Kd.R_drewN | apply Kd.R_drew)); exact HO713.out) hb); have n4_ := Aside0.mk (Kd.R_lower (Kd.R_new' ho0 (Kd.R_lt (by (with_reducible repeat (first | apply Kd.R_alloc | apply Kd.R_drewN | apply Kd.R_drew)); exact HO_9.out))) (below_size (by repeat (first | (with_reducible first | exact HB.out | apply below_alloc | apply pw_below_drewN | apply below_drew1) | exact HB.out)))); have n5_ := Aside0.mk (below_step (by repeat (first | (with_reducible first | exact HB.out | apply below_alloc | apply pw_below_drewN | apply below_drew1) | exact HB.out)) hb); clear HO_9; clear HO_13; clear HO709; clear HO713; clear HB; have HO_9 := n0_; have HO_13 := n1_; have HO709 := n2_; have HO713 := n3_; have HO717 := n4_; have HB := n5_; clear n0_ n1_ n2_ n3_ n4_ n5_; (try clear hb); (try clear hb2); (try clear hk); (try clear hi); (try clear ho0); obtain ⟨Ao81, co81, eo81⟩ := Kd.R_slice HO717.out; subst eo81; have uq58_ := True.intro) | ((fail_if_success have chk_ := uq59_); go_at_call 31; (with_reducible refine (keys_Names.calls kj25 _ _ t715 t718 _ ?side1 ?side2 A57.out).mono ?_); (case side1 => repeat (first | exact (Kd.R_reads' HO717.out).2.2 | (with_reducible refine Kd.C_alloc ?_ _) | (with_reducible refine Kd.C_drewN ?_ _) | (with_reducible refine Kd.C_drew ?_))); (case side2 => exact (Kd.R_reads' HO717.out).2.1); rintro e w82 ⟨v719, rfl, ho0, hb⟩; have n0_ := Aside0.mk (Kd.R_below (by (with_reducible repeat (first | apply Kd.R_alloc | apply Kd.R_drewN | apply Kd.R_drew)); exact HO_9.out) hb); have n1_ := Aside0.mk (Kd.R_elder' (by (with_reducible repeat (first | apply Kd.R_alloc | apply Kd.R_drewN | apply Kd.R_drew)); exact HO_13.out) (Kd.R_base ho0) hb); have n2_ := Aside0.mk (Kd.R_elder' (by (with_reducible repeat (first | apply Kd.R_alloc | apply Kd.R_drewN | apply Kd.R_drew)); exact HO709.out) (Kd.R_base ho0) hb); have n3_ := Aside0.mk (Kd.R_elder' (by (with_reducible repeat (first | apply Kd.R_alloc | apply Kd.R_drewN | apply Kd.R_drew)); exact HO713.out) (Kd.R_base ho0) hb); have n4_ := Aside0.mk (Kd.R_below (by (with_reducible repeat (first | apply Kd.R_alloc | apply Kd.R_drewN | apply Kd.R_drew)); exact HO717.out) hb); have n5_ := Aside0.mk (Kd.R_lower (Kd.R_new' (Kd.R_new' (Kd.R_new' ho0 (Kd.R_lt (by (with_reducible repeat (first | apply Kd.R_alloc | apply Kd.R_drewN | apply Kd.R_drew)); exact HO_13.out))) (Kd.R_lt (by (with_reducible repeat (first | apply Kd.R_alloc | apply Kd.R_drewN | apply Kd.R_drew)); exact HO709.out))) (Kd.R_lt (by (with_reducible repeat (first | apply Kd.R_alloc | apply Kd.R_drewN | apply Kd.R_drew)); exact HO713.out))) (below_size (by repeat (first | (with_reducible first | exact HB.out | apply below_alloc | apply pw_below_drewN | apply below_drew1) | exact HB.out)))); have n6_ := Aside0.mk (below_step (by repeat (first | (with_reducible first | exact HB.out | apply below_alloc | apply pw_below_drewN | apply below_drew1) | exact HB.out)) hb); clear HO_9; clear HO_13; clear HO709; clear HO713; clear HO717; clear HB; have HO_9 := n0_; have HO_13 := n1_; have HO709 := n2_; have HO713 := n3_; have HO717 := n4_; have HO720 := n5_; have HB := n6_; clear n0_ n1_ n2_ n3_ n4_ n5_ n6_; (try clear hb); (try clear hb2); (try clear hk); (try clear hi); (try clear ho0); obtain ⟨Ao83, co83, eo83⟩ := Kd.R_slice HO720.out; subst eo83; have uq59_ := True.intro) | ((fail_if_success have chk_ := uq60_); go_at_call 12; (with_reducible refine (rampartlaw04_same.calls kj25 _ _ t698 _ _ t718 true _ ?side1 ?side2 ?side3 ?side4 A58.out).mono ?_); (case side1 => repeat (first | exact (Kd.R_reads' HO_13.out).2.2 | (with_reducible refine Kd.C_alloc ?_ _) | (with_reducible refine Kd.C_drewN ?_ _) | (with_reducible refine Kd.C_drew ?_))); (case side2 => exact (Kd.R_reads' HO_13.out).2.1); (case side3 => repeat (first | exact (Kd.R_reads' HO720.out).2.2 | (with_reducible refine Kd.C_alloc ?_ _) | (with_reducible refine Kd.C_drewN ?_ _) | (with_reducible refine Kd.C_drew ?_))); (case side4 => exact (Kd.R_reads' HO720.out).2.1); rintro e w' ⟨rfl, ⟨nd, rfl⟩⟩; have uq60_ := True.intro) | ((fail_if_success have chk_ := uq61_); go_at_call 10; (with_reducible refine (rampartlaw04_own.calls _ _ t698 t722 _ ?side1 ?side2 A60.out).mono ?_); (case side1 => repeat (first | exact (Kd.R_reads' HO_13.out).2.2 | (with_reducible refine Kd.C_alloc ?_ _) | (with_reducible refine Kd.C_drewN ?_ _) | (with_reducible refine Kd.C_drew ?_))); (case side2 => exact (Kd.R_reads' HO_13.out).2.1); rintro e w84 ⟨v723, rfl, ho0, hb⟩; have n0_ := Aside0.mk (Kd.R_below (by (with_reducible repeat (first | apply Kd.R_alloc | apply Kd.R_drewN | apply Kd.R_drew)); exact HO_9.out) hb); have n1_ := Aside0.mk (Kd.R_elder' (by (with_reducible repeat (first | apply Kd.R_alloc | apply Kd.R_drewN | apply Kd.R_drew)); exact HO_13.out) (Kd.R_base ho0) hb); have n2_ := Aside0.mk (Kd.R_elder' (by (with_reducible repeat (first | apply Kd.R_alloc | apply Kd.R_drewN | apply Kd.R_drew)); exact HO709.out) (Kd.R_base ho0) hb); have n3_ := Aside0.mk (Kd.R_elder' (by (with_reducible repeat (first | apply Kd.R_alloc | apply Kd.R_drewN | apply Kd.R_drew)); exact HO713.out) (Kd.R_base ho0) hb); have n4_ := Aside0.mk (Kd.R_below (by (with_reducible repeat (first | apply Kd.R_alloc | apply Kd.R_drewN | apply Kd.R_drew)); exact HO717.out) hb); have n5_ := Aside0.mk (Kd.R_elder' (by (with_reducible repeat (first | apply Kd.R_alloc | apply Kd.R_drewN | apply Kd.R_drew)); exact HO720.out) (Kd.R_base ho0) hb); have n6_ := Aside0.mk (Kd.R_lower (Kd.R_new' (Kd.R_new' (Kd.R_new' (Kd.R_new' ho0 (Kd.R_lt (by (with_reducible repeat (first | apply Kd.R_alloc | apply Kd.R_drewN | apply Kd.R_drew)); exact HO_13.out))) (Kd.R_lt (by (with_reducible repeat (first | apply Kd.R_alloc | apply Kd.R_drewN | apply Kd.R_drew)); exact HO709.out))) (Kd.R_lt (by (with_reducible repeat (first | apply Kd.R_alloc | apply Kd.R_drewN | apply Kd.R_drew)); exact HO713.out))) (Kd.R_lt (by (with_reducible repeat (first | apply Kd.R_alloc | apply Kd.R_drewN | apply Kd.R_drew)); exact HO720.out))) (below_size (by repeat (first | (with_reducible first | exact HB.out | apply below_alloc | apply pw_below_drewN | apply below_drew1) | exact HB.out)))); have n7_ := Aside0.mk (below_step (by repeat (first | (with_reducible first | exact HB.out | apply below_alloc | apply pw_below_drewN | apply below_drew1) | exact HB.out)) hb); clear HO_9; clear HO_13; clear HO709; clear HO713; clear HO717; clear HO720; clear HB; have HO_9 := n0_; have HO_13 := n1_; have HO709 := n2_; have HO713 := n3_; have HO717 := n4_; have HO720 := n5_; have HO724 := n6_; have HB := n7_; clear n0_ n1_ n2_ n3_ n4_ n5_ n6_ n7_; (try clear hb); (try clear hb2); (try clear hk); (try clear hi); (try clear ho0); obtain ⟨Ao85, co85, eo85⟩ := Kd.R_slice HO724.out; subst eo85; have uq61_ := True.intro) | ((fail_if_success have chk_ := uq62_); go_at_call 13; (with_reducible refine (keys_Valid.calls kj25 _ _ t722 true _ ?side1 ?side2 A61.out).mono ?_); (case side1 => repeat (first | exact (Kd.R_reads' HO724.out).2.2 | (with_reducible refine Kd.C_alloc ?_ _) | (with_reducible refine Kd.C_drewN ?_ _) | (with_reducible refine Kd.C_drew ?_))); (case side2 => exact (Kd.R_reads' HO724.out).2.1); rintro e w86 ⟨rfl, hb⟩; have n0_ := Aside0.mk (Kd.R_below (by (with_reducible repeat (first | apply Kd.R_alloc | apply Kd.R_drewN | apply Kd.R_drew)); exact HO_9.out) hb); have n1_ := Aside0.mk (Kd.R_below (by (with_reducible repeat (first | apply Kd.R_alloc | apply Kd.R_drewN | apply Kd.R_drew)); exact HO_13.out) hb); have n2_ := Aside0.mk (Kd.R_below (by (with_reducible repeat (first | apply Kd.R_alloc | apply Kd.R_drewN | apply Kd.R_drew)); exact HO709.out) hb); have n3_ := Aside0.mk (Kd.R_below (by (with_reducible repeat (first | apply Kd.R_alloc | apply Kd.R_drewN | apply Kd.R_drew)); exact HO713.out) hb); have n4_ := Aside0.mk (Kd.R_below (by (with_reducible repeat (first | apply Kd.R_alloc | apply Kd.R_drewN | apply Kd.R_drew)); exact HO717.out) hb); have n5_ := Aside0.mk (Kd.R_below (by (with_reducible repeat (first | apply Kd.R_alloc | apply Kd.R_drewN | apply Kd.R_drew)); exact HO720.out) hb); have n6_ := Aside0.mk (Kd.R_below (by (with_reducible repeat (first | apply Kd.R_alloc | apply Kd.R_drewN | apply Kd.R_drew)); exact HO724.out) hb); have n7_ := Aside0.mk (below_step (by repeat (first | (with_reducible first | exact HB.out | apply below_alloc | apply pw_below_drewN | apply below_drew1) | exact HB.out)) hb); clear HO_9; clear HO_13; clear HO709; clear HO713; clear HO717; clear HO720; clear HO724; clear HB; have HO_9 := n0_; have HO_13 := n1_; have HO709 := n2_; have HO713 := n3_; have HO717 := n4_; have HO720 := n5_; have HO724 := n6_; have HB := n7_; clear n0_ n1_ n2_ n3_ n4_ n5_ n6_ n7_; (try clear hb); (try clear hb2); (try clear hk); (try clear hi); have uq62_ := True.intro) | ((fail_if_success have chk_ := uq63_); go_at_call 10; (with_reducible refine (rampartlaw04_own.calls _ _ t698 t726 _ ?side1 ?side2 A63.out).mono ?_); (case side1 => repeat (first | exact (Kd.R_reads' HO_13.out).2.2 | (with_reducible refine Kd.C_alloc ?_ _) | (with_reducible refine Kd.C_drewN ?_ _) | (with_reducible refine Kd.C_drew ?_))); (case side2 => exact (Kd.R_reads' HO_13.out).2.1); rintro e w87 ⟨v727, rfl, ho0, hb⟩; have n0_ := Aside0.mk (Kd.R_below (by (with_reducible repeat (first | apply Kd.R_alloc | apply Kd.R_drewN | apply Kd.R_drew)); exact HO_9.out) hb); have n1_ := Aside0.mk (Kd.R_elder' (by (with_reducible repeat (first | apply Kd.R_alloc | apply Kd.R_drewN | apply Kd.R_drew)); exact HO_13.out) (Kd.R_base ho0) hb); have n2_ := Aside0.mk (Kd.R_elder' (by (with_reducible repeat (first | apply Kd.R_alloc | apply Kd.R_drewN | apply Kd.R_drew)); exact HO709.out) (Kd.R_base ho0) hb); have n3_ := Aside0.mk (Kd.R_elder' (by (with_reducible repeat (first | apply Kd.R_alloc | apply Kd.R_drewN | apply Kd.R_drew)); exact HO713.out) (Kd.R_base ho0) hb); have n4_ := Aside0.mk (Kd.R_below (by (with_reducible repeat (first | apply Kd.R_alloc | apply Kd.R_drewN | apply Kd.R_drew)); exact HO717.out) hb); have n5_ := Aside0.mk (Kd.R_elder' (by (with_reducible repeat (first | apply Kd.R_alloc | apply Kd.R_drewN | apply Kd.R_drew)); exact HO720.out) (Kd.R_base ho0) hb); have n6_ := Aside0.mk (Kd.R_elder' (by (with_reducible repeat (first | apply Kd.R_alloc | apply Kd.R_drewN | apply Kd.R_drew)); exact HO724.out) (Kd.R_base ho0) hb); have n7_ := Aside0.mk (Kd.R_lower (Kd.R_new' (Kd.R_new' (Kd.R_new' (Kd.R_new' (Kd.R_new' ho0 (Kd.R_lt (by (with_reducible repeat (first | apply Kd.R_alloc | apply Kd.R_drewN | apply Kd.R_drew)); exact HO_13.out))) (Kd.R_lt (by (with_reducible repeat (first | apply Kd.R_alloc | apply Kd.R_drewN | apply Kd.R_drew)); exact HO709.out))) (Kd.R_lt (by (with_reducible repeat (first | apply Kd.R_alloc | apply Kd.R_drewN | apply Kd.R_drew)); exact HO713.out))) (Kd.R_lt (by (with_reducible repeat (first | apply Kd.R_alloc | apply Kd.R_drewN | apply Kd.R_drew)); exact HO720.out))) (Kd.R_lt (by (with_reducible repeat (first | apply Kd.R_alloc | apply Kd.R_drewN | apply Kd.R_drew)); exact HO724.out))) (below_size (by repeat (first | (with_reducible first | exact HB.out | apply below_alloc | apply pw_below_drewN | apply below_drew1) | exact HB.out)))); have n8_ := Aside0.mk (below_step (by repeat (first | (with_reducible first | exact HB.out | apply below_alloc | apply pw_below_drewN | apply below_drew1) | exact HB.out)) hb); clear HO_9; clear HO_13; clear HO709; clear HO713; clear HO717; clear HO720; clear HO724; clear HB; have HO_9 := n0_; have HO_13 := n1_; have HO709 := n2_; have HO713 := n3_; have HO717 := n4_; have HO720 := n5_; have HO724 := n6_; have HO728 := n7_; have HB := n8_; clear n0_ n1_ n2_ n3_ n4_ n5_ n6_ n7_ n8_; (try clear hb); (try clear hb2); (try clear hk); (try clear hi); (try clear ho0); obtain ⟨Ao88, co88, eo88⟩ := Kd.R_slice HO728.out; subst eo88; have uq63_ := True.intro) | ((fail_if_success have chk_ := uq64_); go_at_call 15; (with_reducible refine (keys_Rising.calls kj25 _ _ t726 true _ ?side1 ?side2 A64.out).mono ?_); (case side1 => repeat (first | exact (Kd.R_reads' HO728.out).2.2 | (with_reducible refine Kd.C_alloc ?_ _) | (with_reducible refine Kd.C_drewN ?_ _) | (with_reducible refine Kd.C_drew ?_))); (case side2 => exact (Kd.R_reads' HO728.out).2.1); rintro e w' ⟨rfl, ⟨nd, rfl⟩⟩; have uq64_ := True.intro))
                                    go_meet
                                    case rel => exact ⟨_, (true), (by first | rfl | (simp; done) | (simp [*]; done)), H', ⟨by have := HK1.out; have := HJ25.out; first | omega | exact Nat.le_refl _⟩, ⟨by repeat (first | (with_reducible first | exact HB.out | apply below_alloc | apply pw_below_drewN | apply below_drew1) | exact HB.out)⟩⟩
                                · replace c65 := Bool.eq_false_iff.mpr c65
                                  subst c65
                                  have H1 : (rampartlaw04_KeysOrder.j2 kj25 l0 a1 (l0.length : Int) true) = some r := by rw [if_neg (show ¬ (false = true) by decide)] at H; exact H
                                  clear H
                                  have H := H1
                                  clear H1
                                  have H' := Aside0.mk H
                                  clear H
                                  obtain ⟨Ao89, co89, eo89⟩ := Kd.R_slice HO713.out
                                  subst eo89
                                  go_wp2_with (first | ((fail_if_success have chk_ := uq65_); go_at_call 12; (with_reducible refine (rampartlaw04_same.calls kj25 _ _ t698 _ _ t710 true _ ?side1 ?side2 ?side3 ?side4 A54.out).mono ?_); (case side1 => repeat (first | exact (Kd.R_reads' HO_13.out).2.2 | (with_reducible refine Kd.C_alloc ?_ _) | (with_reducible refine Kd.C_drewN ?_ _) | (with_reducible refine Kd.C_drew ?_))); (case side2 => exact (Kd.R_reads' HO_13.out).2.1); (case side3 => repeat (first | exact (Kd.R_reads' HO713.out).2.2 | (with_reducible refine Kd.C_alloc ?_ _) | (with_reducible refine Kd.C_drewN ?_ _) | (with_reducible refine Kd.C_drew ?_))); (case side4 => exact (Kd.R_reads' HO713.out).2.1); rintro e w' ⟨rfl, ⟨nd, rfl⟩⟩; obtain ⟨Ao90, co90, eo90⟩ := Kd.R_slice HO_9.out; subst eo90; have uq65_ := True.intro) | ((fail_if_success have chk_ := uq66_); go_at_call 26; (with_reducible refine (rampartlaw04_ownPairs.calls _ _ t681 t715 _ ?side1 ?side2 A56.out).mono ?_); (case side1 => repeat (first | exact (Kd.R_reads' HO_9.out).2.2 | (with_reducible refine Kd.C_alloc ?_ _) | (with_reducible refine Kd.C_drewN ?_ _) | (with_reducible refine Kd.C_drew ?_))); (case side2 => exact (Kd.R_reads' HO_9.out).2.1); rintro e w91 ⟨v716, rfl, ho0, hb⟩; have n0_ := Aside0.mk (Kd.R_elder' (by (with_reducible repeat (first | apply Kd.R_alloc | apply Kd.R_drewN | apply Kd.R_drew)); exact HO_9.out) (Kd.R_base ho0) hb); have n1_ := Aside0.mk (Kd.R_below (by (with_reducible repeat (first | apply Kd.R_alloc | apply Kd.R_drewN | apply Kd.R_drew)); exact HO_13.out) hb); have n2_ := Aside0.mk (Kd.R_below (by (with_reducible repeat (first | apply Kd.R_alloc | apply Kd.R_drewN | apply Kd.R_drew)); exact HO709.out) hb); have n3_ := Aside0.mk (Kd.R_below (by (with_reducible repeat (first | apply Kd.R_alloc | apply Kd.R_drewN | apply Kd.R_drew)); exact HO713.out) hb); have n4_ := Aside0.mk (Kd.R_lower (Kd.R_new' ho0 (Kd.R_lt (by (with_reducible repeat (first | apply Kd.R_alloc | apply Kd.R_drewN | apply Kd.R_drew)); exact HO_9.out))) (below_size (by repeat (first | (with_reducible first | exact HB.out | apply below_alloc | apply pw_below_drewN | apply below_drew1) | exact HB.out)))); have n5_ := Aside0.mk (below_step (by repeat (first | (with_reducible first | exact HB.out | apply below_alloc | apply pw_below_drewN | apply below_drew1) | exact HB.out)) hb); clear HO_9; clear HO_13; clear HO709; clear HO713; clear HB; have HO_9 := n0_; have HO_13 := n1_; have HO709 := n2_; have HO713 := n3_; have HO717 := n4_; have HB := n5_; clear n0_ n1_ n2_ n3_ n4_ n5_; (try clear hb); (try clear hb2); (try clear hk); (try clear hi); (try clear ho0); obtain ⟨Ao92, co92, eo92⟩ := Kd.R_slice HO717.out; subst eo92; have uq66_ := True.intro) | ((fail_if_success have chk_ := uq67_); go_at_call 31; (with_reducible refine (keys_Names.calls kj25 _ _ t715 t718 _ ?side1 ?side2 A57.out).mono ?_); (case side1 => repeat (first | exact (Kd.R_reads' HO717.out).2.2 | (with_reducible refine Kd.C_alloc ?_ _) | (with_reducible refine Kd.C_drewN ?_ _) | (with_reducible refine Kd.C_drew ?_))); (case side2 => exact (Kd.R_reads' HO717.out).2.1); rintro e w93 ⟨v719, rfl, ho0, hb⟩; have n0_ := Aside0.mk (Kd.R_below (by (with_reducible repeat (first | apply Kd.R_alloc | apply Kd.R_drewN | apply Kd.R_drew)); exact HO_9.out) hb); have n1_ := Aside0.mk (Kd.R_elder' (by (with_reducible repeat (first | apply Kd.R_alloc | apply Kd.R_drewN | apply Kd.R_drew)); exact HO_13.out) (Kd.R_base ho0) hb); have n2_ := Aside0.mk (Kd.R_elder' (by (with_reducible repeat (first | apply Kd.R_alloc | apply Kd.R_drewN | apply Kd.R_drew)); exact HO709.out) (Kd.R_base ho0) hb); have n3_ := Aside0.mk (Kd.R_elder' (by (with_reducible repeat (first | apply Kd.R_alloc | apply Kd.R_drewN | apply Kd.R_drew)); exact HO713.out) (Kd.R_base ho0) hb); have n4_ := Aside0.mk (Kd.R_below (by (with_reducible repeat (first | apply Kd.R_alloc | apply Kd.R_drewN | apply Kd.R_drew)); exact HO717.out) hb); have n5_ := Aside0.mk (Kd.R_lower (Kd.R_new' (Kd.R_new' (Kd.R_new' ho0 (Kd.R_lt (by (with_reducible repeat (first | apply Kd.R_alloc | apply Kd.R_drewN | apply Kd.R_drew)); exact HO_13.out))) (Kd.R_lt (by (with_reducible repeat (first | apply Kd.R_alloc | apply Kd.R_drewN | apply Kd.R_drew)); exact HO709.out))) (Kd.R_lt (by (with_reducible repeat (first | apply Kd.R_alloc | apply Kd.R_drewN | apply Kd.R_drew)); exact HO713.out))) (below_size (by repeat (first | (with_reducible first | exact HB.out | apply below_alloc | apply pw_below_drewN | apply below_drew1) | exact HB.out)))); have n6_ := Aside0.mk (below_step (by repeat (first | (with_reducible first | exact HB.out | apply below_alloc | apply pw_below_drewN | apply below_drew1) | exact HB.out)) hb); clear HO_9; clear HO_13; clear HO709; clear HO713; clear HO717; clear HB; have HO_9 := n0_; have HO_13 := n1_; have HO709 := n2_; have HO713 := n3_; have HO717 := n4_; have HO720 := n5_; have HB := n6_; clear n0_ n1_ n2_ n3_ n4_ n5_ n6_; (try clear hb); (try clear hb2); (try clear hk); (try clear hi); (try clear ho0); obtain ⟨Ao94, co94, eo94⟩ := Kd.R_slice HO720.out; subst eo94; have uq67_ := True.intro) | ((fail_if_success have chk_ := uq68_); go_at_call 12; (with_reducible refine (rampartlaw04_same.calls kj25 _ _ t698 _ _ t718 true _ ?side1 ?side2 ?side3 ?side4 A58.out).mono ?_); (case side1 => repeat (first | exact (Kd.R_reads' HO_13.out).2.2 | (with_reducible refine Kd.C_alloc ?_ _) | (with_reducible refine Kd.C_drewN ?_ _) | (with_reducible refine Kd.C_drew ?_))); (case side2 => exact (Kd.R_reads' HO_13.out).2.1); (case side3 => repeat (first | exact (Kd.R_reads' HO720.out).2.2 | (with_reducible refine Kd.C_alloc ?_ _) | (with_reducible refine Kd.C_drewN ?_ _) | (with_reducible refine Kd.C_drew ?_))); (case side4 => exact (Kd.R_reads' HO720.out).2.1); rintro e w' ⟨rfl, ⟨nd, rfl⟩⟩; have uq68_ := True.intro) | ((fail_if_success have chk_ := uq69_); go_at_call 10; (with_reducible refine (rampartlaw04_own.calls _ _ t698 t722 _ ?side1 ?side2 A60.out).mono ?_); (case side1 => repeat (first | exact (Kd.R_reads' HO_13.out).2.2 | (with_reducible refine Kd.C_alloc ?_ _) | (with_reducible refine Kd.C_drewN ?_ _) | (with_reducible refine Kd.C_drew ?_))); (case side2 => exact (Kd.R_reads' HO_13.out).2.1); rintro e w95 ⟨v723, rfl, ho0, hb⟩; have n0_ := Aside0.mk (Kd.R_below (by (with_reducible repeat (first | apply Kd.R_alloc | apply Kd.R_drewN | apply Kd.R_drew)); exact HO_9.out) hb); have n1_ := Aside0.mk (Kd.R_elder' (by (with_reducible repeat (first | apply Kd.R_alloc | apply Kd.R_drewN | apply Kd.R_drew)); exact HO_13.out) (Kd.R_base ho0) hb); have n2_ := Aside0.mk (Kd.R_elder' (by (with_reducible repeat (first | apply Kd.R_alloc | apply Kd.R_drewN | apply Kd.R_drew)); exact HO709.out) (Kd.R_base ho0) hb); have n3_ := Aside0.mk (Kd.R_elder' (by (with_reducible repeat (first | apply Kd.R_alloc | apply Kd.R_drewN | apply Kd.R_drew)); exact HO713.out) (Kd.R_base ho0) hb); have n4_ := Aside0.mk (Kd.R_below (by (with_reducible repeat (first | apply Kd.R_alloc | apply Kd.R_drewN | apply Kd.R_drew)); exact HO717.out) hb); have n5_ := Aside0.mk (Kd.R_elder' (by (with_reducible repeat (first | apply Kd.R_alloc | apply Kd.R_drewN | apply Kd.R_drew)); exact HO720.out) (Kd.R_base ho0) hb); have n6_ := Aside0.mk (Kd.R_lower (Kd.R_new' (Kd.R_new' (Kd.R_new' (Kd.R_new' ho0 (Kd.R_lt (by (with_reducible repeat (first | apply Kd.R_alloc | apply Kd.R_drewN | apply Kd.R_drew)); exact HO_13.out))) (Kd.R_lt (by (with_reducible repeat (first | apply Kd.R_alloc | apply Kd.R_drewN | apply Kd.R_drew)); exact HO709.out))) (Kd.R_lt (by (with_reducible repeat (first | apply Kd.R_alloc | apply Kd.R_drewN | apply Kd.R_drew)); exact HO713.out))) (Kd.R_lt (by (with_reducible repeat (first | apply Kd.R_alloc | apply Kd.R_drewN | apply Kd.R_drew)); exact HO720.out))) (below_size (by repeat (first | (with_reducible first | exact HB.out | apply below_alloc | apply pw_below_drewN | apply below_drew1) | exact HB.out)))); have n7_ := Aside0.mk (below_step (by repeat (first | (with_reducible first | exact HB.out | apply below_alloc | apply pw_below_drewN | apply below_drew1) | exact HB.out)) hb); clear HO_9; clear HO_13; clear HO709; clear HO713; clear HO717; clear HO720; clear HB; have HO_9 := n0_; have HO_13 := n1_; have HO709 := n2_; have HO713 := n3_; have HO717 := n4_; have HO720 := n5_; have HO724 := n6_; have HB := n7_; clear n0_ n1_ n2_ n3_ n4_ n5_ n6_ n7_; (try clear hb); (try clear hb2); (try clear hk); (try clear hi); (try clear ho0); obtain ⟨Ao96, co96, eo96⟩ := Kd.R_slice HO724.out; subst eo96; have uq69_ := True.intro) | ((fail_if_success have chk_ := uq70_); go_at_call 13; (with_reducible refine (keys_Valid.calls kj25 _ _ t722 true _ ?side1 ?side2 A61.out).mono ?_); (case side1 => repeat (first | exact (Kd.R_reads' HO724.out).2.2 | (with_reducible refine Kd.C_alloc ?_ _) | (with_reducible refine Kd.C_drewN ?_ _) | (with_reducible refine Kd.C_drew ?_))); (case side2 => exact (Kd.R_reads' HO724.out).2.1); rintro e w97 ⟨rfl, hb⟩; have n0_ := Aside0.mk (Kd.R_below (by (with_reducible repeat (first | apply Kd.R_alloc | apply Kd.R_drewN | apply Kd.R_drew)); exact HO_9.out) hb); have n1_ := Aside0.mk (Kd.R_below (by (with_reducible repeat (first | apply Kd.R_alloc | apply Kd.R_drewN | apply Kd.R_drew)); exact HO_13.out) hb); have n2_ := Aside0.mk (Kd.R_below (by (with_reducible repeat (first | apply Kd.R_alloc | apply Kd.R_drewN | apply Kd.R_drew)); exact HO709.out) hb); have n3_ := Aside0.mk (Kd.R_below (by (with_reducible repeat (first | apply Kd.R_alloc | apply Kd.R_drewN | apply Kd.R_drew)); exact HO713.out) hb); have n4_ := Aside0.mk (Kd.R_below (by (with_reducible repeat (first | apply Kd.R_alloc | apply Kd.R_drewN | apply Kd.R_drew)); exact HO717.out) hb); have n5_ := Aside0.mk (Kd.R_below (by (with_reducible repeat (first | apply Kd.R_alloc | apply Kd.R_drewN | apply Kd.R_drew)); exact HO720.out) hb); have n6_ := Aside0.mk (Kd.R_below (by (with_reducible repeat (first | apply Kd.R_alloc | apply Kd.R_drewN | apply Kd.R_drew)); exact HO724.out) hb); have n7_ := Aside0.mk (below_step (by repeat (first | (with_reducible first | exact HB.out | apply below_alloc | apply pw_below_drewN | apply below_drew1) | exact HB.out)) hb); clear HO_9; clear HO_13; clear HO709; clear HO713; clear HO717; clear HO720; clear HO724; clear HB; have HO_9 := n0_; have HO_13 := n1_; have HO709 := n2_; have HO713 := n3_; have HO717 := n4_; have HO720 := n5_; have HO724 := n6_; have HB := n7_; clear n0_ n1_ n2_ n3_ n4_ n5_ n6_ n7_; (try clear hb); (try clear hb2); (try clear hk); (try clear hi); have uq70_ := True.intro) | ((fail_if_success have chk_ := uq71_); go_at_call 10; (with_reducible refine (rampartlaw04_own.calls _ _ t698 t726 _ ?side1 ?side2 A63.out).mono ?_); (case side1 => repeat (first | exact (Kd.R_reads' HO_13.out).2.2 | (with_reducible refine Kd.C_alloc ?_ _) | (with_reducible refine Kd.C_drewN ?_ _) | (with_reducible refine Kd.C_drew ?_))); (case side2 => exact (Kd.R_reads' HO_13.out).2.1); rintro e w98 ⟨v727, rfl, ho0, hb⟩; have n0_ := Aside0.mk (Kd.R_below (by (with_reducible repeat (first | apply Kd.R_alloc | apply Kd.R_drewN | apply Kd.R_drew)); exact HO_9.out) hb); have n1_ := Aside0.mk (Kd.R_elder' (by (with_reducible repeat (first | apply Kd.R_alloc | apply Kd.R_drewN | apply Kd.R_drew)); exact HO_13.out) (Kd.R_base ho0) hb); have n2_ := Aside0.mk (Kd.R_elder' (by (with_reducible repeat (first | apply Kd.R_alloc | apply Kd.R_drewN | apply Kd.R_drew)); exact HO709.out) (Kd.R_base ho0) hb); have n3_ := Aside0.mk (Kd.R_elder' (by (with_reducible repeat (first | apply Kd.R_alloc | apply Kd.R_drewN | apply Kd.R_drew)); exact HO713.out) (Kd.R_base ho0) hb); have n4_ := Aside0.mk (Kd.R_below (by (with_reducible repeat (first | apply Kd.R_alloc | apply Kd.R_drewN | apply Kd.R_drew)); exact HO717.out) hb); have n5_ := Aside0.mk (Kd.R_elder' (by (with_reducible repeat (first | apply Kd.R_alloc | apply Kd.R_drewN | apply Kd.R_drew)); exact HO720.out) (Kd.R_base ho0) hb); have n6_ := Aside0.mk (Kd.R_elder' (by (with_reducible repeat (first | apply Kd.R_alloc | apply Kd.R_drewN | apply Kd.R_drew)); exact HO724.out) (Kd.R_base ho0) hb); have n7_ := Aside0.mk (Kd.R_lower (Kd.R_new' (Kd.R_new' (Kd.R_new' (Kd.R_new' (Kd.R_new' ho0 (Kd.R_lt (by (with_reducible repeat (first | apply Kd.R_alloc | apply Kd.R_drewN | apply Kd.R_drew)); exact HO_13.out))) (Kd.R_lt (by (with_reducible repeat (first | apply Kd.R_alloc | apply Kd.R_drewN | apply Kd.R_drew)); exact HO709.out))) (Kd.R_lt (by (with_reducible repeat (first | apply Kd.R_alloc | apply Kd.R_drewN | apply Kd.R_drew)); exact HO713.out))) (Kd.R_lt (by (with_reducible repeat (first | apply Kd.R_alloc | apply Kd.R_drewN | apply Kd.R_drew)); exact HO720.out))) (Kd.R_lt (by (with_reducible repeat (first | apply Kd.R_alloc | apply Kd.R_drewN | apply Kd.R_drew)); exact HO724.out))) (below_size (by repeat (first | (with_reducible first | exact HB.out | apply below_alloc | apply pw_below_drewN | apply below_drew1) | exact HB.out)))); have n8_ := Aside0.mk (below_step (by repeat (first | (with_reducible first | exact HB.out | apply below_alloc | apply pw_below_drewN | apply below_drew1) | exact HB.out)) hb); clear HO_9; clear HO_13; clear HO709; clear HO713; clear HO717; clear HO720; clear HO724; clear HB; have HO_9 := n0_; have HO_13 := n1_; have HO709 := n2_; have HO713 := n3_; have HO717 := n4_; have HO720 := n5_; have HO724 := n6_; have HO728 := n7_; have HB := n8_; clear n0_ n1_ n2_ n3_ n4_ n5_ n6_ n7_ n8_; (try clear hb); (try clear hb2); (try clear hk); (try clear hi); (try clear ho0); obtain ⟨Ao99, co99, eo99⟩ := Kd.R_slice HO728.out; subst eo99; have uq71_ := True.intro) | ((fail_if_success have chk_ := uq72_); go_at_call 15; (with_reducible refine (keys_Rising.calls kj25 _ _ t726 false _ ?side1 ?side2 A64.out).mono ?_); (case side1 => repeat (first | exact (Kd.R_reads' HO728.out).2.2 | (with_reducible refine Kd.C_alloc ?_ _) | (with_reducible refine Kd.C_drewN ?_ _) | (with_reducible refine Kd.C_drew ?_))); (case side2 => exact (Kd.R_reads' HO728.out).2.1); rintro e w' ⟨rfl, ⟨nd, rfl⟩⟩; have uq72_ := True.intro))
                                  go_meet
                                  case rel => exact ⟨_, (true), (by first | rfl | (simp; done) | (simp [*]; done)), H', ⟨by have := HK1.out; have := HJ25.out; first | omega | exact Nat.le_refl _⟩, ⟨by repeat (first | (with_reducible first | exact HB.out | apply below_alloc | apply pw_below_drewN | apply below_drew1) | exact HB.out)⟩⟩
                              · replace c62 := Bool.eq_false_iff.mpr c62
                                subst c62
                                have H1 : (rampartlaw04_KeysOrder.j2 kj25 l0 a1 (l0.length : Int) true) = some r := by rw [if_neg (show ¬ (false = true) by decide)] at H; exact H
                                clear H
                                have H := H1
                                clear H1
                                have H' := Aside0.mk H
                                clear H
                                obtain ⟨Ao100, co100, eo100⟩ := Kd.R_slice HO713.out
                                subst eo100
                                go_wp2_with (first | ((fail_if_success have chk_ := uq73_); go_at_call 12; (with_reducible refine (rampartlaw04_same.calls kj25 _ _ t698 _ _ t710 true _ ?side1 ?side2 ?side3 ?side4 A54.out).mono ?_); (case side1 => repeat (first | exact (Kd.R_reads' HO_13.out).2.2 | (with_reducible refine Kd.C_alloc ?_ _) | (with_reducible refine Kd.C_drewN ?_ _) | (with_reducible refine Kd.C_drew ?_))); (case side2 => exact (Kd.R_reads' HO_13.out).2.1); (case side3 => repeat (first | exact (Kd.R_reads' HO713.out).2.2 | (with_reducible refine Kd.C_alloc ?_ _) | (with_reducible refine Kd.C_drewN ?_ _) | (with_reducible refine Kd.C_drew ?_))); (case side4 => exact (Kd.R_reads' HO713.out).2.1); rintro e w' ⟨rfl, ⟨nd, rfl⟩⟩; obtain ⟨Ao101, co101, eo101⟩ := Kd.R_slice HO_9.out; subst eo101; have uq73_ := True.intro) | ((fail_if_success have chk_ := uq74_); go_at_call 26; (with_reducible refine (rampartlaw04_ownPairs.calls _ _ t681 t715 _ ?side1 ?side2 A56.out).mono ?_); (case side1 => repeat (first | exact (Kd.R_reads' HO_9.out).2.2 | (with_reducible refine Kd.C_alloc ?_ _) | (with_reducible refine Kd.C_drewN ?_ _) | (with_reducible refine Kd.C_drew ?_))); (case side2 => exact (Kd.R_reads' HO_9.out).2.1); rintro e w102 ⟨v716, rfl, ho0, hb⟩; have n0_ := Aside0.mk (Kd.R_elder' (by (with_reducible repeat (first | apply Kd.R_alloc | apply Kd.R_drewN | apply Kd.R_drew)); exact HO_9.out) (Kd.R_base ho0) hb); have n1_ := Aside0.mk (Kd.R_below (by (with_reducible repeat (first | apply Kd.R_alloc | apply Kd.R_drewN | apply Kd.R_drew)); exact HO_13.out) hb); have n2_ := Aside0.mk (Kd.R_below (by (with_reducible repeat (first | apply Kd.R_alloc | apply Kd.R_drewN | apply Kd.R_drew)); exact HO709.out) hb); have n3_ := Aside0.mk (Kd.R_below (by (with_reducible repeat (first | apply Kd.R_alloc | apply Kd.R_drewN | apply Kd.R_drew)); exact HO713.out) hb); have n4_ := Aside0.mk (Kd.R_lower (Kd.R_new' ho0 (Kd.R_lt (by (with_reducible repeat (first | apply Kd.R_alloc | apply Kd.R_drewN | apply Kd.R_drew)); exact HO_9.out))) (below_size (by repeat (first | (with_reducible first | exact HB.out | apply below_alloc | apply pw_below_drewN | apply below_drew1) | exact HB.out)))); have n5_ := Aside0.mk (below_step (by repeat (first | (with_reducible first | exact HB.out | apply below_alloc | apply pw_below_drewN | apply below_drew1) | exact HB.out)) hb); clear HO_9; clear HO_13; clear HO709; clear HO713; clear HB; have HO_9 := n0_; have HO_13 := n1_; have HO709 := n2_; have HO713 := n3_; have HO717 := n4_; have HB := n5_; clear n0_ n1_ n2_ n3_ n4_ n5_; (try clear hb); (try clear hb2); (try clear hk); (try clear hi); (try clear ho0); obtain ⟨Ao103, co103, eo103⟩ := Kd.R_slice HO717.out; subst eo103; have uq74_ := True.intro) | ((fail_if_success have chk_ := uq75_); go_at_call 31; (with_reducible refine (keys_Names.calls kj25 _ _ t715 t718 _ ?side1 ?side2 A57.out).mono ?_); (case side1 => repeat (first | exact (Kd.R_reads' HO717.out).2.2 | (with_reducible refine Kd.C_alloc ?_ _) | (with_reducible refine Kd.C_drewN ?_ _) | (with_reducible refine Kd.C_drew ?_))); (case side2 => exact (Kd.R_reads' HO717.out).2.1); rintro e w104 ⟨v719, rfl, ho0, hb⟩; have n0_ := Aside0.mk (Kd.R_below (by (with_reducible repeat (first | apply Kd.R_alloc | apply Kd.R_drewN | apply Kd.R_drew)); exact HO_9.out) hb); have n1_ := Aside0.mk (Kd.R_elder' (by (with_reducible repeat (first | apply Kd.R_alloc | apply Kd.R_drewN | apply Kd.R_drew)); exact HO_13.out) (Kd.R_base ho0) hb); have n2_ := Aside0.mk (Kd.R_elder' (by (with_reducible repeat (first | apply Kd.R_alloc | apply Kd.R_drewN | apply Kd.R_drew)); exact HO709.out) (Kd.R_base ho0) hb); have n3_ := Aside0.mk (Kd.R_elder' (by (with_reducible repeat (first | apply Kd.R_alloc | apply Kd.R_drewN | apply Kd.R_drew)); exact HO713.out) (Kd.R_base ho0) hb); have n4_ := Aside0.mk (Kd.R_below (by (with_reducible repeat (first | apply Kd.R_alloc | apply Kd.R_drewN | apply Kd.R_drew)); exact HO717.out) hb); have n5_ := Aside0.mk (Kd.R_lower (Kd.R_new' (Kd.R_new' (Kd.R_new' ho0 (Kd.R_lt (by (with_reducible repeat (first | apply Kd.R_alloc | apply Kd.R_drewN | apply Kd.R_drew)); exact HO_13.out))) (Kd.R_lt (by (with_reducible repeat (first | apply Kd.R_alloc | apply Kd.R_drewN | apply Kd.R_drew)); exact HO709.out))) (Kd.R_lt (by (with_reducible repeat (first | apply Kd.R_alloc | apply Kd.R_drewN | apply Kd.R_drew)); exact HO713.out))) (below_size (by repeat (first | (with_reducible first | exact HB.out | apply below_alloc | apply pw_below_drewN | apply below_drew1) | exact HB.out)))); have n6_ := Aside0.mk (below_step (by repeat (first | (with_reducible first | exact HB.out | apply below_alloc | apply pw_below_drewN | apply below_drew1) | exact HB.out)) hb); clear HO_9; clear HO_13; clear HO709; clear HO713; clear HO717; clear HB; have HO_9 := n0_; have HO_13 := n1_; have HO709 := n2_; have HO713 := n3_; have HO717 := n4_; have HO720 := n5_; have HB := n6_; clear n0_ n1_ n2_ n3_ n4_ n5_ n6_; (try clear hb); (try clear hb2); (try clear hk); (try clear hi); (try clear ho0); obtain ⟨Ao105, co105, eo105⟩ := Kd.R_slice HO720.out; subst eo105; have uq75_ := True.intro) | ((fail_if_success have chk_ := uq76_); go_at_call 12; (with_reducible refine (rampartlaw04_same.calls kj25 _ _ t698 _ _ t718 true _ ?side1 ?side2 ?side3 ?side4 A58.out).mono ?_); (case side1 => repeat (first | exact (Kd.R_reads' HO_13.out).2.2 | (with_reducible refine Kd.C_alloc ?_ _) | (with_reducible refine Kd.C_drewN ?_ _) | (with_reducible refine Kd.C_drew ?_))); (case side2 => exact (Kd.R_reads' HO_13.out).2.1); (case side3 => repeat (first | exact (Kd.R_reads' HO720.out).2.2 | (with_reducible refine Kd.C_alloc ?_ _) | (with_reducible refine Kd.C_drewN ?_ _) | (with_reducible refine Kd.C_drew ?_))); (case side4 => exact (Kd.R_reads' HO720.out).2.1); rintro e w' ⟨rfl, ⟨nd, rfl⟩⟩; have uq76_ := True.intro) | ((fail_if_success have chk_ := uq77_); go_at_call 10; (with_reducible refine (rampartlaw04_own.calls _ _ t698 t722 _ ?side1 ?side2 A60.out).mono ?_); (case side1 => repeat (first | exact (Kd.R_reads' HO_13.out).2.2 | (with_reducible refine Kd.C_alloc ?_ _) | (with_reducible refine Kd.C_drewN ?_ _) | (with_reducible refine Kd.C_drew ?_))); (case side2 => exact (Kd.R_reads' HO_13.out).2.1); rintro e w106 ⟨v723, rfl, ho0, hb⟩; have n0_ := Aside0.mk (Kd.R_below (by (with_reducible repeat (first | apply Kd.R_alloc | apply Kd.R_drewN | apply Kd.R_drew)); exact HO_9.out) hb); have n1_ := Aside0.mk (Kd.R_elder' (by (with_reducible repeat (first | apply Kd.R_alloc | apply Kd.R_drewN | apply Kd.R_drew)); exact HO_13.out) (Kd.R_base ho0) hb); have n2_ := Aside0.mk (Kd.R_elder' (by (with_reducible repeat (first | apply Kd.R_alloc | apply Kd.R_drewN | apply Kd.R_drew)); exact HO709.out) (Kd.R_base ho0) hb); have n3_ := Aside0.mk (Kd.R_elder' (by (with_reducible repeat (first | apply Kd.R_alloc | apply Kd.R_drewN | apply Kd.R_drew)); exact HO713.out) (Kd.R_base ho0) hb); have n4_ := Aside0.mk (Kd.R_below (by (with_reducible repeat (first | apply Kd.R_alloc | apply Kd.R_drewN | apply Kd.R_drew)); exact HO717.out) hb); have n5_ := Aside0.mk (Kd.R_elder' (by (with_reducible repeat (first | apply Kd.R_alloc | apply Kd.R_drewN | apply Kd.R_drew)); exact HO720.out) (Kd.R_base ho0) hb); have n6_ := Aside0.mk (Kd.R_lower (Kd.R_new' (Kd.R_new' (Kd.R_new' (Kd.R_new' ho0 (Kd.R_lt (by (with_reducible repeat (first | apply Kd.R_alloc | apply Kd.R_drewN | apply Kd.R_drew)); exact HO_13.out))) (Kd.R_lt (by (with_reducible repeat (first | apply Kd.R_alloc | apply Kd.R_drewN | apply Kd.R_drew)); exact HO709.out))) (Kd.R_lt (by (with_reducible repeat (first | apply Kd.R_alloc | apply Kd.R_drewN | apply Kd.R_drew)); exact HO713.out))) (Kd.R_lt (by (with_reducible repeat (first | apply Kd.R_alloc | apply Kd.R_drewN | apply Kd.R_drew)); exact HO720.out))) (below_size (by repeat (first | (with_reducible first | exact HB.out | apply below_alloc | apply pw_below_drewN | apply below_drew1) | exact HB.out)))); have n7_ := Aside0.mk (below_step (by repeat (first | (with_reducible first | exact HB.out | apply below_alloc | apply pw_below_drewN | apply below_drew1) | exact HB.out)) hb); clear HO_9; clear HO_13; clear HO709; clear HO713; clear HO717; clear HO720; clear HB; have HO_9 := n0_; have HO_13 := n1_; have HO709 := n2_; have HO713 := n3_; have HO717 := n4_; have HO720 := n5_; have HO724 := n6_; have HB := n7_; clear n0_ n1_ n2_ n3_ n4_ n5_ n6_ n7_; (try clear hb); (try clear hb2); (try clear hk); (try clear hi); (try clear ho0); obtain ⟨Ao107, co107, eo107⟩ := Kd.R_slice HO724.out; subst eo107; have uq77_ := True.intro) | ((fail_if_success have chk_ := uq78_); go_at_call 13; (with_reducible refine (keys_Valid.calls kj25 _ _ t722 false _ ?side1 ?side2 A61.out).mono ?_); (case side1 => repeat (first | exact (Kd.R_reads' HO724.out).2.2 | (with_reducible refine Kd.C_alloc ?_ _) | (with_reducible refine Kd.C_drewN ?_ _) | (with_reducible refine Kd.C_drew ?_))); (case side2 => exact (Kd.R_reads' HO724.out).2.1); rintro e w108 ⟨rfl, hb⟩; have n0_ := Aside0.mk (Kd.R_below (by (with_reducible repeat (first | apply Kd.R_alloc | apply Kd.R_drewN | apply Kd.R_drew)); exact HO_9.out) hb); have n1_ := Aside0.mk (Kd.R_below (by (with_reducible repeat (first | apply Kd.R_alloc | apply Kd.R_drewN | apply Kd.R_drew)); exact HO_13.out) hb); have n2_ := Aside0.mk (Kd.R_below (by (with_reducible repeat (first | apply Kd.R_alloc | apply Kd.R_drewN | apply Kd.R_drew)); exact HO709.out) hb); have n3_ := Aside0.mk (Kd.R_below (by (with_reducible repeat (first | apply Kd.R_alloc | apply Kd.R_drewN | apply Kd.R_drew)); exact HO713.out) hb); have n4_ := Aside0.mk (Kd.R_below (by (with_reducible repeat (first | apply Kd.R_alloc | apply Kd.R_drewN | apply Kd.R_drew)); exact HO717.out) hb); have n5_ := Aside0.mk (Kd.R_below (by (with_reducible repeat (first | apply Kd.R_alloc | apply Kd.R_drewN | apply Kd.R_drew)); exact HO720.out) hb); have n6_ := Aside0.mk (Kd.R_below (by (with_reducible repeat (first | apply Kd.R_alloc | apply Kd.R_drewN | apply Kd.R_drew)); exact HO724.out) hb); have n7_ := Aside0.mk (below_step (by repeat (first | (with_reducible first | exact HB.out | apply below_alloc | apply pw_below_drewN | apply below_drew1) | exact HB.out)) hb); clear HO_9; clear HO_13; clear HO709; clear HO713; clear HO717; clear HO720; clear HO724; clear HB; have HO_9 := n0_; have HO_13 := n1_; have HO709 := n2_; have HO713 := n3_; have HO717 := n4_; have HO720 := n5_; have HO724 := n6_; have HB := n7_; clear n0_ n1_ n2_ n3_ n4_ n5_ n6_ n7_; (try clear hb); (try clear hb2); (try clear hk); (try clear hi); have uq78_ := True.intro))
                                go_meet
                                case rel => exact ⟨_, (true), (by first | rfl | (simp; done) | (simp [*]; done)), H', ⟨by have := HK1.out; have := HJ25.out; first | omega | exact Nat.le_refl _⟩, ⟨by repeat (first | (with_reducible first | exact HB.out | apply below_alloc | apply pw_below_drewN | apply below_drew1) | exact HB.out)⟩⟩
                            · replace c59 := Bool.eq_false_iff.mpr c59
                              subst c59
                              have H1 : (rampartlaw04_KeysOrder.j2 kj25 l0 a1 (l0.length : Int) true) = some r := by rw [if_neg (show ¬ (false = true) by decide)] at H; exact H
                              clear H
                              have H := H1
                              clear H1
                              have H' := Aside0.mk H
                              clear H
                              obtain ⟨Ao109, co109, eo109⟩ := Kd.R_slice HO713.out
                              subst eo109
                              go_wp2_with (first | ((fail_if_success have chk_ := uq79_); go_at_call 12; (with_reducible refine (rampartlaw04_same.calls kj25 _ _ t698 _ _ t710 true _ ?side1 ?side2 ?side3 ?side4 A54.out).mono ?_); (case side1 => repeat (first | exact (Kd.R_reads' HO_13.out).2.2 | (with_reducible refine Kd.C_alloc ?_ _) | (with_reducible refine Kd.C_drewN ?_ _) | (with_reducible refine Kd.C_drew ?_))); (case side2 => exact (Kd.R_reads' HO_13.out).2.1); (case side3 => repeat (first | exact (Kd.R_reads' HO713.out).2.2 | (with_reducible refine Kd.C_alloc ?_ _) | (with_reducible refine Kd.C_drewN ?_ _) | (with_reducible refine Kd.C_drew ?_))); (case side4 => exact (Kd.R_reads' HO713.out).2.1); rintro e w' ⟨rfl, ⟨nd, rfl⟩⟩; obtain ⟨Ao110, co110, eo110⟩ := Kd.R_slice HO_9.out; subst eo110; have uq79_ := True.intro) | ((fail_if_success have chk_ := uq80_); go_at_call 26; (with_reducible refine (rampartlaw04_ownPairs.calls _ _ t681 t715 _ ?side1 ?side2 A56.out).mono ?_); (case side1 => repeat (first | exact (Kd.R_reads' HO_9.out).2.2 | (with_reducible refine Kd.C_alloc ?_ _) | (with_reducible refine Kd.C_drewN ?_ _) | (with_reducible refine Kd.C_drew ?_))); (case side2 => exact (Kd.R_reads' HO_9.out).2.1); rintro e w111 ⟨v716, rfl, ho0, hb⟩; have n0_ := Aside0.mk (Kd.R_elder' (by (with_reducible repeat (first | apply Kd.R_alloc | apply Kd.R_drewN | apply Kd.R_drew)); exact HO_9.out) (Kd.R_base ho0) hb); have n1_ := Aside0.mk (Kd.R_below (by (with_reducible repeat (first | apply Kd.R_alloc | apply Kd.R_drewN | apply Kd.R_drew)); exact HO_13.out) hb); have n2_ := Aside0.mk (Kd.R_below (by (with_reducible repeat (first | apply Kd.R_alloc | apply Kd.R_drewN | apply Kd.R_drew)); exact HO709.out) hb); have n3_ := Aside0.mk (Kd.R_below (by (with_reducible repeat (first | apply Kd.R_alloc | apply Kd.R_drewN | apply Kd.R_drew)); exact HO713.out) hb); have n4_ := Aside0.mk (Kd.R_lower (Kd.R_new' ho0 (Kd.R_lt (by (with_reducible repeat (first | apply Kd.R_alloc | apply Kd.R_drewN | apply Kd.R_drew)); exact HO_9.out))) (below_size (by repeat (first | (with_reducible first | exact HB.out | apply below_alloc | apply pw_below_drewN | apply below_drew1) | exact HB.out)))); have n5_ := Aside0.mk (below_step (by repeat (first | (with_reducible first | exact HB.out | apply below_alloc | apply pw_below_drewN | apply below_drew1) | exact HB.out)) hb); clear HO_9; clear HO_13; clear HO709; clear HO713; clear HB; have HO_9 := n0_; have HO_13 := n1_; have HO709 := n2_; have HO713 := n3_; have HO717 := n4_; have HB := n5_; clear n0_ n1_ n2_ n3_ n4_ n5_; (try clear hb); (try clear hb2); (try clear hk); (try clear hi); (try clear ho0); obtain ⟨Ao112, co112, eo112⟩ := Kd.R_slice HO717.out; subst eo112; have uq80_ := True.intro) | ((fail_if_success have chk_ := uq81_); go_at_call 31; (with_reducible refine (keys_Names.calls kj25 _ _ t715 t718 _ ?side1 ?side2 A57.out).mono ?_); (case side1 => repeat (first | exact (Kd.R_reads' HO717.out).2.2 | (with_reducible refine Kd.C_alloc ?_ _) | (with_reducible refine Kd.C_drewN ?_ _) | (with_reducible refine Kd.C_drew ?_))); (case side2 => exact (Kd.R_reads' HO717.out).2.1); rintro e w113 ⟨v719, rfl, ho0, hb⟩; have n0_ := Aside0.mk (Kd.R_below (by (with_reducible repeat (first | apply Kd.R_alloc | apply Kd.R_drewN | apply Kd.R_drew)); exact HO_9.out) hb); have n1_ := Aside0.mk (Kd.R_elder' (by (with_reducible repeat (first | apply Kd.R_alloc | apply Kd.R_drewN | apply Kd.R_drew)); exact HO_13.out) (Kd.R_base ho0) hb); have n2_ := Aside0.mk (Kd.R_elder' (by (with_reducible repeat (first | apply Kd.R_alloc | apply Kd.R_drewN | apply Kd.R_drew)); exact HO709.out) (Kd.R_base ho0) hb); have n3_ := Aside0.mk (Kd.R_elder' (by (with_reducible repeat (first | apply Kd.R_alloc | apply Kd.R_drewN | apply Kd.R_drew)); exact HO713.out) (Kd.R_base ho0) hb); have n4_ := Aside0.mk (Kd.R_below (by (with_reducible repeat (first | apply Kd.R_alloc | apply Kd.R_drewN | apply Kd.R_drew)); exact HO717.out) hb); have n5_ := Aside0.mk (Kd.R_lower (Kd.R_new' (Kd.R_new' (Kd.R_new' ho0 (Kd.R_lt (by (with_reducible repeat (first | apply Kd.R_alloc | apply Kd.R_drewN | apply Kd.R_drew)); exact HO_13.out))) (Kd.R_lt (by (with_reducible repeat (first | apply Kd.R_alloc | apply Kd.R_drewN | apply Kd.R_drew)); exact HO709.out))) (Kd.R_lt (by (with_reducible repeat (first | apply Kd.R_alloc | apply Kd.R_drewN | apply Kd.R_drew)); exact HO713.out))) (below_size (by repeat (first | (with_reducible first | exact HB.out | apply below_alloc | apply pw_below_drewN | apply below_drew1) | exact HB.out)))); have n6_ := Aside0.mk (below_step (by repeat (first | (with_reducible first | exact HB.out | apply below_alloc | apply pw_below_drewN | apply below_drew1) | exact HB.out)) hb); clear HO_9; clear HO_13; clear HO709; clear HO713; clear HO717; clear HB; have HO_9 := n0_; have HO_13 := n1_; have HO709 := n2_; have HO713 := n3_; have HO717 := n4_; have HO720 := n5_; have HB := n6_; clear n0_ n1_ n2_ n3_ n4_ n5_ n6_; (try clear hb); (try clear hb2); (try clear hk); (try clear hi); (try clear ho0); obtain ⟨Ao114, co114, eo114⟩ := Kd.R_slice HO720.out; subst eo114; have uq81_ := True.intro) | ((fail_if_success have chk_ := uq82_); go_at_call 12; (with_reducible refine (rampartlaw04_same.calls kj25 _ _ t698 _ _ t718 false _ ?side1 ?side2 ?side3 ?side4 A58.out).mono ?_); (case side1 => repeat (first | exact (Kd.R_reads' HO_13.out).2.2 | (with_reducible refine Kd.C_alloc ?_ _) | (with_reducible refine Kd.C_drewN ?_ _) | (with_reducible refine Kd.C_drew ?_))); (case side2 => exact (Kd.R_reads' HO_13.out).2.1); (case side3 => repeat (first | exact (Kd.R_reads' HO720.out).2.2 | (with_reducible refine Kd.C_alloc ?_ _) | (with_reducible refine Kd.C_drewN ?_ _) | (with_reducible refine Kd.C_drew ?_))); (case side4 => exact (Kd.R_reads' HO720.out).2.1); rintro e w' ⟨rfl, ⟨nd, rfl⟩⟩; have uq82_ := True.intro))
                              go_meet
                              case rel => exact ⟨_, (true), (by first | rfl | (simp; done) | (simp [*]; done)), H', ⟨by have := HK1.out; have := HJ25.out; first | omega | exact Nat.le_refl _⟩, ⟨by repeat (first | (with_reducible first | exact HB.out | apply below_alloc | apply pw_below_drewN | apply below_drew1) | exact HB.out)⟩⟩
                          · replace c55 := Bool.eq_false_iff.mpr c55
                            subst c55
                            have H1 : (rampartlaw04_KeysOrder.j2 kj25 l0 a1 (l0.length : Int) true) = some r := by rw [if_neg (show ¬ (false = true) by decide)] at H; exact H
                            clear H
                            have H := H1
                            clear H1
                            have H' := Aside0.mk H
                            clear H
                            obtain ⟨Ao115, co115, eo115⟩ := Kd.R_slice HO713.out
                            subst eo115
                            go_wp2_with (first | (go_at_call 12; (with_reducible refine (rampartlaw04_same.calls kj25 _ _ t698 _ _ t710 false _ ?side1 ?side2 ?side3 ?side4 A54.out).mono ?_); (case side1 => repeat (first | exact (Kd.R_reads' HO_13.out).2.2 | (with_reducible refine Kd.C_alloc ?_ _) | (with_reducible refine Kd.C_drewN ?_ _) | (with_reducible refine Kd.C_drew ?_))); (case side2 => exact (Kd.R_reads' HO_13.out).2.1); (case side3 => repeat (first | exact (Kd.R_reads' HO713.out).2.2 | (with_reducible refine Kd.C_alloc ?_ _) | (with_reducible refine Kd.C_drewN ?_ _) | (with_reducible refine Kd.C_drew ?_))); (case side4 => exact (Kd.R_reads' HO713.out).2.1); rintro e w' ⟨rfl, ⟨nd, rfl⟩⟩))
                            go_meet
                            case rel => exact ⟨_, (true), (by first | rfl | (simp; done) | (simp [*]; done)), H', ⟨by have := HK1.out; have := HJ25.out; first | omega | exact Nat.le_refl _⟩, ⟨by repeat (first | (with_reducible first | exact HB.out | apply below_alloc | apply pw_below_drewN | apply below_drew1) | exact HB.out)⟩⟩
                        · rw [if_neg c53] at H
                          have c53b0 : (t711 == 0) = false := beq_eq_false_iff_ne.mpr c53
                          have c53b1 : (t711 != 0) = true := bne_iff_ne.mpr c53
                          have H' := Aside0.mk H
                          clear H
                          go_wp2
                          go_meet
                          case rel => exact ⟨_, (true), (by first | rfl | (simp; done) | (simp [*]; done)), H', ⟨by have := HK1.out; have := HJ25.out; first | omega | exact Nat.le_refl _⟩, ⟨by repeat (first | (with_reducible first | exact HB.out | apply below_alloc | apply pw_below_drewN | apply below_drew1) | exact HB.out)⟩⟩
                      · rw [if_neg c52] at H
                        have c52b0 : (t699 == 0) = false := beq_eq_false_iff_ne.mpr c52
                        have c52b1 : (t699 != 0) = true := bne_iff_ne.mpr c52
                        (first | rw [c52b0] | (simp only [i64_w, i32_w]; rw [c52b0]) | skip)
                        have H' := Aside0.mk H
                        clear H
                        go_wp2
                        go_meet
                        case rel => exact ⟨_, (true), (by first | rfl | (simp; done) | (simp [*]; done)), H', ⟨by have := HK1.out; have := HJ25.out; first | omega | exact Nat.le_refl _⟩, ⟨by repeat (first | (with_reducible first | exact HB.out | apply below_alloc | apply pw_below_drewN | apply below_drew1) | exact HB.out)⟩⟩
                    case rest =>
                      clear HC47
                      try clear c1
                      try clear c2
                      try clear p2
                      try clear c3
                      try clear c4
                      try clear c5
                      try clear c5b0
                      try clear c5b1
                      try clear c6
                      try clear p6
                      try clear q6
                      try clear hx6
                      try clear c8
                      try clear c8b0
                      try clear c9
                      try clear c9b0
                      try clear c9b1
                      try clear c10
                      try clear c10b0
                      try clear c10b1
                      try clear c10b2
                      try clear c12
                      try clear c12b0
                      try clear c13
                      try clear c13b0
                      try clear c14
                      try clear c25
                      try clear c26
                      try clear c31
                      try clear c39
                      try clear c39b0
                      try clear c39b1
                      try clear c43
                      try clear c44
                      try clear c44b0
                      try clear c44b1
                      try clear c52
                      try clear c52b0
                      try clear c52b1
                      try clear c53
                      try clear c53b0
                      try clear c53b1
                      try clear c55
                      try clear c59
                      try clear c62
                      try clear p64
                      try clear c65
                      try clear c66
                      try clear c66b0
                      try clear c66b1
                      try clear c66b2
                      try clear p67
                      try clear q67
                      try clear hx67
                      try clear hx671_0
                      try clear hx671_1
                      try clear p2
                      try clear p6
                      try clear p671
                      try clear q6
                      try clear q671
                      obtain ⟨kq, x146_46, rfl, HA, HJ46, HB⟩ := hcut
                      cases kq with
                      | zero => exact absurd HA.out (by simp [rampartlaw04_KeysOrder.j2])
                      | succ kj46 =>
                        have H := HA.out
                        clear HA
                        simp only [rampartlaw04_KeysOrder.j2] at H
                        by_cases c116 : x146_46 = true
                        · subst c116
                          have H1 : (some false) = some r := by rw [if_pos rfl] at H; exact H
                          clear H
                          have H := H1
                          clear H1
                          obtain rfl := Option.some.inj H
                          go_wp2
                          go_ret
                          exact ⟨by first | rfl | (simp [errW_none, errW_some] <;> rfl) | (simp [*, errW_none, errW_some] <;> rfl), by repeat (first | (with_reducible first | exact HB.out | apply below_alloc | apply pw_below_drewN | apply below_drew1) | exact HB.out)⟩
                        · replace c116 := Bool.eq_false_iff.mpr c116
                          subst c116
                          have H1 : ((rampartlaw04_ownPairs.f l0).bind fun t730 => (if (IntKind.u64.wrap ((l0.length : Int))) = 0 then (none) else (if 0 ≤ (wrap64 (Int.tmod (IntKind.u64.wrap (a1)) (IntKind.u64.wrap ((l0.length : Int))))) then (if (wrap64 (Int.tmod (IntKind.u64.wrap (a1)) (IntKind.u64.wrap ((l0.length : Int))))) < (l0.length : Int) then ((some (([(⟨(rd_T41 l0 (wrap64 (Int.tmod (IntKind.u64.wrap (a1)) (IntKind.u64.wrap ((l0.length : Int)))))).f0, (rd_T41 l0 (wrap64 (Int.tmod (IntKind.u64.wrap (a1)) (IntKind.u64.wrap ((l0.length : Int)))))).f1⟩ : S41)] : List (S41)) : List (S41))).bind fun y734 => (if t730.length + y734.length < 4398046511104 then ((some (t730 ++ y734 : List (S41))).bind fun y737 => ((keys_Norm.f kj46 y737).bind fun bt740 => ((keys_Names.f kj46 y737).bind fun t744 => ((keys_Sorted.f kj46 t744).bind fun bt747 => (if bt740.2 = 40 then (if bt747.2 = 40 then (some ((wrap64 ((bt740.1.length : Int) + (bt747.1.length : Int))) == 0)) else (some false)) else (some false)))))) else (none))) else (none)) else (none)))) = some r := by rw [if_neg (show ¬ (false = true) by decide)] at H; exact H
                          clear H
                          have H := H1
                          clear H1
                          replace H := Option.bind_eq_some_iff.mp H
                          obtain ⟨t730, A1170, H⟩ := H
                          replace H : (if (IntKind.u64.wrap ((l0.length : Int))) = 0 then (none) else (if 0 ≤ (wrap64 (Int.tmod (IntKind.u64.wrap (a1)) (IntKind.u64.wrap ((l0.length : Int))))) then (if (wrap64 (Int.tmod (IntKind.u64.wrap (a1)) (IntKind.u64.wrap ((l0.length : Int))))) < (l0.length : Int) then ((some (([(⟨(rd_T41 l0 (wrap64 (Int.tmod (IntKind.u64.wrap (a1)) (IntKind.u64.wrap ((l0.length : Int)))))).f0, (rd_T41 l0 (wrap64 (Int.tmod (IntKind.u64.wrap (a1)) (IntKind.u64.wrap ((l0.length : Int)))))).f1⟩ : S41)] : List (S41)) : List (S41))).bind fun y734 => (if t730.length + y734.length < 4398046511104 then ((some (t730 ++ y734 : List (S41))).bind fun y737 => ((keys_Norm.f kj46 y737).bind fun bt740 => ((keys_Names.f kj46 y737).bind fun t744 => ((keys_Sorted.f kj46 t744).bind fun bt747 => (if bt740.2 = 40 then (if bt747.2 = 40 then (some ((wrap64 ((bt740.1.length : Int) + (bt747.1.length : Int))) == 0)) else (some false)) else (some false)))))) else (none))) else (none)) else (none))) = some r := H
                          have A117 := Aside0.mk A1170
                          clear A1170
                          by_cases c118 : (IntKind.u64.wrap ((l0.length : Int))) = 0
                          · rw [if_pos c118] at H
                            exact absurd H (by simp)
                          · rw [if_neg c118] at H
                            have c118b0 : ((IntKind.u64.wrap ((l0.length : Int))) == 0) = false := beq_eq_false_iff_ne.mpr c118
                            have c118b1 : ((IntKind.u64.wrap ((l0.length : Int))) != 0) = true := bne_iff_ne.mpr c118
                            obtain ⟨ji119, hji119⟩ : ∃ j_ : Int, (wrap64 (Int.tmod (IntKind.u64.wrap (a1)) (IntKind.u64.wrap ((l0.length : Int))))) = j_ := ⟨_, rfl⟩
                            replace H : (if 0 ≤ (ji119) then (if (ji119) < (l0.length : Int) then ((some (([(⟨(rd_T41 l0 (ji119)).f0, (rd_T41 l0 (ji119)).f1⟩ : S41)] : List (S41)) : List (S41))).bind fun y734 => (if t730.length + y734.length < 4398046511104 then ((some (t730 ++ y734 : List (S41))).bind fun y737 => ((keys_Norm.f kj46 y737).bind fun bt740 => ((keys_Names.f kj46 y737).bind fun t744 => ((keys_Sorted.f kj46 t744).bind fun bt747 => (if bt740.2 = 40 then (if bt747.2 = 40 then (some ((wrap64 ((bt740.1.length : Int) + (bt747.1.length : Int))) == 0)) else (some false)) else (some false)))))) else (none))) else (none)) else (none)) = some r := by first | (rw [hji119] at H; exact H) | (simp only [hji119] at H ⊢; exact H)
                            (try rw [hji119] at A117)
                            have hji119w : (IntKind.i64.wrap (Int.tmod (IntKind.u64.wrap (a1)) (IntKind.u64.wrap ((l0.length : Int))))) = ji119 := (i64_w _).trans hji119
                            by_cases c120 : 0 ≤ (ji119)
                            · rw [if_pos c120] at H
                              have c120b0 : decide (0 ≤ (ji119)) = true := decide_eq_true c120
                              clear c120
                              by_cases c121 : (ji119) < (l0.length : Int)
                              · rw [if_pos c121] at H
                                have c121b0 : decide ((ji119) < (l0.length : Int)) = true := decide_eq_true c121
                                clear c121
                                obtain ⟨y734, hy734⟩ : ∃ y_ : List (S41), y_ = (([(⟨(rd_T41 l0 (ji119)).f0, (rd_T41 l0 (ji119)).f1⟩ : S41)] : List (S41))) := ⟨_, rfl⟩
                                replace H : (if t730.length + y734.length < 4398046511104 then ((some (t730 ++ y734 : List (S41))).bind fun y737 => ((keys_Norm.f kj46 y737).bind fun bt740 => ((keys_Names.f kj46 y737).bind fun t744 => ((keys_Sorted.f kj46 t744).bind fun bt747 => (if bt740.2 = 40 then (if bt747.2 = 40 then (some ((wrap64 ((bt740.1.length : Int) + (bt747.1.length : Int))) == 0)) else (some false)) else (some false)))))) else (none)) = some r := by first | (rw [hy734]; with_reducible exact H) | (have H2_ := (Option.bind_some _ _).symm.trans H; rw [hy734]; with_reducible exact H2_) | (have H2_ := (Option.bind_some _ _).symm.trans H; with_reducible exact H2_) | with_reducible exact H | (rw [hy734]; exact H) | exact H
                                have Ny734 := Aside0.mk hy734
                                clear hy734
                                by_cases c122 : t730.length + y734.length < 4398046511104
                                · rw [if_pos c122] at H
                                  have LMc122 := Aside0.mk c122
                                  clear c122
                                  obtain ⟨y737, hy737⟩ : ∃ y_ : List (S41), y_ = (t730 ++ y734) := ⟨_, rfl⟩
                                  replace H : ((keys_Norm.f kj46 y737).bind fun bt740 => ((keys_Names.f kj46 y737).bind fun t744 => ((keys_Sorted.f kj46 t744).bind fun bt747 => (if bt740.2 = 40 then (if bt747.2 = 40 then (some ((wrap64 ((bt740.1.length : Int) + (bt747.1.length : Int))) == 0)) else (some false)) else (some false))))) = some r := by first | (rw [hy737]; with_reducible exact H) | (have H2_ := (Option.bind_some _ _).symm.trans H; rw [hy737]; with_reducible exact H2_) | (have H2_ := (Option.bind_some _ _).symm.trans H; with_reducible exact H2_) | with_reducible exact H | (rw [hy737]; exact H) | exact H
                                  have Ny737 := Aside0.mk hy737
                                  clear hy737
                                  replace H := Option.bind_eq_some_iff.mp H
                                  obtain ⟨⟨t740, t741⟩, A1230, H⟩ := H
                                  replace H : ((keys_Names.f kj46 y737).bind fun t744 => ((keys_Sorted.f kj46 t744).bind fun bt747 => (if t741 = 40 then (if bt747.2 = 40 then (some ((wrap64 ((t740.length : Int) + (bt747.1.length : Int))) == 0)) else (some false)) else (some false)))) = some r := H
                                  have A123 := Aside0.mk A1230
                                  clear A1230
                                  replace H := Option.bind_eq_some_iff.mp H
                                  obtain ⟨t744, A1240, H⟩ := H
                                  replace H : ((keys_Sorted.f kj46 t744).bind fun bt747 => (if t741 = 40 then (if bt747.2 = 40 then (some ((wrap64 ((t740.length : Int) + (bt747.1.length : Int))) == 0)) else (some false)) else (some false))) = some r := H
                                  have A124 := Aside0.mk A1240
                                  clear A1240
                                  replace H := Option.bind_eq_some_iff.mp H
                                  obtain ⟨⟨t747, t748⟩, A1250, H⟩ := H
                                  replace H : (if t741 = 40 then (if t748 = 40 then (some ((wrap64 ((t740.length : Int) + (t747.length : Int))) == 0)) else (some false)) else (some false)) = some r := H
                                  have A125 := Aside0.mk A1250
                                  clear A1250
                                  by_cases c126 : t741 = 40
                                  · rw [if_pos c126] at H
                                    have c126b0 : (t741 == 40) = true := beq_iff_eq.mpr c126
                                    have c126b1 : (t741 != 40) = false := bne_eq_false_iff_eq.mpr c126
                                    clear c126
                                    by_cases c127 : t748 = 40
                                    · rw [if_pos c127] at H
                                      have c127b0 : (t748 == 40) = true := beq_iff_eq.mpr c127
                                      have c127b1 : (t748 != 40) = false := bne_eq_false_iff_eq.mpr c127
                                      clear c127
                                      obtain rfl := Option.some.inj H
                                      try go_wp2
                                      have n0_ := Aside0.mk (below_drew1 HB.out)
                                      clear HB
                                      have HB := n0_
                                      clear n0_
                                      have p733 : 0 ≤ ((ji119) : Int) := of_decide_eq_true (by first | (with_reducible assumption) | assumption)
                                      have q733 : (ji119) < (l0.length : Int) := of_decide_eq_true (by first | (with_reducible assumption) | assumption)
                                      obtain ⟨ad733, e733, hx733_0, hx733_1⟩ := at_T41 HR0.out (ji119) p733 q733
                                      have hw733_1 := hx733_1
                                      have hw733_0 := hx733_0
                                      cases e733
                                      replace hx733_0 := (HB.out.cell (World.block_lt_of_cell? w _ hx733_0)).trans hx733_0
                                      replace hx733_1 := (HB.out.cell (World.block_lt_of_cell? w _ hx733_1)).trans hx733_1
                                      replace p733 := eq_true p733
                                      replace q733 := eq_true q733
                                      refine start_ (n := 14) (S := fun w' => w'.cell? (ad733.add (((ji119)).toNat * 2)) = some (.string ((rd_T41 l0 (ji119)).f0)) ∧ w'.cell? ⟨(ad733.add (((ji119)).toNat * 2)).block, (ad733.add (((ji119)).toNat * 2)).off + 1, none⟩ = some (.string ((rd_T41 l0 (ji119)).f1))) (ds := []) #[false, false, false, false, false, false, false, false, false, false, false, false, false, false] (by kernel_rfl) rfl rfl ⟨((HB.out.cell (World.block_lt_of_cell? w _ hw733_0)).trans hw733_0), ((HB.out.cell (World.block_lt_of_cell? w _ hw733_1)).trans hw733_1)⟩ (fun hHeld => ?_); refine with_tabW rampartlaw04_KeysOrder.tab22 rampartlaw04_KeysOrder.bits22 (fun HT_ HW_ => ?_)
                                      generalize wc.drew = w128 at HB hx733_0 hx733_1 hHeld ⊢
                                      refine pure_ (i := 0) (N := some 147) (v := ?_) (a' := ?_) #[true, false, false, false, false, false, false, false, false, false, false, false, false, false] rfl rfl (any_of HT_.out (by kernel_rfl)) (fun _ _ _ h => h) (Or.inl ⟨by rfl, ?_⟩) ?_ ?_
                                      rotate_left
                                      · intro w'
                                        go_simp
                                        with_reducible rfl
                                      rotate_left
                                      · simp only [Act.put, List.setIfInBounds_toArray, List.set_cons_zero, List.set_cons_succ, i64_w, i32_w]
                                        rfl
                                      refine pure_ (i := 2) (N := some 149) (v := ?_) (a' := ?_) #[true, false, true, false, false, false, false, false, false, false, false, false, false, false] rfl rfl (any_of HT_.out (by kernel_rfl)) (fun _ _ _ h => h) (Or.inl ⟨by rfl, ?_⟩) ?_ ?_
                                      rotate_left
                                      · intro w'
                                        go_simp
                                        with_reducible rfl
                                      rotate_left
                                      · simp only [Act.put, List.setIfInBounds_toArray, List.set_cons_zero, List.set_cons_succ, i64_w, i32_w]
                                        rfl
                                      refine pure_ (i := 3) (N := some 150) (v := ?_) (a' := ?_) #[true, false, true, true, false, false, false, false, false, false, false, false, false, false] rfl rfl (any_of HT_.out (by kernel_rfl)) (fun _ _ _ h => h) (Or.inl ⟨by rfl, ?_⟩) ?_ ?_
                                      rotate_left
                                      · intro w'
                                        go_simp
                                        with_reducible rfl
                                      rotate_left
                                      · simp only [Act.put, List.setIfInBounds_toArray, List.set_cons_zero, List.set_cons_succ, i64_w, i32_w]
                                        rfl
                                      refine pure_ (i := 4) (N := some 151) (v := ?_) (a' := ?_) #[true, false, true, true, true, false, false, false, false, false, false, false, false, false] rfl rfl (any_of HT_.out (by kernel_rfl)) (fun _ _ _ h => h) (Or.inl ⟨by rfl, ?_⟩) ?_ ?_
                                      rotate_left
                                      · intro w'
                                        go_simp
                                        with_reducible rfl
                                      rotate_left
                                      · simp only [Act.put, List.setIfInBounds_toArray, List.set_cons_zero, List.set_cons_succ, i64_w, i32_w]
                                        rfl
                                      refine pure_ (i := 5) (N := some 152) (v := ?_) (a' := ?_) #[true, false, true, true, true, true, false, false, false, false, false, false, false, false] rfl rfl (any_of HT_.out (by kernel_rfl)) (fun _ _ _ h => h) (Or.inl ⟨by rfl, ?_⟩) ?_ ?_
                                      rotate_left
                                      · intro w'
                                        go_simp
                                        with_reducible rfl
                                      rotate_left
                                      · simp only [Act.put, List.setIfInBounds_toArray, List.set_cons_zero, List.set_cons_succ, i64_w, i32_w]
                                        rfl
                                      refine pure_ (i := 6) (N := some 153) (v := ?_) (a' := ?_) #[true, false, true, true, true, true, true, false, false, false, false, false, false, false] rfl rfl (any_of HT_.out (by kernel_rfl)) (fun _ _ _ h => h) (Or.inl ⟨by rfl, ?_⟩) ?_ ?_
                                      rotate_left
                                      · intro w'
                                        go_simp
                                        with_reducible rfl
                                      rotate_left
                                      · simp only [Act.put, List.setIfInBounds_toArray, List.set_cons_zero, List.set_cons_succ, i64_w, i32_w]
                                        rfl
                                      refine pure_ (i := 7) (N := some 154) (v := ?_) (a' := ?_) #[true, false, true, true, true, true, true, true, false, false, false, false, false, false] rfl rfl (any_of HT_.out (by kernel_rfl)) (fun _ _ _ h => h) (Or.inl ⟨by rfl, ?_⟩) ?_ ?_
                                      rotate_left
                                      · intro w'
                                        go_simp
                                        with_reducible rfl
                                      rotate_left
                                      · simp only [Act.put, List.setIfInBounds_toArray, List.set_cons_zero, List.set_cons_succ, i64_w, i32_w]
                                        rfl
                                      refine pure_ (i := 8) (N := some 155) (v := ?_) (a' := ?_) #[true, false, true, true, true, true, true, true, true, false, false, false, false, false] rfl rfl (any_of HT_.out (by kernel_rfl)) (fun _ _ _ h => h) (Or.inl ⟨by rfl, ?_⟩) ?_ ?_
                                      rotate_left
                                      · intro w'
                                        go_simp
                                        with_reducible rfl
                                      rotate_left
                                      · simp only [Act.put, List.setIfInBounds_toArray, List.set_cons_zero, List.set_cons_succ, i64_w, i32_w]
                                        rfl
                                      refine pure_ (i := 9) (N := some 156) (v := ?_) (a' := ?_) #[true, false, true, true, true, true, true, true, true, true, false, false, false, false] rfl rfl (any_of HT_.out (by kernel_rfl)) (fun _ _ _ h => h) (Or.inl ⟨by rfl, ?_⟩) ?_ ?_
                                      rotate_left
                                      · intro w'
                                        go_simp
                                        with_reducible rfl
                                      rotate_left
                                      · simp only [Act.put, List.setIfInBounds_toArray, List.set_cons_zero, List.set_cons_succ, i64_w, i32_w]
                                        rfl
                                      refine take_ (i := 10) (N := some 157) (v := ?_) (a' := ?_) #[true, false, true, true, true, true, true, true, true, true, true, false, false, false] rfl rfl (take_ofW HT_.out HW_.out (by kernel_rfl)) (fun _ _ _ h => h) (Or.inl ⟨by rfl, ?_⟩) hHeld ?_ ?_
                                      rotate_left
                                      · rintro w' ⟨s0, s1⟩
                                        go_simp
                                        with_reducible rfl
                                      rotate_left
                                      · simp only [Act.put, List.setIfInBounds_toArray, List.set_cons_zero, List.set_cons_succ, i64_w, i32_w]
                                        rfl
                                      refine join_ (σ := Value × Value) 2 #[true, true, true, true, true, true, true, true, true, true, true, true, false, false] (fun s_ => [(148, s_.1), (158, s_.2)]) (fun s_ w' => (w'.cell? (ad733.add (((ji119)).toNat * 2)) = some (.string ((rd_T41 l0 (ji119)).f0)) ∧ w'.cell? ⟨(ad733.add (((ji119)).toNat * 2)).block, (ad733.add (((ji119)).toNat * 2)).off + 1, none⟩ = some (.string ((rd_T41 l0 (ji119)).f1))) ∧ (Kd.R k41 41 w' w.heap.size (fun k_ => some k_ ≠ (s_.2 : Value).ownBlock) s_.1 t730) ∧ (Kd.R k41 41 w' w.heap.size (fun k_ => some k_ ≠ (s_.1 : Value).ownBlock) s_.2 y734) ∧ (Below w.heap.size w w')) ?_ ?_
                                      rotate_left
                                      · intro hCont
                                        refine two_ (i := 1) (j := 11) (Ni := some 148) (Nj := some 158) #[true, true, true, true, true, true, true, true, true, true, true, false, false, false] #[true, false, true, true, true, true, true, true, true, true, true, true, false, false] rfl rfl rfl rfl (two_of HT_.out (by kernel_rfl)) (by decide) (by decide) (fun K hK => ?_) (fun K hK => ?_)
                                        · skip
                                          refine goes_ Try.func26 (by kernel_rfl) rfl #[.slice (some ad733) l0.length c0] (by rfl) rfl rfl (by (try simp only [List.map_toArray, List.map_cons, List.map_nil]); first | done | rfl | (simp only [List.length_drop, List.length_take]; rfl)) ?_
                                          with_reducible refine (rampartlaw04_ownPairs.calls _ _ l0 t730 _ ?side1 ?side2 A117.out).mono ?_
                                          (case side1 => repeat (first | exact (Kd.C_below HR0.out HB.out) | (with_reducible refine Kd.C_alloc ?_ _) | (with_reducible refine Kd.C_drewN ?_ _) | (with_reducible refine Kd.C_drew ?_)))
                                          (case side2 => exact HC0.out)
                                          rintro e w129 ⟨v731, rfl, ho0, hb⟩
                                          refine ⟨_, rfl, ?_⟩
                                          have n0_ := Aside0.mk (Kd.R_lower ho0 (below_size (by repeat (first | (with_reducible first | exact HB.out | apply below_alloc | apply pw_below_drewN | apply below_drew1) | exact HB.out))))
                                          have n1_ := Aside0.mk (below_step (by repeat (first | (with_reducible first | exact HB.out | apply below_alloc | apply pw_below_drewN | apply below_drew1) | exact HB.out)) hb)
                                          clear HB
                                          have HO732 := n0_
                                          have HB := n1_
                                          clear n0_ n1_
                                          (try clear hb)
                                          (try clear hb2)
                                          (try clear hk)
                                          (try clear hi)
                                          (try clear ho0)
                                          refine hK.out _ _ ⟨((HB.out.cell (World.block_lt_of_cell? w _ hw733_0)).trans hw733_0), ((HB.out.cell (World.block_lt_of_cell? w _ hw733_1)).trans hw733_1)⟩ (fun hHeld => ?_)
                                          clear hK K
                                          refine norm_ (a' := ?_) ?_ ?_
                                          rotate_left
                                          · show Act.put _ (some 148) _ = _
                                            simp only [Act.put, List.setIfInBounds_toArray, List.set_cons_zero, List.set_cons_succ, i64_w, i32_w]
                                            rfl
                                          refine one_ (i := 11) (N := some 158) #[true, true, true, true, true, true, true, true, true, true, true, true, false, false] rfl rfl (one_of HT_.out (by kernel_rfl)) (by decide) (fun K hK => ?_)
                                          refine Kd.R_lit_step k41 _ 41 ?hg (N := 158) ?hd (xs := ([(⟨(rd_T41 l0 (ji119)).f0, (rd_T41 l0 (ji119)).f1⟩ : S41)] : List (S41))) (inner := [.string ((rd_T41 l0 (ji119)).f0), .string ((rd_T41 l0 (ji119)).f1)]) (ok := fun _ => True) (okp := fun _ => True) ?hr ?hp (fun _ hk => hk) trivial (Below.refl _ _) (Nat.le_refl _) (by simp) ?_; (case hd => rfl); (case hg => rfl); (case hr => first | (go_simp; done) | (go_simp; rfl)); (case hp => exact (Reps.c2 (show Kd.M k41 _ _ _ (⟨(rd_T41 l0 (ji119)).f0, (rd_T41 l0 (ji119)).f1⟩ : S41) [.string ((rd_T41 l0 (ji119)).f0), .string ((rd_T41 l0 (ji119)).f1)] from (k41_mkM _ _ _ (⟨(rd_T41 l0 (ji119)).f0, (rd_T41 l0 (ji119)).f1⟩ : S41) )) (Reps.none _ _)))
                                          intro v735 w130 ho131 hb hg_ hnew_
                                          clear hg_ hnew_
                                          (first | rw [← Ny734.out] at ho131 | (simp only [Int.reduceToNat] at ho131; rw [← Ny734.out] at ho131))
                                          have n0_ := Aside0.mk (Kd.R_elder' (by (with_reducible repeat (first | apply Kd.R_alloc | apply Kd.R_drewN | apply Kd.R_drew)); exact HO732.out) (Kd.R_base ho131) hb)
                                          have n1_ := Aside0.mk (Kd.R_lower (Kd.R_new' ho131 (Kd.R_lt (by (with_reducible repeat (first | apply Kd.R_alloc | apply Kd.R_drewN | apply Kd.R_drew)); exact HO732.out))) (below_size (by repeat (first | (with_reducible first | exact HB.out | apply below_alloc | apply pw_below_drewN | apply below_drew1) | exact HB.out))))
                                          have n2_ := Aside0.mk (below_step (by repeat (first | (with_reducible first | exact HB.out | apply below_alloc | apply pw_below_drewN | apply below_drew1) | exact HB.out)) hb)
                                          clear HO732
                                          clear HB
                                          have HO732 := n0_
                                          have HO736 := n1_
                                          have HB := n2_
                                          clear n0_ n1_ n2_
                                          clear hb ho131
                                          refine hK.out _ _ ⟨((HB.out.cell (World.block_lt_of_cell? w _ hw733_0)).trans hw733_0), ((HB.out.cell (World.block_lt_of_cell? w _ hw733_1)).trans hw733_1)⟩ (fun hHeld => ?_)
                                          clear hK K
                                          refine norm_ (a' := ?_) ?_ ?_
                                          rotate_left
                                          · show Act.put _ (some 158) _ = _
                                            simp only [Act.put, List.setIfInBounds_toArray, List.set_cons_zero, List.set_cons_succ, i64_w, i32_w]
                                            rfl
                                          exact norm_ (by simp only [putAll, Act.put, List.setIfInBounds_toArray, List.set_cons_zero, List.set_cons_succ]) (hCont (v731, v735) _ ⟨hHeld, (by (with_reducible repeat (first | apply Kd.R_alloc | apply Kd.R_drewN | apply Kd.R_drew)); exact Kd.R_mono HO732.out (fun _ hk => hk.2)), (by (with_reducible repeat (first | apply Kd.R_alloc | apply Kd.R_drewN | apply Kd.R_drew)); exact Kd.R_mono HO736.out (fun _ hk => hk.2)), (by repeat (first | (with_reducible first | exact HB.out | apply below_alloc | apply pw_below_drewN | apply below_drew1) | exact HB.out))⟩)
                                        · skip
                                          refine Kd.R_lit_step k41 _ 41 ?hg (N := 158) ?hd (xs := ([(⟨(rd_T41 l0 (ji119)).f0, (rd_T41 l0 (ji119)).f1⟩ : S41)] : List (S41))) (inner := [.string ((rd_T41 l0 (ji119)).f0), .string ((rd_T41 l0 (ji119)).f1)]) (ok := fun _ => True) (okp := fun _ => True) ?hr ?hp (fun _ hk => hk) trivial (Below.refl _ _) (Nat.le_refl _) (by simp) ?_; (case hd => rfl); (case hg => rfl); (case hr => first | (go_simp; done) | (go_simp; rfl)); (case hp => exact (Reps.c2 (show Kd.M k41 _ _ _ (⟨(rd_T41 l0 (ji119)).f0, (rd_T41 l0 (ji119)).f1⟩ : S41) [.string ((rd_T41 l0 (ji119)).f0), .string ((rd_T41 l0 (ji119)).f1)] from (k41_mkM _ _ _ (⟨(rd_T41 l0 (ji119)).f0, (rd_T41 l0 (ji119)).f1⟩ : S41) )) (Reps.none _ _)))
                                          intro v735 w129 ho130 hb hg_ hnew_
                                          clear hg_ hnew_
                                          (first | rw [← Ny734.out] at ho130 | (simp only [Int.reduceToNat] at ho130; rw [← Ny734.out] at ho130))
                                          have n0_ := Aside0.mk (Kd.R_lower ho130 (below_size (by repeat (first | (with_reducible first | exact HB.out | apply below_alloc | apply pw_below_drewN | apply below_drew1) | exact HB.out))))
                                          have n1_ := Aside0.mk (below_step (by repeat (first | (with_reducible first | exact HB.out | apply below_alloc | apply pw_below_drewN | apply below_drew1) | exact HB.out)) hb)
                                          clear HB
                                          have HO736 := n0_
                                          have HB := n1_
                                          clear n0_ n1_
                                          clear hb ho130
                                          refine hK.out _ _ ⟨((HB.out.cell (World.block_lt_of_cell? w _ hw733_0)).trans hw733_0), ((HB.out.cell (World.block_lt_of_cell? w _ hw733_1)).trans hw733_1)⟩ (fun hHeld => ?_)
                                          clear hK K
                                          refine norm_ (a' := ?_) ?_ ?_
                                          rotate_left
                                          · show Act.put _ (some 158) _ = _
                                            simp only [Act.put, List.setIfInBounds_toArray, List.set_cons_zero, List.set_cons_succ, i64_w, i32_w]
                                            rfl
                                          refine one_ (i := 1) (N := some 148) #[true, true, true, true, true, true, true, true, true, true, true, true, false, false] rfl rfl (one_of HT_.out (by kernel_rfl)) (by decide) (fun K hK => ?_)
                                          refine goes_ Try.func26 (by kernel_rfl) rfl #[.slice (some ad733) l0.length c0] (by rfl) rfl rfl (by (try simp only [List.map_toArray, List.map_cons, List.map_nil]); first | done | rfl | (simp only [List.length_drop, List.length_take]; rfl)) ?_
                                          with_reducible refine (rampartlaw04_ownPairs.calls _ _ l0 t730 _ ?side1 ?side2 A117.out).mono ?_
                                          (case side1 => repeat (first | exact (Kd.C_below HR0.out HB.out) | (with_reducible refine Kd.C_alloc ?_ _) | (with_reducible refine Kd.C_drewN ?_ _) | (with_reducible refine Kd.C_drew ?_)))
                                          (case side2 => exact HC0.out)
                                          rintro e w131 ⟨v731, rfl, ho0, hb⟩
                                          refine ⟨_, rfl, ?_⟩
                                          have n0_ := Aside0.mk (Kd.R_elder' (by (with_reducible repeat (first | apply Kd.R_alloc | apply Kd.R_drewN | apply Kd.R_drew)); exact HO736.out) (Kd.R_base ho0) hb)
                                          have n1_ := Aside0.mk (Kd.R_lower (Kd.R_new' ho0 (Kd.R_lt (by (with_reducible repeat (first | apply Kd.R_alloc | apply Kd.R_drewN | apply Kd.R_drew)); exact HO736.out))) (below_size (by repeat (first | (with_reducible first | exact HB.out | apply below_alloc | apply pw_below_drewN | apply below_drew1) | exact HB.out))))
                                          have n2_ := Aside0.mk (below_step (by repeat (first | (with_reducible first | exact HB.out | apply below_alloc | apply pw_below_drewN | apply below_drew1) | exact HB.out)) hb)
                                          clear HO736
                                          clear HB
                                          have HO736 := n0_
                                          have HO732 := n1_
                                          have HB := n2_
                                          clear n0_ n1_ n2_
                                          (try clear hb)
                                          (try clear hb2)
                                          (try clear hk)
                                          (try clear hi)
                                          (try clear ho0)
                                          refine hK.out _ _ ⟨((HB.out.cell (World.block_lt_of_cell? w _ hw733_0)).trans hw733_0), ((HB.out.cell (World.block_lt_of_cell? w _ hw733_1)).trans hw733_1)⟩ (fun hHeld => ?_)
                                          clear hK K
                                          refine norm_ (a' := ?_) ?_ ?_
                                          rotate_left
                                          · show Act.put _ (some 148) _ = _
                                            simp only [Act.put, List.setIfInBounds_toArray, List.set_cons_zero, List.set_cons_succ, i64_w, i32_w]
                                            rfl
                                          exact norm_ (by simp only [putAll, Act.put, List.setIfInBounds_toArray, List.set_cons_zero, List.set_cons_succ]) (hCont (v731, v735) _ ⟨hHeld, (by (with_reducible repeat (first | apply Kd.R_alloc | apply Kd.R_drewN | apply Kd.R_drew)); exact Kd.R_mono HO732.out (fun _ hk => hk.2)), (by (with_reducible repeat (first | apply Kd.R_alloc | apply Kd.R_drewN | apply Kd.R_drew)); exact Kd.R_mono HO736.out (fun _ hk => hk.2)), (by repeat (first | (with_reducible first | exact HB.out | apply below_alloc | apply pw_below_drewN | apply below_drew1) | exact HB.out))⟩)
                                      rintro ⟨v731, v735⟩ w132 ⟨hS_, h0_, h1_, h2_⟩
                                      have n0_ : Aside0 (Kd.R k41 41 w132 w.heap.size (fun k_ => some k_ ≠ (v735 : Value).ownBlock) v731 t730) := ⟨h0_⟩
                                      have n1_ : Aside0 (Kd.R k41 41 w132 w.heap.size (fun k_ => some k_ ≠ (v731 : Value).ownBlock) v735 y734) := ⟨h1_⟩
                                      have n2_ : Aside0 (Below w.heap.size w w132) := ⟨h2_⟩
                                      clear HB
                                      clear h0_ h1_ h2_
                                      have HO732 := n0_
                                      have HO736 := n1_
                                      have HB := n2_
                                      clear n0_ n1_ n2_
                                      have hHeld : w132.cell? (ad733.add (((ji119)).toNat * 2)) = some (.string ((rd_T41 l0 (ji119)).f0)) ∧ w132.cell? ⟨(ad733.add (((ji119)).toNat * 2)).block, (ad733.add (((ji119)).toNat * 2)).off + 1, none⟩ = some (.string ((rd_T41 l0 (ji119)).f1)) := hS_
                                      obtain ⟨Ao134, co134, eo134⟩ := Kd.R_slice HO736.out
                                      (first | subst eo134 | (injection eo134 with f1_ f2_ f3_; have f4_ := f1_.symm; have f5_ := f3_.symm; clear f1_ f2_ f3_; subst f4_; subst f5_))
                                      refine norm_ (a' := ?_) ?_ ?_
                                      rotate_left
                                      · simp only [putAll, Act.put, List.setIfInBounds_toArray, List.set_cons_zero, List.set_cons_succ]
                                        rfl
                                      refine one_ (i := 12) (N := some 159) #[true, true, true, true, true, true, true, true, true, true, true, true, true, false] rfl rfl (one_of HT_.out (by kernel_rfl)) (by decide) (fun K hK => ?_)
                                      refine Kd.R_append_rows_step k41 (w0 := w) w.heap.size (by rfl) (.tmp 148) (.tmp 158) 33 41 (.agg #[(.string ⟨#[]⟩), (.string ⟨#[]⟩)]) 32 rfl Try.underlying33 info41 rfl (by decide) (by omega) v731 t730 y734 _ _ _ (fun k_ => some k_ ≠ (.slice Ao134 y734.length co134 : Value).ownBlock) (fun _ => False) rfl rfl ?aO ?aR (fun _ _ h => h) (fun _ h => h.elim) ?aF ?aB ?aS ?aL ?_
                                      (case aR => repeat (first | exact (Kd.R_reads' HO736.out).2.2 | (with_reducible refine Kd.C_alloc ?_ _) | (with_reducible refine Kd.C_drewN ?_ _) | (with_reducible refine Kd.C_drew ?_)))
                                      (case aB => exact (by repeat (first | (with_reducible first | exact HB.out | apply below_alloc | apply pw_below_drewN | apply below_drew1) | exact HB.out)))
                                      (case aF => exact (fun k_ hk => Kd.fresh' (Kd.R_lt (by (with_reducible repeat (first | apply Kd.R_alloc | apply Kd.R_drewN | apply Kd.R_drew)); exact HO736.out)) k_ hk))
                                      (case aO => exact (by (with_reducible repeat (first | apply Kd.R_alloc | apply Kd.R_drewN | apply Kd.R_drew)); exact HO732.out))
                                      (case aS => exact (below_size (by repeat (first | (with_reducible first | exact HB.out | apply below_alloc | apply pw_below_drewN | apply below_drew1) | exact HB.out))))
                                      (case aL => have := LMc122.out; omega)
                                      intro v738 w133 ho hb hg hat
                                      rw [← Ny737.out] at ho
                                      have n0_ := Aside0.mk (Kd.R_after (ok := (fun _ => True)) (by (with_reducible repeat (first | apply Kd.R_alloc | apply Kd.R_drewN | apply Kd.R_drew)); exact Kd.R_mono HO736.out (fun _ hk => ⟨trivial, hk⟩)) hg hat)
                                      have n1_ := Aside0.mk (hb)
                                      have n2_ := Aside0.mk (ho)
                                      clear HO736
                                      clear HB
                                      clear HO732
                                      have HO736 := n0_
                                      have HB := n1_
                                      have HO739 := n2_
                                      clear n0_ n1_ n2_
                                      clear ho hb hg hat
                                      refine hK.out _ _ ⟨((HB.out.cell (World.block_lt_of_cell? w _ hw733_0)).trans hw733_0), ((HB.out.cell (World.block_lt_of_cell? w _ hw733_1)).trans hw733_1)⟩ (fun hHeld => ?_)
                                      clear hK K
                                      refine norm_ (a' := ?_) ?_ ?_
                                      rotate_left
                                      · show Act.put _ (some 159) _ = _
                                        simp only [Act.put, List.setIfInBounds_toArray, List.set_cons_zero, List.set_cons_succ, i64_w, i32_w]
                                        rfl
                                      refine pure_ (i := 13) (N := some 17) (v := ?_) (a' := ?_) #[true, true, true, true, true, true, true, true, true, true, true, true, true, true] rfl rfl (any_of HT_.out (by kernel_rfl)) (fun _ _ _ h => h) (Or.inl ⟨by rfl, ?_⟩) ?_ ?_
                                      rotate_left
                                      · intro w'
                                        go_simp
                                        with_reducible rfl
                                      rotate_left
                                      · simp only [Act.put, List.setIfInBounds_toArray, List.set_cons_zero, List.set_cons_succ, i64_w, i32_w]
                                        rfl
                                      refine done_ (done_of HT_.out (by kernel_rfl)) ?_
                                      obtain ⟨Ao135, co135, eo135⟩ := Kd.R_slice HO739.out
                                      subst eo135
                                      try go_wp2_with (first | ((with_reducible refine gate_callee (f := 25) rfl ?_); refine goesL_ (some 162) rfl rfl Try.func25 (by kernel_rfl) rfl #[.slice Ao135 y737.length co135] rfl (by (try simp only [List.map_toArray, List.map_cons, List.map_nil]); first | done | rfl | (simp only [List.length_drop, List.length_take]; rfl)) ?_; (with_reducible refine (keys_Norm.calls kj46 _ _ y737 t740 t741 _ ?side1 ?side2 A123.out).mono ?_); (case side1 => repeat (first | exact (Kd.R_reads' HO739.out).2.2 | (with_reducible refine Kd.C_alloc ?_ _) | (with_reducible refine Kd.C_drewN ?_ _) | (with_reducible refine Kd.C_drew ?_))); (case side2 => exact (Kd.R_reads' HO739.out).2.1); rintro e w136 ⟨v742, rfl, ho0, hb⟩; refine ⟨_, rfl, ?_⟩; have n0_ := Aside0.mk (Kd.R_elder' (by (with_reducible repeat (first | apply Kd.R_alloc | apply Kd.R_drewN | apply Kd.R_drew)); exact HO736.out) (Kd.R_base ho0) hb); have n1_ := Aside0.mk (Kd.R_elder' (by (with_reducible repeat (first | apply Kd.R_alloc | apply Kd.R_drewN | apply Kd.R_drew)); exact HO739.out) (Kd.R_base ho0) hb); have n2_ := Aside0.mk (Kd.R_lower (Kd.R_new' (Kd.R_new' ho0 (Kd.R_lt (by (with_reducible repeat (first | apply Kd.R_alloc | apply Kd.R_drewN | apply Kd.R_drew)); exact HO736.out))) (Kd.R_lt (by (with_reducible repeat (first | apply Kd.R_alloc | apply Kd.R_drewN | apply Kd.R_drew)); exact HO739.out))) (below_size (by repeat (first | (with_reducible first | exact HB.out | apply below_alloc | apply pw_below_drewN | apply below_drew1) | exact HB.out)))); have n3_ := Aside0.mk (below_step (by repeat (first | (with_reducible first | exact HB.out | apply below_alloc | apply pw_below_drewN | apply below_drew1) | exact HB.out)) hb); clear HO736; clear HO739; clear HB; have HO736 := n0_; have HO739 := n1_; have HO743 := n2_; have HB := n3_; clear n0_ n1_ n2_ n3_; (try clear hb); (try clear hb2); (try clear hk); (try clear hi); (try clear ho0)) | ((with_reducible refine gate_callee (f := 31) rfl ?_); refine goesL_ (some 167) rfl rfl Try.func31 (by kernel_rfl) rfl #[.slice Ao135 y737.length co135] rfl (by (try simp only [List.map_toArray, List.map_cons, List.map_nil]); first | done | rfl | (simp only [List.length_drop, List.length_take]; rfl)) ?_; (with_reducible refine (keys_Names.calls kj46 _ _ y737 t744 _ ?side1 ?side2 A124.out).mono ?_); (case side1 => repeat (first | exact (Kd.R_reads' HO739.out).2.2 | (with_reducible refine Kd.C_alloc ?_ _) | (with_reducible refine Kd.C_drewN ?_ _) | (with_reducible refine Kd.C_drew ?_))); (case side2 => exact (Kd.R_reads' HO739.out).2.1); rintro e w137 ⟨v745, rfl, ho0, hb⟩; refine ⟨_, rfl, ?_⟩; have n0_ := Aside0.mk (Kd.R_below (by (with_reducible repeat (first | apply Kd.R_alloc | apply Kd.R_drewN | apply Kd.R_drew)); exact HO736.out) hb); have n1_ := Aside0.mk (Kd.R_below (by (with_reducible repeat (first | apply Kd.R_alloc | apply Kd.R_drewN | apply Kd.R_drew)); exact HO739.out) hb); have n2_ := Aside0.mk (Kd.R_below (by (with_reducible repeat (first | apply Kd.R_alloc | apply Kd.R_drewN | apply Kd.R_drew)); exact HO743.out) hb); have n3_ := Aside0.mk (Kd.R_lower ho0 (below_size (by repeat (first | (with_reducible first | exact HB.out | apply below_alloc | apply pw_below_drewN | apply below_drew1) | exact HB.out)))); have n4_ := Aside0.mk (below_step (by repeat (first | (with_reducible first | exact HB.out | apply below_alloc | apply pw_below_drewN | apply below_drew1) | exact HB.out)) hb); clear HO736; clear HO739; clear HO743; clear HB; have HO736 := n0_; have HO739 := n1_; have HO743 := n2_; have HO746 := n3_; have HB := n4_; clear n0_ n1_ n2_ n3_ n4_; (try clear hb); (try clear hb2); (try clear hk); (try clear hi); (try clear ho0); obtain ⟨Ao138, co138, eo138⟩ := Kd.R_slice HO746.out; subst eo138) | ((with_reducible refine gate_callee (f := 9) rfl ?_); refine goesL_ (some 168) rfl rfl Try.func9 (by kernel_rfl) rfl #[.slice Ao138 t744.length co138] rfl (by (try simp only [List.map_toArray, List.map_cons, List.map_nil]); first | done | rfl | (simp only [List.length_drop, List.length_take]; rfl)) ?_; (with_reducible refine (keys_Sorted.calls kj46 _ _ t744 t747 t748 _ ?side1 ?side2 A125.out).mono ?_); (case side1 => repeat (first | exact (Kd.R_reads' HO746.out).2.2 | (with_reducible refine Kd.C_alloc ?_ _) | (with_reducible refine Kd.C_drewN ?_ _) | (with_reducible refine Kd.C_drew ?_))); (case side2 => exact (Kd.R_reads' HO746.out).2.1); rintro e w139 ⟨v749, rfl, ho0, hb⟩; refine ⟨_, rfl, ?_⟩; have n0_ := Aside0.mk (Kd.R_below (by (with_reducible repeat (first | apply Kd.R_alloc | apply Kd.R_drewN | apply Kd.R_drew)); exact HO736.out) hb); have n1_ := Aside0.mk (Kd.R_below (by (with_reducible repeat (first | apply Kd.R_alloc | apply Kd.R_drewN | apply Kd.R_drew)); exact HO739.out) hb); have n2_ := Aside0.mk (Kd.R_below (by (with_reducible repeat (first | apply Kd.R_alloc | apply Kd.R_drewN | apply Kd.R_drew)); exact HO743.out) hb); have n3_ := Aside0.mk (Kd.R_elder' (by (with_reducible repeat (first | apply Kd.R_alloc | apply Kd.R_drewN | apply Kd.R_drew)); exact HO746.out) (Kd.R_base ho0) hb); have n4_ := Aside0.mk (Kd.R_lower (Kd.R_new' ho0 (Kd.R_lt (by (with_reducible repeat (first | apply Kd.R_alloc | apply Kd.R_drewN | apply Kd.R_drew)); exact HO746.out))) (below_size (by repeat (first | (with_reducible first | exact HB.out | apply below_alloc | apply pw_below_drewN | apply below_drew1) | exact HB.out)))); have n5_ := Aside0.mk (below_step (by repeat (first | (with_reducible first | exact HB.out | apply below_alloc | apply pw_below_drewN | apply below_drew1) | exact HB.out)) hb); clear HO736; clear HO739; clear HO743; clear HO746; clear HB; have HO736 := n0_; have HO739 := n1_; have HO743 := n2_; have HO746 := n3_; have HO750 := n4_; have HB := n5_; clear n0_ n1_ n2_ n3_ n4_ n5_; (try clear hb); (try clear hb2); (try clear hk); (try clear hi); (try clear ho0); obtain ⟨Ao140, co140, eo140⟩ := Kd.R_slice HO743.out; subst eo140; obtain ⟨Ao141, co141, eo141⟩ := Kd.R_slice HO750.out; subst eo141))
                                      go_ret
                                      exact ⟨by first | rfl | (simp [errW_none, errW_some] <;> rfl) | (simp only [← hji119]; first | rfl | (simp [errW_none, errW_some] <;> rfl)) | (simp [*, errW_none, errW_some] <;> rfl), by repeat (first | (with_reducible first | exact HB.out | apply below_alloc | apply pw_below_drewN | apply below_drew1) | exact HB.out)⟩
                                    · rw [if_neg c127] at H
                                      have c127b0 : (t748 == 40) = false := beq_eq_false_iff_ne.mpr c127
                                      have c127b1 : (t748 != 40) = true := bne_iff_ne.mpr c127
                                      obtain rfl := Option.some.inj H
                                      try go_wp2
                                      have n0_ := Aside0.mk (below_drew1 HB.out)
                                      clear HB
                                      have HB := n0_
                                      clear n0_
                                      have p733 : 0 ≤ ((ji119) : Int) := of_decide_eq_true (by first | (with_reducible assumption) | assumption)
                                      have q733 : (ji119) < (l0.length : Int) := of_decide_eq_true (by first | (with_reducible assumption) | assumption)
                                      obtain ⟨ad733, e733, hx733_0, hx733_1⟩ := at_T41 HR0.out (ji119) p733 q733
                                      have hw733_1 := hx733_1
                                      have hw733_0 := hx733_0
                                      cases e733
                                      replace hx733_0 := (HB.out.cell (World.block_lt_of_cell? w _ hx733_0)).trans hx733_0
                                      replace hx733_1 := (HB.out.cell (World.block_lt_of_cell? w _ hx733_1)).trans hx733_1
                                      replace p733 := eq_true p733
                                      replace q733 := eq_true q733
                                      refine start_ (n := 14) (S := fun w' => w'.cell? (ad733.add (((ji119)).toNat * 2)) = some (.string ((rd_T41 l0 (ji119)).f0)) ∧ w'.cell? ⟨(ad733.add (((ji119)).toNat * 2)).block, (ad733.add (((ji119)).toNat * 2)).off + 1, none⟩ = some (.string ((rd_T41 l0 (ji119)).f1))) (ds := []) #[false, false, false, false, false, false, false, false, false, false, false, false, false, false] (by kernel_rfl) rfl rfl ⟨((HB.out.cell (World.block_lt_of_cell? w _ hw733_0)).trans hw733_0), ((HB.out.cell (World.block_lt_of_cell? w _ hw733_1)).trans hw733_1)⟩ (fun hHeld => ?_); refine with_tabW rampartlaw04_KeysOrder.tab22 rampartlaw04_KeysOrder.bits22 (fun HT_ HW_ => ?_)
                                      generalize wc.drew = w142 at HB hx733_0 hx733_1 hHeld ⊢
                                      refine pure_ (i := 0) (N := some 147) (v := ?_) (a' := ?_) #[true, false, false, false, false, false, false, false, false, false, false, false, false, false] rfl rfl (any_of HT_.out (by kernel_rfl)) (fun _ _ _ h => h) (Or.inl ⟨by rfl, ?_⟩) ?_ ?_
                                      rotate_left
                                      · intro w'
                                        go_simp
                                        with_reducible rfl
                                      rotate_left
                                      · simp only [Act.put, List.setIfInBounds_toArray, List.set_cons_zero, List.set_cons_succ, i64_w, i32_w]
                                        rfl
                                      refine pure_ (i := 2) (N := some 149) (v := ?_) (a' := ?_) #[true, false, true, false, false, false, false, false, false, false, false, false, false, false] rfl rfl (any_of HT_.out (by kernel_rfl)) (fun _ _ _ h => h) (Or.inl ⟨by rfl, ?_⟩) ?_ ?_
                                      rotate_left
                                      · intro w'
                                        go_simp
                                        with_reducible rfl
                                      rotate_left
                                      · simp only [Act.put, List.setIfInBounds_toArray, List.set_cons_zero, List.set_cons_succ, i64_w, i32_w]
                                        rfl
                                      refine pure_ (i := 3) (N := some 150) (v := ?_) (a' := ?_) #[true, false, true, true, false, false, false, false, false, false, false, false, false, false] rfl rfl (any_of HT_.out (by kernel_rfl)) (fun _ _ _ h => h) (Or.inl ⟨by rfl, ?_⟩) ?_ ?_
                                      rotate_left
                                      · intro w'
                                        go_simp
                                        with_reducible rfl
                                      rotate_left
                                      · simp only [Act.put, List.setIfInBounds_toArray, List.set_cons_zero, List.set_cons_succ, i64_w, i32_w]
                                        rfl
                                      refine pure_ (i := 4) (N := some 151) (v := ?_) (a' := ?_) #[true, false, true, true, true, false, false, false, false, false, false, false, false, false] rfl rfl (any_of HT_.out (by kernel_rfl)) (fun _ _ _ h => h) (Or.inl ⟨by rfl, ?_⟩) ?_ ?_
                                      rotate_left
                                      · intro w'
                                        go_simp
                                        with_reducible rfl
                                      rotate_left
                                      · simp only [Act.put, List.setIfInBounds_toArray, List.set_cons_zero, List.set_cons_succ, i64_w, i32_w]
                                        rfl
                                      refine pure_ (i := 5) (N := some 152) (v := ?_) (a' := ?_) #[true, false, true, true, true, true, false, false, false, false, false, false, false, false] rfl rfl (any_of HT_.out (by kernel_rfl)) (fun _ _ _ h => h) (Or.inl ⟨by rfl, ?_⟩) ?_ ?_
                                      rotate_left
                                      · intro w'
                                        go_simp
                                        with_reducible rfl
                                      rotate_left
                                      · simp only [Act.put, List.setIfInBounds_toArray, List.set_cons_zero, List.set_cons_succ, i64_w, i32_w]
                                        rfl
                                      refine pure_ (i := 6) (N := some 153) (v := ?_) (a' := ?_) #[true, false, true, true, true, true, true, false, false, false, false, false, false, false] rfl rfl (any_of HT_.out (by kernel_rfl)) (fun _ _ _ h => h) (Or.inl ⟨by rfl, ?_⟩) ?_ ?_
                                      rotate_left
                                      · intro w'
                                        go_simp
                                        with_reducible rfl
                                      rotate_left
                                      · simp only [Act.put, List.setIfInBounds_toArray, List.set_cons_zero, List.set_cons_succ, i64_w, i32_w]
                                        rfl
                                      refine pure_ (i := 7) (N := some 154) (v := ?_) (a' := ?_) #[true, false, true, true, true, true, true, true, false, false, false, false, false, false] rfl rfl (any_of HT_.out (by kernel_rfl)) (fun _ _ _ h => h) (Or.inl ⟨by rfl, ?_⟩) ?_ ?_
                                      rotate_left
                                      · intro w'
                                        go_simp
                                        with_reducible rfl
                                      rotate_left
                                      · simp only [Act.put, List.setIfInBounds_toArray, List.set_cons_zero, List.set_cons_succ, i64_w, i32_w]
                                        rfl
                                      refine pure_ (i := 8) (N := some 155) (v := ?_) (a' := ?_) #[true, false, true, true, true, true, true, true, true, false, false, false, false, false] rfl rfl (any_of HT_.out (by kernel_rfl)) (fun _ _ _ h => h) (Or.inl ⟨by rfl, ?_⟩) ?_ ?_
                                      rotate_left
                                      · intro w'
                                        go_simp
                                        with_reducible rfl
                                      rotate_left
                                      · simp only [Act.put, List.setIfInBounds_toArray, List.set_cons_zero, List.set_cons_succ, i64_w, i32_w]
                                        rfl
                                      refine pure_ (i := 9) (N := some 156) (v := ?_) (a' := ?_) #[true, false, true, true, true, true, true, true, true, true, false, false, false, false] rfl rfl (any_of HT_.out (by kernel_rfl)) (fun _ _ _ h => h) (Or.inl ⟨by rfl, ?_⟩) ?_ ?_
                                      rotate_left
                                      · intro w'
                                        go_simp
                                        with_reducible rfl
                                      rotate_left
                                      · simp only [Act.put, List.setIfInBounds_toArray, List.set_cons_zero, List.set_cons_succ, i64_w, i32_w]
                                        rfl
                                      refine take_ (i := 10) (N := some 157) (v := ?_) (a' := ?_) #[true, false, true, true, true, true, true, true, true, true, true, false, false, false] rfl rfl (take_ofW HT_.out HW_.out (by kernel_rfl)) (fun _ _ _ h => h) (Or.inl ⟨by rfl, ?_⟩) hHeld ?_ ?_
                                      rotate_left
                                      · rintro w' ⟨s0, s1⟩
                                        go_simp
                                        with_reducible rfl
                                      rotate_left
                                      · simp only [Act.put, List.setIfInBounds_toArray, List.set_cons_zero, List.set_cons_succ, i64_w, i32_w]
                                        rfl
                                      refine join_ (σ := Value × Value) 2 #[true, true, true, true, true, true, true, true, true, true, true, true, false, false] (fun s_ => [(148, s_.1), (158, s_.2)]) (fun s_ w' => (w'.cell? (ad733.add (((ji119)).toNat * 2)) = some (.string ((rd_T41 l0 (ji119)).f0)) ∧ w'.cell? ⟨(ad733.add (((ji119)).toNat * 2)).block, (ad733.add (((ji119)).toNat * 2)).off + 1, none⟩ = some (.string ((rd_T41 l0 (ji119)).f1))) ∧ (Kd.R k41 41 w' w.heap.size (fun k_ => some k_ ≠ (s_.2 : Value).ownBlock) s_.1 t730) ∧ (Kd.R k41 41 w' w.heap.size (fun k_ => some k_ ≠ (s_.1 : Value).ownBlock) s_.2 y734) ∧ (Below w.heap.size w w')) ?_ ?_
                                      rotate_left
                                      · intro hCont
                                        refine two_ (i := 1) (j := 11) (Ni := some 148) (Nj := some 158) #[true, true, true, true, true, true, true, true, true, true, true, false, false, false] #[true, false, true, true, true, true, true, true, true, true, true, true, false, false] rfl rfl rfl rfl (two_of HT_.out (by kernel_rfl)) (by decide) (by decide) (fun K hK => ?_) (fun K hK => ?_)
                                        · skip
                                          refine goes_ Try.func26 (by kernel_rfl) rfl #[.slice (some ad733) l0.length c0] (by rfl) rfl rfl (by (try simp only [List.map_toArray, List.map_cons, List.map_nil]); first | done | rfl | (simp only [List.length_drop, List.length_take]; rfl)) ?_
                                          with_reducible refine (rampartlaw04_ownPairs.calls _ _ l0 t730 _ ?side1 ?side2 A117.out).mono ?_
                                          (case side1 => repeat (first | exact (Kd.C_below HR0.out HB.out) | (with_reducible refine Kd.C_alloc ?_ _) | (with_reducible refine Kd.C_drewN ?_ _) | (with_reducible refine Kd.C_drew ?_)))
                                          (case side2 => exact HC0.out)
                                          rintro e w143 ⟨v731, rfl, ho0, hb⟩
                                          refine ⟨_, rfl, ?_⟩
                                          have n0_ := Aside0.mk (Kd.R_lower ho0 (below_size (by repeat (first | (with_reducible first | exact HB.out | apply below_alloc | apply pw_below_drewN | apply below_drew1) | exact HB.out))))
                                          have n1_ := Aside0.mk (below_step (by repeat (first | (with_reducible first | exact HB.out | apply below_alloc | apply pw_below_drewN | apply below_drew1) | exact HB.out)) hb)
                                          clear HB
                                          have HO732 := n0_
                                          have HB := n1_
                                          clear n0_ n1_
                                          (try clear hb)
                                          (try clear hb2)
                                          (try clear hk)
                                          (try clear hi)
                                          (try clear ho0)
                                          refine hK.out _ _ ⟨((HB.out.cell (World.block_lt_of_cell? w _ hw733_0)).trans hw733_0), ((HB.out.cell (World.block_lt_of_cell? w _ hw733_1)).trans hw733_1)⟩ (fun hHeld => ?_)
                                          clear hK K
                                          refine norm_ (a' := ?_) ?_ ?_
                                          rotate_left
                                          · show Act.put _ (some 148) _ = _
                                            simp only [Act.put, List.setIfInBounds_toArray, List.set_cons_zero, List.set_cons_succ, i64_w, i32_w]
                                            rfl
                                          refine one_ (i := 11) (N := some 158) #[true, true, true, true, true, true, true, true, true, true, true, true, false, false] rfl rfl (one_of HT_.out (by kernel_rfl)) (by decide) (fun K hK => ?_)
                                          refine Kd.R_lit_step k41 _ 41 ?hg (N := 158) ?hd (xs := ([(⟨(rd_T41 l0 (ji119)).f0, (rd_T41 l0 (ji119)).f1⟩ : S41)] : List (S41))) (inner := [.string ((rd_T41 l0 (ji119)).f0), .string ((rd_T41 l0 (ji119)).f1)]) (ok := fun _ => True) (okp := fun _ => True) ?hr ?hp (fun _ hk => hk) trivial (Below.refl _ _) (Nat.le_refl _) (by simp) ?_; (case hd => rfl); (case hg => rfl); (case hr => first | (go_simp; done) | (go_simp; rfl)); (case hp => exact (Reps.c2 (show Kd.M k41 _ _ _ (⟨(rd_T41 l0 (ji119)).f0, (rd_T41 l0 (ji119)).f1⟩ : S41) [.string ((rd_T41 l0 (ji119)).f0), .string ((rd_T41 l0 (ji119)).f1)] from (k41_mkM _ _ _ (⟨(rd_T41 l0 (ji119)).f0, (rd_T41 l0 (ji119)).f1⟩ : S41) )) (Reps.none _ _)))
                                          intro v735 w144 ho145 hb hg_ hnew_
                                          clear hg_ hnew_
                                          (first | rw [← Ny734.out] at ho145 | (simp only [Int.reduceToNat] at ho145; rw [← Ny734.out] at ho145))
                                          have n0_ := Aside0.mk (Kd.R_elder' (by (with_reducible repeat (first | apply Kd.R_alloc | apply Kd.R_drewN | apply Kd.R_drew)); exact HO732.out) (Kd.R_base ho145) hb)
                                          have n1_ := Aside0.mk (Kd.R_lower (Kd.R_new' ho145 (Kd.R_lt (by (with_reducible repeat (first | apply Kd.R_alloc | apply Kd.R_drewN | apply Kd.R_drew)); exact HO732.out))) (below_size (by repeat (first | (with_reducible first | exact HB.out | apply below_alloc | apply pw_below_drewN | apply below_drew1) | exact HB.out))))
                                          have n2_ := Aside0.mk (below_step (by repeat (first | (with_reducible first | exact HB.out | apply below_alloc | apply pw_below_drewN | apply below_drew1) | exact HB.out)) hb)
                                          clear HO732
                                          clear HB
                                          have HO732 := n0_
                                          have HO736 := n1_
                                          have HB := n2_
                                          clear n0_ n1_ n2_
                                          clear hb ho145
                                          refine hK.out _ _ ⟨((HB.out.cell (World.block_lt_of_cell? w _ hw733_0)).trans hw733_0), ((HB.out.cell (World.block_lt_of_cell? w _ hw733_1)).trans hw733_1)⟩ (fun hHeld => ?_)
                                          clear hK K
                                          refine norm_ (a' := ?_) ?_ ?_
                                          rotate_left
                                          · show Act.put _ (some 158) _ = _
                                            simp only [Act.put, List.setIfInBounds_toArray, List.set_cons_zero, List.set_cons_succ, i64_w, i32_w]
                                            rfl
                                          exact norm_ (by simp only [putAll, Act.put, List.setIfInBounds_toArray, List.set_cons_zero, List.set_cons_succ]) (hCont (v731, v735) _ ⟨hHeld, (by (with_reducible repeat (first | apply Kd.R_alloc | apply Kd.R_drewN | apply Kd.R_drew)); exact Kd.R_mono HO732.out (fun _ hk => hk.2)), (by (with_reducible repeat (first | apply Kd.R_alloc | apply Kd.R_drewN | apply Kd.R_drew)); exact Kd.R_mono HO736.out (fun _ hk => hk.2)), (by repeat (first | (with_reducible first | exact HB.out | apply below_alloc | apply pw_below_drewN | apply below_drew1) | exact HB.out))⟩)
                                        · skip
                                          refine Kd.R_lit_step k41 _ 41 ?hg (N := 158) ?hd (xs := ([(⟨(rd_T41 l0 (ji119)).f0, (rd_T41 l0 (ji119)).f1⟩ : S41)] : List (S41))) (inner := [.string ((rd_T41 l0 (ji119)).f0), .string ((rd_T41 l0 (ji119)).f1)]) (ok := fun _ => True) (okp := fun _ => True) ?hr ?hp (fun _ hk => hk) trivial (Below.refl _ _) (Nat.le_refl _) (by simp) ?_; (case hd => rfl); (case hg => rfl); (case hr => first | (go_simp; done) | (go_simp; rfl)); (case hp => exact (Reps.c2 (show Kd.M k41 _ _ _ (⟨(rd_T41 l0 (ji119)).f0, (rd_T41 l0 (ji119)).f1⟩ : S41) [.string ((rd_T41 l0 (ji119)).f0), .string ((rd_T41 l0 (ji119)).f1)] from (k41_mkM _ _ _ (⟨(rd_T41 l0 (ji119)).f0, (rd_T41 l0 (ji119)).f1⟩ : S41) )) (Reps.none _ _)))
                                          intro v735 w143 ho144 hb hg_ hnew_
                                          clear hg_ hnew_
                                          (first | rw [← Ny734.out] at ho144 | (simp only [Int.reduceToNat] at ho144; rw [← Ny734.out] at ho144))
                                          have n0_ := Aside0.mk (Kd.R_lower ho144 (below_size (by repeat (first | (with_reducible first | exact HB.out | apply below_alloc | apply pw_below_drewN | apply below_drew1) | exact HB.out))))
                                          have n1_ := Aside0.mk (below_step (by repeat (first | (with_reducible first | exact HB.out | apply below_alloc | apply pw_below_drewN | apply below_drew1) | exact HB.out)) hb)
                                          clear HB
                                          have HO736 := n0_
                                          have HB := n1_
                                          clear n0_ n1_
                                          clear hb ho144
                                          refine hK.out _ _ ⟨((HB.out.cell (World.block_lt_of_cell? w _ hw733_0)).trans hw733_0), ((HB.out.cell (World.block_lt_of_cell? w _ hw733_1)).trans hw733_1)⟩ (fun hHeld => ?_)
                                          clear hK K
                                          refine norm_ (a' := ?_) ?_ ?_
                                          rotate_left
                                          · show Act.put _ (some 158) _ = _
                                            simp only [Act.put, List.setIfInBounds_toArray, List.set_cons_zero, List.set_cons_succ, i64_w, i32_w]
                                            rfl
                                          refine one_ (i := 1) (N := some 148) #[true, true, true, true, true, true, true, true, true, true, true, true, false, false] rfl rfl (one_of HT_.out (by kernel_rfl)) (by decide) (fun K hK => ?_)
                                          refine goes_ Try.func26 (by kernel_rfl) rfl #[.slice (some ad733) l0.length c0] (by rfl) rfl rfl (by (try simp only [List.map_toArray, List.map_cons, List.map_nil]); first | done | rfl | (simp only [List.length_drop, List.length_take]; rfl)) ?_
                                          with_reducible refine (rampartlaw04_ownPairs.calls _ _ l0 t730 _ ?side1 ?side2 A117.out).mono ?_
                                          (case side1 => repeat (first | exact (Kd.C_below HR0.out HB.out) | (with_reducible refine Kd.C_alloc ?_ _) | (with_reducible refine Kd.C_drewN ?_ _) | (with_reducible refine Kd.C_drew ?_)))
                                          (case side2 => exact HC0.out)
                                          rintro e w145 ⟨v731, rfl, ho0, hb⟩
                                          refine ⟨_, rfl, ?_⟩
                                          have n0_ := Aside0.mk (Kd.R_elder' (by (with_reducible repeat (first | apply Kd.R_alloc | apply Kd.R_drewN | apply Kd.R_drew)); exact HO736.out) (Kd.R_base ho0) hb)
                                          have n1_ := Aside0.mk (Kd.R_lower (Kd.R_new' ho0 (Kd.R_lt (by (with_reducible repeat (first | apply Kd.R_alloc | apply Kd.R_drewN | apply Kd.R_drew)); exact HO736.out))) (below_size (by repeat (first | (with_reducible first | exact HB.out | apply below_alloc | apply pw_below_drewN | apply below_drew1) | exact HB.out))))
                                          have n2_ := Aside0.mk (below_step (by repeat (first | (with_reducible first | exact HB.out | apply below_alloc | apply pw_below_drewN | apply below_drew1) | exact HB.out)) hb)
                                          clear HO736
                                          clear HB
                                          have HO736 := n0_
                                          have HO732 := n1_
                                          have HB := n2_
                                          clear n0_ n1_ n2_
                                          (try clear hb)
                                          (try clear hb2)
                                          (try clear hk)
                                          (try clear hi)
                                          (try clear ho0)
                                          refine hK.out _ _ ⟨((HB.out.cell (World.block_lt_of_cell? w _ hw733_0)).trans hw733_0), ((HB.out.cell (World.block_lt_of_cell? w _ hw733_1)).trans hw733_1)⟩ (fun hHeld => ?_)
                                          clear hK K
                                          refine norm_ (a' := ?_) ?_ ?_
                                          rotate_left
                                          · show Act.put _ (some 148) _ = _
                                            simp only [Act.put, List.setIfInBounds_toArray, List.set_cons_zero, List.set_cons_succ, i64_w, i32_w]
                                            rfl
                                          exact norm_ (by simp only [putAll, Act.put, List.setIfInBounds_toArray, List.set_cons_zero, List.set_cons_succ]) (hCont (v731, v735) _ ⟨hHeld, (by (with_reducible repeat (first | apply Kd.R_alloc | apply Kd.R_drewN | apply Kd.R_drew)); exact Kd.R_mono HO732.out (fun _ hk => hk.2)), (by (with_reducible repeat (first | apply Kd.R_alloc | apply Kd.R_drewN | apply Kd.R_drew)); exact Kd.R_mono HO736.out (fun _ hk => hk.2)), (by repeat (first | (with_reducible first | exact HB.out | apply below_alloc | apply pw_below_drewN | apply below_drew1) | exact HB.out))⟩)
                                      rintro ⟨v731, v735⟩ w146 ⟨hS_, h0_, h1_, h2_⟩
                                      have n0_ : Aside0 (Kd.R k41 41 w146 w.heap.size (fun k_ => some k_ ≠ (v735 : Value).ownBlock) v731 t730) := ⟨h0_⟩
                                      have n1_ : Aside0 (Kd.R k41 41 w146 w.heap.size (fun k_ => some k_ ≠ (v731 : Value).ownBlock) v735 y734) := ⟨h1_⟩
                                      have n2_ : Aside0 (Below w.heap.size w w146) := ⟨h2_⟩
                                      clear HB
                                      clear h0_ h1_ h2_
                                      have HO732 := n0_
                                      have HO736 := n1_
                                      have HB := n2_
                                      clear n0_ n1_ n2_
                                      have hHeld : w146.cell? (ad733.add (((ji119)).toNat * 2)) = some (.string ((rd_T41 l0 (ji119)).f0)) ∧ w146.cell? ⟨(ad733.add (((ji119)).toNat * 2)).block, (ad733.add (((ji119)).toNat * 2)).off + 1, none⟩ = some (.string ((rd_T41 l0 (ji119)).f1)) := hS_
                                      obtain ⟨Ao148, co148, eo148⟩ := Kd.R_slice HO736.out
                                      (first | subst eo148 | (injection eo148 with f1_ f2_ f3_; have f4_ := f1_.symm; have f5_ := f3_.symm; clear f1_ f2_ f3_; subst f4_; subst f5_))
                                      refine norm_ (a' := ?_) ?_ ?_
                                      rotate_left
                                      · simp only [putAll, Act.put, List.setIfInBounds_toArray, List.set_cons_zero, List.set_cons_succ]
                                        rfl
                                      refine one_ (i := 12) (N := some 159) #[true, true, true, true, true, true, true, true, true, true, true, true, true, false] rfl rfl (one_of HT_.out (by kernel_rfl)) (by decide) (fun K hK => ?_)
                                      refine Kd.R_append_rows_step k41 (w0 := w) w.heap.size (by rfl) (.tmp 148) (.tmp 158) 33 41 (.agg #[(.string ⟨#[]⟩), (.string ⟨#[]⟩)]) 32 rfl Try.underlying33 info41 rfl (by decide) (by omega) v731 t730 y734 _ _ _ (fun k_ => some k_ ≠ (.slice Ao148 y734.length co148 : Value).ownBlock) (fun _ => False) rfl rfl ?aO ?aR (fun _ _ h => h) (fun _ h => h.elim) ?aF ?aB ?aS ?aL ?_
                                      (case aR => repeat (first | exact (Kd.R_reads' HO736.out).2.2 | (with_reducible refine Kd.C_alloc ?_ _) | (with_reducible refine Kd.C_drewN ?_ _) | (with_reducible refine Kd.C_drew ?_)))
                                      (case aB => exact (by repeat (first | (with_reducible first | exact HB.out | apply below_alloc | apply pw_below_drewN | apply below_drew1) | exact HB.out)))
                                      (case aF => exact (fun k_ hk => Kd.fresh' (Kd.R_lt (by (with_reducible repeat (first | apply Kd.R_alloc | apply Kd.R_drewN | apply Kd.R_drew)); exact HO736.out)) k_ hk))
                                      (case aO => exact (by (with_reducible repeat (first | apply Kd.R_alloc | apply Kd.R_drewN | apply Kd.R_drew)); exact HO732.out))
                                      (case aS => exact (below_size (by repeat (first | (with_reducible first | exact HB.out | apply below_alloc | apply pw_below_drewN | apply below_drew1) | exact HB.out))))
                                      (case aL => have := LMc122.out; omega)
                                      intro v738 w147 ho hb hg hat
                                      rw [← Ny737.out] at ho
                                      have n0_ := Aside0.mk (Kd.R_after (ok := (fun _ => True)) (by (with_reducible repeat (first | apply Kd.R_alloc | apply Kd.R_drewN | apply Kd.R_drew)); exact Kd.R_mono HO736.out (fun _ hk => ⟨trivial, hk⟩)) hg hat)
                                      have n1_ := Aside0.mk (hb)
                                      have n2_ := Aside0.mk (ho)
                                      clear HO736
                                      clear HB
                                      clear HO732
                                      have HO736 := n0_
                                      have HB := n1_
                                      have HO739 := n2_
                                      clear n0_ n1_ n2_
                                      clear ho hb hg hat
                                      refine hK.out _ _ ⟨((HB.out.cell (World.block_lt_of_cell? w _ hw733_0)).trans hw733_0), ((HB.out.cell (World.block_lt_of_cell? w _ hw733_1)).trans hw733_1)⟩ (fun hHeld => ?_)
                                      clear hK K
                                      refine norm_ (a' := ?_) ?_ ?_
                                      rotate_left
                                      · show Act.put _ (some 159) _ = _
                                        simp only [Act.put, List.setIfInBounds_toArray, List.set_cons_zero, List.set_cons_succ, i64_w, i32_w]
                                        rfl
                                      refine pure_ (i := 13) (N := some 17) (v := ?_) (a' := ?_) #[true, true, true, true, true, true, true, true, true, true, true, true, true, true] rfl rfl (any_of HT_.out (by kernel_rfl)) (fun _ _ _ h => h) (Or.inl ⟨by rfl, ?_⟩) ?_ ?_
                                      rotate_left
                                      · intro w'
                                        go_simp
                                        with_reducible rfl
                                      rotate_left
                                      · simp only [Act.put, List.setIfInBounds_toArray, List.set_cons_zero, List.set_cons_succ, i64_w, i32_w]
                                        rfl
                                      refine done_ (done_of HT_.out (by kernel_rfl)) ?_
                                      obtain ⟨Ao149, co149, eo149⟩ := Kd.R_slice HO739.out
                                      subst eo149
                                      try go_wp2_with (first | ((with_reducible refine gate_callee (f := 25) rfl ?_); refine goesL_ (some 162) rfl rfl Try.func25 (by kernel_rfl) rfl #[.slice Ao149 y737.length co149] rfl (by (try simp only [List.map_toArray, List.map_cons, List.map_nil]); first | done | rfl | (simp only [List.length_drop, List.length_take]; rfl)) ?_; (with_reducible refine (keys_Norm.calls kj46 _ _ y737 t740 t741 _ ?side1 ?side2 A123.out).mono ?_); (case side1 => repeat (first | exact (Kd.R_reads' HO739.out).2.2 | (with_reducible refine Kd.C_alloc ?_ _) | (with_reducible refine Kd.C_drewN ?_ _) | (with_reducible refine Kd.C_drew ?_))); (case side2 => exact (Kd.R_reads' HO739.out).2.1); rintro e w150 ⟨v742, rfl, ho0, hb⟩; refine ⟨_, rfl, ?_⟩; have n0_ := Aside0.mk (Kd.R_elder' (by (with_reducible repeat (first | apply Kd.R_alloc | apply Kd.R_drewN | apply Kd.R_drew)); exact HO736.out) (Kd.R_base ho0) hb); have n1_ := Aside0.mk (Kd.R_elder' (by (with_reducible repeat (first | apply Kd.R_alloc | apply Kd.R_drewN | apply Kd.R_drew)); exact HO739.out) (Kd.R_base ho0) hb); have n2_ := Aside0.mk (Kd.R_lower (Kd.R_new' (Kd.R_new' ho0 (Kd.R_lt (by (with_reducible repeat (first | apply Kd.R_alloc | apply Kd.R_drewN | apply Kd.R_drew)); exact HO736.out))) (Kd.R_lt (by (with_reducible repeat (first | apply Kd.R_alloc | apply Kd.R_drewN | apply Kd.R_drew)); exact HO739.out))) (below_size (by repeat (first | (with_reducible first | exact HB.out | apply below_alloc | apply pw_below_drewN | apply below_drew1) | exact HB.out)))); have n3_ := Aside0.mk (below_step (by repeat (first | (with_reducible first | exact HB.out | apply below_alloc | apply pw_below_drewN | apply below_drew1) | exact HB.out)) hb); clear HO736; clear HO739; clear HB; have HO736 := n0_; have HO739 := n1_; have HO743 := n2_; have HB := n3_; clear n0_ n1_ n2_ n3_; (try clear hb); (try clear hb2); (try clear hk); (try clear hi); (try clear ho0)) | ((with_reducible refine gate_callee (f := 31) rfl ?_); refine goesL_ (some 167) rfl rfl Try.func31 (by kernel_rfl) rfl #[.slice Ao149 y737.length co149] rfl (by (try simp only [List.map_toArray, List.map_cons, List.map_nil]); first | done | rfl | (simp only [List.length_drop, List.length_take]; rfl)) ?_; (with_reducible refine (keys_Names.calls kj46 _ _ y737 t744 _ ?side1 ?side2 A124.out).mono ?_); (case side1 => repeat (first | exact (Kd.R_reads' HO739.out).2.2 | (with_reducible refine Kd.C_alloc ?_ _) | (with_reducible refine Kd.C_drewN ?_ _) | (with_reducible refine Kd.C_drew ?_))); (case side2 => exact (Kd.R_reads' HO739.out).2.1); rintro e w151 ⟨v745, rfl, ho0, hb⟩; refine ⟨_, rfl, ?_⟩; have n0_ := Aside0.mk (Kd.R_below (by (with_reducible repeat (first | apply Kd.R_alloc | apply Kd.R_drewN | apply Kd.R_drew)); exact HO736.out) hb); have n1_ := Aside0.mk (Kd.R_below (by (with_reducible repeat (first | apply Kd.R_alloc | apply Kd.R_drewN | apply Kd.R_drew)); exact HO739.out) hb); have n2_ := Aside0.mk (Kd.R_below (by (with_reducible repeat (first | apply Kd.R_alloc | apply Kd.R_drewN | apply Kd.R_drew)); exact HO743.out) hb); have n3_ := Aside0.mk (Kd.R_lower ho0 (below_size (by repeat (first | (with_reducible first | exact HB.out | apply below_alloc | apply pw_below_drewN | apply below_drew1) | exact HB.out)))); have n4_ := Aside0.mk (below_step (by repeat (first | (with_reducible first | exact HB.out | apply below_alloc | apply pw_below_drewN | apply below_drew1) | exact HB.out)) hb); clear HO736; clear HO739; clear HO743; clear HB; have HO736 := n0_; have HO739 := n1_; have HO743 := n2_; have HO746 := n3_; have HB := n4_; clear n0_ n1_ n2_ n3_ n4_; (try clear hb); (try clear hb2); (try clear hk); (try clear hi); (try clear ho0); obtain ⟨Ao152, co152, eo152⟩ := Kd.R_slice HO746.out; subst eo152) | ((with_reducible refine gate_callee (f := 9) rfl ?_); refine goesL_ (some 168) rfl rfl Try.func9 (by kernel_rfl) rfl #[.slice Ao152 t744.length co152] rfl (by (try simp only [List.map_toArray, List.map_cons, List.map_nil]); first | done | rfl | (simp only [List.length_drop, List.length_take]; rfl)) ?_; (with_reducible refine (keys_Sorted.calls kj46 _ _ t744 t747 t748 _ ?side1 ?side2 A125.out).mono ?_); (case side1 => repeat (first | exact (Kd.R_reads' HO746.out).2.2 | (with_reducible refine Kd.C_alloc ?_ _) | (with_reducible refine Kd.C_drewN ?_ _) | (with_reducible refine Kd.C_drew ?_))); (case side2 => exact (Kd.R_reads' HO746.out).2.1); rintro e w153 ⟨v749, rfl, ho0, hb⟩; refine ⟨_, rfl, ?_⟩; have n0_ := Aside0.mk (Kd.R_below (by (with_reducible repeat (first | apply Kd.R_alloc | apply Kd.R_drewN | apply Kd.R_drew)); exact HO736.out) hb); have n1_ := Aside0.mk (Kd.R_below (by (with_reducible repeat (first | apply Kd.R_alloc | apply Kd.R_drewN | apply Kd.R_drew)); exact HO739.out) hb); have n2_ := Aside0.mk (Kd.R_below (by (with_reducible repeat (first | apply Kd.R_alloc | apply Kd.R_drewN | apply Kd.R_drew)); exact HO743.out) hb); have n3_ := Aside0.mk (Kd.R_elder' (by (with_reducible repeat (first | apply Kd.R_alloc | apply Kd.R_drewN | apply Kd.R_drew)); exact HO746.out) (Kd.R_base ho0) hb); have n4_ := Aside0.mk (Kd.R_lower (Kd.R_new' ho0 (Kd.R_lt (by (with_reducible repeat (first | apply Kd.R_alloc | apply Kd.R_drewN | apply Kd.R_drew)); exact HO746.out))) (below_size (by repeat (first | (with_reducible first | exact HB.out | apply below_alloc | apply pw_below_drewN | apply below_drew1) | exact HB.out)))); have n5_ := Aside0.mk (below_step (by repeat (first | (with_reducible first | exact HB.out | apply below_alloc | apply pw_below_drewN | apply below_drew1) | exact HB.out)) hb); clear HO736; clear HO739; clear HO743; clear HO746; clear HB; have HO736 := n0_; have HO739 := n1_; have HO743 := n2_; have HO746 := n3_; have HO750 := n4_; have HB := n5_; clear n0_ n1_ n2_ n3_ n4_ n5_; (try clear hb); (try clear hb2); (try clear hk); (try clear hi); (try clear ho0)))
                                      go_ret
                                      exact ⟨by first | rfl | (simp [errW_none, errW_some] <;> rfl) | (simp only [← hji119]; first | rfl | (simp [errW_none, errW_some] <;> rfl)) | (simp [*, errW_none, errW_some] <;> rfl), by repeat (first | (with_reducible first | exact HB.out | apply below_alloc | apply pw_below_drewN | apply below_drew1) | exact HB.out)⟩
                                  · rw [if_neg c126] at H
                                    have c126b0 : (t741 == 40) = false := beq_eq_false_iff_ne.mpr c126
                                    have c126b1 : (t741 != 40) = true := bne_iff_ne.mpr c126
                                    obtain rfl := Option.some.inj H
                                    try go_wp2
                                    have n0_ := Aside0.mk (below_drew1 HB.out)
                                    clear HB
                                    have HB := n0_
                                    clear n0_
                                    have p733 : 0 ≤ ((ji119) : Int) := of_decide_eq_true (by first | (with_reducible assumption) | assumption)
                                    have q733 : (ji119) < (l0.length : Int) := of_decide_eq_true (by first | (with_reducible assumption) | assumption)
                                    obtain ⟨ad733, e733, hx733_0, hx733_1⟩ := at_T41 HR0.out (ji119) p733 q733
                                    have hw733_1 := hx733_1
                                    have hw733_0 := hx733_0
                                    cases e733
                                    replace hx733_0 := (HB.out.cell (World.block_lt_of_cell? w _ hx733_0)).trans hx733_0
                                    replace hx733_1 := (HB.out.cell (World.block_lt_of_cell? w _ hx733_1)).trans hx733_1
                                    replace p733 := eq_true p733
                                    replace q733 := eq_true q733
                                    refine start_ (n := 14) (S := fun w' => w'.cell? (ad733.add (((ji119)).toNat * 2)) = some (.string ((rd_T41 l0 (ji119)).f0)) ∧ w'.cell? ⟨(ad733.add (((ji119)).toNat * 2)).block, (ad733.add (((ji119)).toNat * 2)).off + 1, none⟩ = some (.string ((rd_T41 l0 (ji119)).f1))) (ds := []) #[false, false, false, false, false, false, false, false, false, false, false, false, false, false] (by kernel_rfl) rfl rfl ⟨((HB.out.cell (World.block_lt_of_cell? w _ hw733_0)).trans hw733_0), ((HB.out.cell (World.block_lt_of_cell? w _ hw733_1)).trans hw733_1)⟩ (fun hHeld => ?_); refine with_tabW rampartlaw04_KeysOrder.tab22 rampartlaw04_KeysOrder.bits22 (fun HT_ HW_ => ?_)
                                    generalize wc.drew = w154 at HB hx733_0 hx733_1 hHeld ⊢
                                    refine pure_ (i := 0) (N := some 147) (v := ?_) (a' := ?_) #[true, false, false, false, false, false, false, false, false, false, false, false, false, false] rfl rfl (any_of HT_.out (by kernel_rfl)) (fun _ _ _ h => h) (Or.inl ⟨by rfl, ?_⟩) ?_ ?_
                                    rotate_left
                                    · intro w'
                                      go_simp
                                      with_reducible rfl
                                    rotate_left
                                    · simp only [Act.put, List.setIfInBounds_toArray, List.set_cons_zero, List.set_cons_succ, i64_w, i32_w]
                                      rfl
                                    refine pure_ (i := 2) (N := some 149) (v := ?_) (a' := ?_) #[true, false, true, false, false, false, false, false, false, false, false, false, false, false] rfl rfl (any_of HT_.out (by kernel_rfl)) (fun _ _ _ h => h) (Or.inl ⟨by rfl, ?_⟩) ?_ ?_
                                    rotate_left
                                    · intro w'
                                      go_simp
                                      with_reducible rfl
                                    rotate_left
                                    · simp only [Act.put, List.setIfInBounds_toArray, List.set_cons_zero, List.set_cons_succ, i64_w, i32_w]
                                      rfl
                                    refine pure_ (i := 3) (N := some 150) (v := ?_) (a' := ?_) #[true, false, true, true, false, false, false, false, false, false, false, false, false, false] rfl rfl (any_of HT_.out (by kernel_rfl)) (fun _ _ _ h => h) (Or.inl ⟨by rfl, ?_⟩) ?_ ?_
                                    rotate_left
                                    · intro w'
                                      go_simp
                                      with_reducible rfl
                                    rotate_left
                                    · simp only [Act.put, List.setIfInBounds_toArray, List.set_cons_zero, List.set_cons_succ, i64_w, i32_w]
                                      rfl
                                    refine pure_ (i := 4) (N := some 151) (v := ?_) (a' := ?_) #[true, false, true, true, true, false, false, false, false, false, false, false, false, false] rfl rfl (any_of HT_.out (by kernel_rfl)) (fun _ _ _ h => h) (Or.inl ⟨by rfl, ?_⟩) ?_ ?_
                                    rotate_left
                                    · intro w'
                                      go_simp
                                      with_reducible rfl
                                    rotate_left
                                    · simp only [Act.put, List.setIfInBounds_toArray, List.set_cons_zero, List.set_cons_succ, i64_w, i32_w]
                                      rfl
                                    refine pure_ (i := 5) (N := some 152) (v := ?_) (a' := ?_) #[true, false, true, true, true, true, false, false, false, false, false, false, false, false] rfl rfl (any_of HT_.out (by kernel_rfl)) (fun _ _ _ h => h) (Or.inl ⟨by rfl, ?_⟩) ?_ ?_
                                    rotate_left
                                    · intro w'
                                      go_simp
                                      with_reducible rfl
                                    rotate_left
                                    · simp only [Act.put, List.setIfInBounds_toArray, List.set_cons_zero, List.set_cons_succ, i64_w, i32_w]
                                      rfl
                                    refine pure_ (i := 6) (N := some 153) (v := ?_) (a' := ?_) #[true, false, true, true, true, true, true, false, false, false, false, false, false, false] rfl rfl (any_of HT_.out (by kernel_rfl)) (fun _ _ _ h => h) (Or.inl ⟨by rfl, ?_⟩) ?_ ?_
                                    rotate_left
                                    · intro w'
                                      go_simp
                                      with_reducible rfl
                                    rotate_left
                                    · simp only [Act.put, List.setIfInBounds_toArray, List.set_cons_zero, List.set_cons_succ, i64_w, i32_w]
                                      rfl
                                    refine pure_ (i := 7) (N := some 154) (v := ?_) (a' := ?_) #[true, false, true, true, true, true, true, true, false, false, false, false, false, false] rfl rfl (any_of HT_.out (by kernel_rfl)) (fun _ _ _ h => h) (Or.inl ⟨by rfl, ?_⟩) ?_ ?_
                                    rotate_left
                                    · intro w'
                                      go_simp
                                      with_reducible rfl
                                    rotate_left
                                    · simp only [Act.put, List.setIfInBounds_toArray, List.set_cons_zero, List.set_cons_succ, i64_w, i32_w]
                                      rfl
                                    refine pure_ (i := 8) (N := some 155) (v := ?_) (a' := ?_) #[true, false, true, true, true, true, true, true, true, false, false, false, false, false] rfl rfl (any_of HT_.out (by kernel_rfl)) (fun _ _ _ h => h) (Or.inl ⟨by rfl, ?_⟩) ?_ ?_
                                    rotate_left
                                    · intro w'
                                      go_simp
                                      with_reducible rfl
                                    rotate_left
                                    · simp only [Act.put, List.setIfInBounds_toArray, List.set_cons_zero, List.set_cons_succ, i64_w, i32_w]
                                      rfl
                                    refine pure_ (i := 9) (N := some 156) (v := ?_) (a' := ?_) #[true, false, true, true, true, true, true, true, true, true, false, false, false, false] rfl rfl (any_of HT_.out (by kernel_rfl)) (fun _ _ _ h => h) (Or.inl ⟨by rfl, ?_⟩) ?_ ?_
                                    rotate_left
                                    · intro w'
                                      go_simp
                                      with_reducible rfl
                                    rotate_left
                                    · simp only [Act.put, List.setIfInBounds_toArray, List.set_cons_zero, List.set_cons_succ, i64_w, i32_w]
                                      rfl
                                    refine take_ (i := 10) (N := some 157) (v := ?_) (a' := ?_) #[true, false, true, true, true, true, true, true, true, true, true, false, false, false] rfl rfl (take_ofW HT_.out HW_.out (by kernel_rfl)) (fun _ _ _ h => h) (Or.inl ⟨by rfl, ?_⟩) hHeld ?_ ?_
                                    rotate_left
                                    · rintro w' ⟨s0, s1⟩
                                      go_simp
                                      with_reducible rfl
                                    rotate_left
                                    · simp only [Act.put, List.setIfInBounds_toArray, List.set_cons_zero, List.set_cons_succ, i64_w, i32_w]
                                      rfl
                                    refine join_ (σ := Value × Value) 2 #[true, true, true, true, true, true, true, true, true, true, true, true, false, false] (fun s_ => [(148, s_.1), (158, s_.2)]) (fun s_ w' => (w'.cell? (ad733.add (((ji119)).toNat * 2)) = some (.string ((rd_T41 l0 (ji119)).f0)) ∧ w'.cell? ⟨(ad733.add (((ji119)).toNat * 2)).block, (ad733.add (((ji119)).toNat * 2)).off + 1, none⟩ = some (.string ((rd_T41 l0 (ji119)).f1))) ∧ (Kd.R k41 41 w' w.heap.size (fun k_ => some k_ ≠ (s_.2 : Value).ownBlock) s_.1 t730) ∧ (Kd.R k41 41 w' w.heap.size (fun k_ => some k_ ≠ (s_.1 : Value).ownBlock) s_.2 y734) ∧ (Below w.heap.size w w')) ?_ ?_
                                    rotate_left
                                    · intro hCont
                                      refine two_ (i := 1) (j := 11) (Ni := some 148) (Nj := some 158) #[true, true, true, true, true, true, true, true, true, true, true, false, false, false] #[true, false, true, true, true, true, true, true, true, true, true, true, false, false] rfl rfl rfl rfl (two_of HT_.out (by kernel_rfl)) (by decide) (by decide) (fun K hK => ?_) (fun K hK => ?_)
                                      · skip
                                        refine goes_ Try.func26 (by kernel_rfl) rfl #[.slice (some ad733) l0.length c0] (by rfl) rfl rfl (by (try simp only [List.map_toArray, List.map_cons, List.map_nil]); first | done | rfl | (simp only [List.length_drop, List.length_take]; rfl)) ?_
                                        with_reducible refine (rampartlaw04_ownPairs.calls _ _ l0 t730 _ ?side1 ?side2 A117.out).mono ?_
                                        (case side1 => repeat (first | exact (Kd.C_below HR0.out HB.out) | (with_reducible refine Kd.C_alloc ?_ _) | (with_reducible refine Kd.C_drewN ?_ _) | (with_reducible refine Kd.C_drew ?_)))
                                        (case side2 => exact HC0.out)
                                        rintro e w155 ⟨v731, rfl, ho0, hb⟩
                                        refine ⟨_, rfl, ?_⟩
                                        have n0_ := Aside0.mk (Kd.R_lower ho0 (below_size (by repeat (first | (with_reducible first | exact HB.out | apply below_alloc | apply pw_below_drewN | apply below_drew1) | exact HB.out))))
                                        have n1_ := Aside0.mk (below_step (by repeat (first | (with_reducible first | exact HB.out | apply below_alloc | apply pw_below_drewN | apply below_drew1) | exact HB.out)) hb)
                                        clear HB
                                        have HO732 := n0_
                                        have HB := n1_
                                        clear n0_ n1_
                                        (try clear hb)
                                        (try clear hb2)
                                        (try clear hk)
                                        (try clear hi)
                                        (try clear ho0)
                                        refine hK.out _ _ ⟨((HB.out.cell (World.block_lt_of_cell? w _ hw733_0)).trans hw733_0), ((HB.out.cell (World.block_lt_of_cell? w _ hw733_1)).trans hw733_1)⟩ (fun hHeld => ?_)
                                        clear hK K
                                        refine norm_ (a' := ?_) ?_ ?_
                                        rotate_left
                                        · show Act.put _ (some 148) _ = _
                                          simp only [Act.put, List.setIfInBounds_toArray, List.set_cons_zero, List.set_cons_succ, i64_w, i32_w]
                                          rfl
                                        refine one_ (i := 11) (N := some 158) #[true, true, true, true, true, true, true, true, true, true, true, true, false, false] rfl rfl (one_of HT_.out (by kernel_rfl)) (by decide) (fun K hK => ?_)
                                        refine Kd.R_lit_step k41 _ 41 ?hg (N := 158) ?hd (xs := ([(⟨(rd_T41 l0 (ji119)).f0, (rd_T41 l0 (ji119)).f1⟩ : S41)] : List (S41))) (inner := [.string ((rd_T41 l0 (ji119)).f0), .string ((rd_T41 l0 (ji119)).f1)]) (ok := fun _ => True) (okp := fun _ => True) ?hr ?hp (fun _ hk => hk) trivial (Below.refl _ _) (Nat.le_refl _) (by simp) ?_; (case hd => rfl); (case hg => rfl); (case hr => first | (go_simp; done) | (go_simp; rfl)); (case hp => exact (Reps.c2 (show Kd.M k41 _ _ _ (⟨(rd_T41 l0 (ji119)).f0, (rd_T41 l0 (ji119)).f1⟩ : S41) [.string ((rd_T41 l0 (ji119)).f0), .string ((rd_T41 l0 (ji119)).f1)] from (k41_mkM _ _ _ (⟨(rd_T41 l0 (ji119)).f0, (rd_T41 l0 (ji119)).f1⟩ : S41) )) (Reps.none _ _)))
                                        intro v735 w156 ho157 hb hg_ hnew_
                                        clear hg_ hnew_
                                        (first | rw [← Ny734.out] at ho157 | (simp only [Int.reduceToNat] at ho157; rw [← Ny734.out] at ho157))
                                        have n0_ := Aside0.mk (Kd.R_elder' (by (with_reducible repeat (first | apply Kd.R_alloc | apply Kd.R_drewN | apply Kd.R_drew)); exact HO732.out) (Kd.R_base ho157) hb)
                                        have n1_ := Aside0.mk (Kd.R_lower (Kd.R_new' ho157 (Kd.R_lt (by (with_reducible repeat (first | apply Kd.R_alloc | apply Kd.R_drewN | apply Kd.R_drew)); exact HO732.out))) (below_size (by repeat (first | (with_reducible first | exact HB.out | apply below_alloc | apply pw_below_drewN | apply below_drew1) | exact HB.out))))
                                        have n2_ := Aside0.mk (below_step (by repeat (first | (with_reducible first | exact HB.out | apply below_alloc | apply pw_below_drewN | apply below_drew1) | exact HB.out)) hb)
                                        clear HO732
                                        clear HB
                                        have HO732 := n0_
                                        have HO736 := n1_
                                        have HB := n2_
                                        clear n0_ n1_ n2_
                                        clear hb ho157
                                        refine hK.out _ _ ⟨((HB.out.cell (World.block_lt_of_cell? w _ hw733_0)).trans hw733_0), ((HB.out.cell (World.block_lt_of_cell? w _ hw733_1)).trans hw733_1)⟩ (fun hHeld => ?_)
                                        clear hK K
                                        refine norm_ (a' := ?_) ?_ ?_
                                        rotate_left
                                        · show Act.put _ (some 158) _ = _
                                          simp only [Act.put, List.setIfInBounds_toArray, List.set_cons_zero, List.set_cons_succ, i64_w, i32_w]
                                          rfl
                                        exact norm_ (by simp only [putAll, Act.put, List.setIfInBounds_toArray, List.set_cons_zero, List.set_cons_succ]) (hCont (v731, v735) _ ⟨hHeld, (by (with_reducible repeat (first | apply Kd.R_alloc | apply Kd.R_drewN | apply Kd.R_drew)); exact Kd.R_mono HO732.out (fun _ hk => hk.2)), (by (with_reducible repeat (first | apply Kd.R_alloc | apply Kd.R_drewN | apply Kd.R_drew)); exact Kd.R_mono HO736.out (fun _ hk => hk.2)), (by repeat (first | (with_reducible first | exact HB.out | apply below_alloc | apply pw_below_drewN | apply below_drew1) | exact HB.out))⟩)
                                      · skip
                                        refine Kd.R_lit_step k41 _ 41 ?hg (N := 158) ?hd (xs := ([(⟨(rd_T41 l0 (ji119)).f0, (rd_T41 l0 (ji119)).f1⟩ : S41)] : List (S41))) (inner := [.string ((rd_T41 l0 (ji119)).f0), .string ((rd_T41 l0 (ji119)).f1)]) (ok := fun _ => True) (okp := fun _ => True) ?hr ?hp (fun _ hk => hk) trivial (Below.refl _ _) (Nat.le_refl _) (by simp) ?_; (case hd => rfl); (case hg => rfl); (case hr => first | (go_simp; done) | (go_simp; rfl)); (case hp => exact (Reps.c2 (show Kd.M k41 _ _ _ (⟨(rd_T41 l0 (ji119)).f0, (rd_T41 l0 (ji119)).f1⟩ : S41) [.string ((rd_T41 l0 (ji119)).f0), .string ((rd_T41 l0 (ji119)).f1)] from (k41_mkM _ _ _ (⟨(rd_T41 l0 (ji119)).f0, (rd_T41 l0 (ji119)).f1⟩ : S41) )) (Reps.none _ _)))
                                        intro v735 w155 ho156 hb hg_ hnew_
                                        clear hg_ hnew_
                                        (first | rw [← Ny734.out] at ho156 | (simp only [Int.reduceToNat] at ho156; rw [← Ny734.out] at ho156))
                                        have n0_ := Aside0.mk (Kd.R_lower ho156 (below_size (by repeat (first | (with_reducible first | exact HB.out | apply below_alloc | apply pw_below_drewN | apply below_drew1) | exact HB.out))))
                                        have n1_ := Aside0.mk (below_step (by repeat (first | (with_reducible first | exact HB.out | apply below_alloc | apply pw_below_drewN | apply below_drew1) | exact HB.out)) hb)
                                        clear HB
                                        have HO736 := n0_
                                        have HB := n1_
                                        clear n0_ n1_
                                        clear hb ho156
                                        refine hK.out _ _ ⟨((HB.out.cell (World.block_lt_of_cell? w _ hw733_0)).trans hw733_0), ((HB.out.cell (World.block_lt_of_cell? w _ hw733_1)).trans hw733_1)⟩ (fun hHeld => ?_)
                                        clear hK K
                                        refine norm_ (a' := ?_) ?_ ?_
                                        rotate_left
                                        · show Act.put _ (some 158) _ = _
                                          simp only [Act.put, List.setIfInBounds_toArray, List.set_cons_zero, List.set_cons_succ, i64_w, i32_w]
                                          rfl
                                        refine one_ (i := 1) (N := some 148) #[true, true, true, true, true, true, true, true, true, true, true, true, false, false] rfl rfl (one_of HT_.out (by kernel_rfl)) (by decide) (fun K hK => ?_)
                                        refine goes_ Try.func26 (by kernel_rfl) rfl #[.slice (some ad733) l0.length c0] (by rfl) rfl rfl (by (try simp only [List.map_toArray, List.map_cons, List.map_nil]); first | done | rfl | (simp only [List.length_drop, List.length_take]; rfl)) ?_
                                        with_reducible refine (rampartlaw04_ownPairs.calls _ _ l0 t730 _ ?side1 ?side2 A117.out).mono ?_
                                        (case side1 => repeat (first | exact (Kd.C_below HR0.out HB.out) | (with_reducible refine Kd.C_alloc ?_ _) | (with_reducible refine Kd.C_drewN ?_ _) | (with_reducible refine Kd.C_drew ?_)))
                                        (case side2 => exact HC0.out)
                                        rintro e w157 ⟨v731, rfl, ho0, hb⟩
                                        refine ⟨_, rfl, ?_⟩
                                        have n0_ := Aside0.mk (Kd.R_elder' (by (with_reducible repeat (first | apply Kd.R_alloc | apply Kd.R_drewN | apply Kd.R_drew)); exact HO736.out) (Kd.R_base ho0) hb)
                                        have n1_ := Aside0.mk (Kd.R_lower (Kd.R_new' ho0 (Kd.R_lt (by (with_reducible repeat (first | apply Kd.R_alloc | apply Kd.R_drewN | apply Kd.R_drew)); exact HO736.out))) (below_size (by repeat (first | (with_reducible first | exact HB.out | apply below_alloc | apply pw_below_drewN | apply below_drew1) | exact HB.out))))
                                        have n2_ := Aside0.mk (below_step (by repeat (first | (with_reducible first | exact HB.out | apply below_alloc | apply pw_below_drewN | apply below_drew1) | exact HB.out)) hb)
                                        clear HO736
                                        clear HB
                                        have HO736 := n0_
                                        have HO732 := n1_
                                        have HB := n2_
                                        clear n0_ n1_ n2_
                                        (try clear hb)
                                        (try clear hb2)
                                        (try clear hk)
                                        (try clear hi)
                                        (try clear ho0)
                                        refine hK.out _ _ ⟨((HB.out.cell (World.block_lt_of_cell? w _ hw733_0)).trans hw733_0), ((HB.out.cell (World.block_lt_of_cell? w _ hw733_1)).trans hw733_1)⟩ (fun hHeld => ?_)
                                        clear hK K
                                        refine norm_ (a' := ?_) ?_ ?_
                                        rotate_left
                                        · show Act.put _ (some 148) _ = _
                                          simp only [Act.put, List.setIfInBounds_toArray, List.set_cons_zero, List.set_cons_succ, i64_w, i32_w]
                                          rfl
                                        exact norm_ (by simp only [putAll, Act.put, List.setIfInBounds_toArray, List.set_cons_zero, List.set_cons_succ]) (hCont (v731, v735) _ ⟨hHeld, (by (with_reducible repeat (first | apply Kd.R_alloc | apply Kd.R_drewN | apply Kd.R_drew)); exact Kd.R_mono HO732.out (fun _ hk => hk.2)), (by (with_reducible repeat (first | apply Kd.R_alloc | apply Kd.R_drewN | apply Kd.R_drew)); exact Kd.R_mono HO736.out (fun _ hk => hk.2)), (by repeat (first | (with_reducible first | exact HB.out | apply below_alloc | apply pw_below_drewN | apply below_drew1) | exact HB.out))⟩)
                                    rintro ⟨v731, v735⟩ w158 ⟨hS_, h0_, h1_, h2_⟩
                                    have n0_ : Aside0 (Kd.R k41 41 w158 w.heap.size (fun k_ => some k_ ≠ (v735 : Value).ownBlock) v731 t730) := ⟨h0_⟩
                                    have n1_ : Aside0 (Kd.R k41 41 w158 w.heap.size (fun k_ => some k_ ≠ (v731 : Value).ownBlock) v735 y734) := ⟨h1_⟩
                                    have n2_ : Aside0 (Below w.heap.size w w158) := ⟨h2_⟩
                                    clear HB
                                    clear h0_ h1_ h2_
                                    have HO732 := n0_
                                    have HO736 := n1_
                                    have HB := n2_
                                    clear n0_ n1_ n2_
                                    have hHeld : w158.cell? (ad733.add (((ji119)).toNat * 2)) = some (.string ((rd_T41 l0 (ji119)).f0)) ∧ w158.cell? ⟨(ad733.add (((ji119)).toNat * 2)).block, (ad733.add (((ji119)).toNat * 2)).off + 1, none⟩ = some (.string ((rd_T41 l0 (ji119)).f1)) := hS_
                                    obtain ⟨Ao160, co160, eo160⟩ := Kd.R_slice HO736.out
                                    (first | subst eo160 | (injection eo160 with f1_ f2_ f3_; have f4_ := f1_.symm; have f5_ := f3_.symm; clear f1_ f2_ f3_; subst f4_; subst f5_))
                                    refine norm_ (a' := ?_) ?_ ?_
                                    rotate_left
                                    · simp only [putAll, Act.put, List.setIfInBounds_toArray, List.set_cons_zero, List.set_cons_succ]
                                      rfl
                                    refine one_ (i := 12) (N := some 159) #[true, true, true, true, true, true, true, true, true, true, true, true, true, false] rfl rfl (one_of HT_.out (by kernel_rfl)) (by decide) (fun K hK => ?_)
                                    refine Kd.R_append_rows_step k41 (w0 := w) w.heap.size (by rfl) (.tmp 148) (.tmp 158) 33 41 (.agg #[(.string ⟨#[]⟩), (.string ⟨#[]⟩)]) 32 rfl Try.underlying33 info41 rfl (by decide) (by omega) v731 t730 y734 _ _ _ (fun k_ => some k_ ≠ (.slice Ao160 y734.length co160 : Value).ownBlock) (fun _ => False) rfl rfl ?aO ?aR (fun _ _ h => h) (fun _ h => h.elim) ?aF ?aB ?aS ?aL ?_
                                    (case aR => repeat (first | exact (Kd.R_reads' HO736.out).2.2 | (with_reducible refine Kd.C_alloc ?_ _) | (with_reducible refine Kd.C_drewN ?_ _) | (with_reducible refine Kd.C_drew ?_)))
                                    (case aB => exact (by repeat (first | (with_reducible first | exact HB.out | apply below_alloc | apply pw_below_drewN | apply below_drew1) | exact HB.out)))
                                    (case aF => exact (fun k_ hk => Kd.fresh' (Kd.R_lt (by (with_reducible repeat (first | apply Kd.R_alloc | apply Kd.R_drewN | apply Kd.R_drew)); exact HO736.out)) k_ hk))
                                    (case aO => exact (by (with_reducible repeat (first | apply Kd.R_alloc | apply Kd.R_drewN | apply Kd.R_drew)); exact HO732.out))
                                    (case aS => exact (below_size (by repeat (first | (with_reducible first | exact HB.out | apply below_alloc | apply pw_below_drewN | apply below_drew1) | exact HB.out))))
                                    (case aL => have := LMc122.out; omega)
                                    intro v738 w159 ho hb hg hat
                                    rw [← Ny737.out] at ho
                                    have n0_ := Aside0.mk (Kd.R_after (ok := (fun _ => True)) (by (with_reducible repeat (first | apply Kd.R_alloc | apply Kd.R_drewN | apply Kd.R_drew)); exact Kd.R_mono HO736.out (fun _ hk => ⟨trivial, hk⟩)) hg hat)
                                    have n1_ := Aside0.mk (hb)
                                    have n2_ := Aside0.mk (ho)
                                    clear HO736
                                    clear HB
                                    clear HO732
                                    have HO736 := n0_
                                    have HB := n1_
                                    have HO739 := n2_
                                    clear n0_ n1_ n2_
                                    clear ho hb hg hat
                                    refine hK.out _ _ ⟨((HB.out.cell (World.block_lt_of_cell? w _ hw733_0)).trans hw733_0), ((HB.out.cell (World.block_lt_of_cell? w _ hw733_1)).trans hw733_1)⟩ (fun hHeld => ?_)
                                    clear hK K
                                    refine norm_ (a' := ?_) ?_ ?_
                                    rotate_left
                                    · show Act.put _ (some 159) _ = _
                                      simp only [Act.put, List.setIfInBounds_toArray, List.set_cons_zero, List.set_cons_succ, i64_w, i32_w]
                                      rfl
                                    refine pure_ (i := 13) (N := some 17) (v := ?_) (a' := ?_) #[true, true, true, true, true, true, true, true, true, true, true, true, true, true] rfl rfl (any_of HT_.out (by kernel_rfl)) (fun _ _ _ h => h) (Or.inl ⟨by rfl, ?_⟩) ?_ ?_
                                    rotate_left
                                    · intro w'
                                      go_simp
                                      with_reducible rfl
                                    rotate_left
                                    · simp only [Act.put, List.setIfInBounds_toArray, List.set_cons_zero, List.set_cons_succ, i64_w, i32_w]
                                      rfl
                                    refine done_ (done_of HT_.out (by kernel_rfl)) ?_
                                    obtain ⟨Ao161, co161, eo161⟩ := Kd.R_slice HO739.out
                                    subst eo161
                                    try go_wp2_with (first | ((with_reducible refine gate_callee (f := 25) rfl ?_); refine goesL_ (some 162) rfl rfl Try.func25 (by kernel_rfl) rfl #[.slice Ao161 y737.length co161] rfl (by (try simp only [List.map_toArray, List.map_cons, List.map_nil]); first | done | rfl | (simp only [List.length_drop, List.length_take]; rfl)) ?_; (with_reducible refine (keys_Norm.calls kj46 _ _ y737 t740 t741 _ ?side1 ?side2 A123.out).mono ?_); (case side1 => repeat (first | exact (Kd.R_reads' HO739.out).2.2 | (with_reducible refine Kd.C_alloc ?_ _) | (with_reducible refine Kd.C_drewN ?_ _) | (with_reducible refine Kd.C_drew ?_))); (case side2 => exact (Kd.R_reads' HO739.out).2.1); rintro e w162 ⟨v742, rfl, ho0, hb⟩; refine ⟨_, rfl, ?_⟩; have n0_ := Aside0.mk (Kd.R_elder' (by (with_reducible repeat (first | apply Kd.R_alloc | apply Kd.R_drewN | apply Kd.R_drew)); exact HO736.out) (Kd.R_base ho0) hb); have n1_ := Aside0.mk (Kd.R_elder' (by (with_reducible repeat (first | apply Kd.R_alloc | apply Kd.R_drewN | apply Kd.R_drew)); exact HO739.out) (Kd.R_base ho0) hb); have n2_ := Aside0.mk (Kd.R_lower (Kd.R_new' (Kd.R_new' ho0 (Kd.R_lt (by (with_reducible repeat (first | apply Kd.R_alloc | apply Kd.R_drewN | apply Kd.R_drew)); exact HO736.out))) (Kd.R_lt (by (with_reducible repeat (first | apply Kd.R_alloc | apply Kd.R_drewN | apply Kd.R_drew)); exact HO739.out))) (below_size (by repeat (first | (with_reducible first | exact HB.out | apply below_alloc | apply pw_below_drewN | apply below_drew1) | exact HB.out)))); have n3_ := Aside0.mk (below_step (by repeat (first | (with_reducible first | exact HB.out | apply below_alloc | apply pw_below_drewN | apply below_drew1) | exact HB.out)) hb); clear HO736; clear HO739; clear HB; have HO736 := n0_; have HO739 := n1_; have HO743 := n2_; have HB := n3_; clear n0_ n1_ n2_ n3_; (try clear hb); (try clear hb2); (try clear hk); (try clear hi); (try clear ho0)) | ((with_reducible refine gate_callee (f := 31) rfl ?_); refine goesL_ (some 167) rfl rfl Try.func31 (by kernel_rfl) rfl #[.slice Ao161 y737.length co161] rfl (by (try simp only [List.map_toArray, List.map_cons, List.map_nil]); first | done | rfl | (simp only [List.length_drop, List.length_take]; rfl)) ?_; (with_reducible refine (keys_Names.calls kj46 _ _ y737 t744 _ ?side1 ?side2 A124.out).mono ?_); (case side1 => repeat (first | exact (Kd.R_reads' HO739.out).2.2 | (with_reducible refine Kd.C_alloc ?_ _) | (with_reducible refine Kd.C_drewN ?_ _) | (with_reducible refine Kd.C_drew ?_))); (case side2 => exact (Kd.R_reads' HO739.out).2.1); rintro e w163 ⟨v745, rfl, ho0, hb⟩; refine ⟨_, rfl, ?_⟩; have n0_ := Aside0.mk (Kd.R_below (by (with_reducible repeat (first | apply Kd.R_alloc | apply Kd.R_drewN | apply Kd.R_drew)); exact HO736.out) hb); have n1_ := Aside0.mk (Kd.R_below (by (with_reducible repeat (first | apply Kd.R_alloc | apply Kd.R_drewN | apply Kd.R_drew)); exact HO739.out) hb); have n2_ := Aside0.mk (Kd.R_below (by (with_reducible repeat (first | apply Kd.R_alloc | apply Kd.R_drewN | apply Kd.R_drew)); exact HO743.out) hb); have n3_ := Aside0.mk (Kd.R_lower ho0 (below_size (by repeat (first | (with_reducible first | exact HB.out | apply below_alloc | apply pw_below_drewN | apply below_drew1) | exact HB.out)))); have n4_ := Aside0.mk (below_step (by repeat (first | (with_reducible first | exact HB.out | apply below_alloc | apply pw_below_drewN | apply below_drew1) | exact HB.out)) hb); clear HO736; clear HO739; clear HO743; clear HB; have HO736 := n0_; have HO739 := n1_; have HO743 := n2_; have HO746 := n3_; have HB := n4_; clear n0_ n1_ n2_ n3_ n4_; (try clear hb); (try clear hb2); (try clear hk); (try clear hi); (try clear ho0); obtain ⟨Ao164, co164, eo164⟩ := Kd.R_slice HO746.out; subst eo164) | ((with_reducible refine gate_callee (f := 9) rfl ?_); refine goesL_ (some 168) rfl rfl Try.func9 (by kernel_rfl) rfl #[.slice Ao164 t744.length co164] rfl (by (try simp only [List.map_toArray, List.map_cons, List.map_nil]); first | done | rfl | (simp only [List.length_drop, List.length_take]; rfl)) ?_; (with_reducible refine (keys_Sorted.calls kj46 _ _ t744 t747 t748 _ ?side1 ?side2 A125.out).mono ?_); (case side1 => repeat (first | exact (Kd.R_reads' HO746.out).2.2 | (with_reducible refine Kd.C_alloc ?_ _) | (with_reducible refine Kd.C_drewN ?_ _) | (with_reducible refine Kd.C_drew ?_))); (case side2 => exact (Kd.R_reads' HO746.out).2.1); rintro e w165 ⟨v749, rfl, ho0, hb⟩; refine ⟨_, rfl, ?_⟩; have n0_ := Aside0.mk (Kd.R_below (by (with_reducible repeat (first | apply Kd.R_alloc | apply Kd.R_drewN | apply Kd.R_drew)); exact HO736.out) hb); have n1_ := Aside0.mk (Kd.R_below (by (with_reducible repeat (first | apply Kd.R_alloc | apply Kd.R_drewN | apply Kd.R_drew)); exact HO739.out) hb); have n2_ := Aside0.mk (Kd.R_below (by (with_reducible repeat (first | apply Kd.R_alloc | apply Kd.R_drewN | apply Kd.R_drew)); exact HO743.out) hb); have n3_ := Aside0.mk (Kd.R_elder' (by (with_reducible repeat (first | apply Kd.R_alloc | apply Kd.R_drewN | apply Kd.R_drew)); exact HO746.out) (Kd.R_base ho0) hb); have n4_ := Aside0.mk (Kd.R_lower (Kd.R_new' ho0 (Kd.R_lt (by (with_reducible repeat (first | apply Kd.R_alloc | apply Kd.R_drewN | apply Kd.R_drew)); exact HO746.out))) (below_size (by repeat (first | (with_reducible first | exact HB.out | apply below_alloc | apply pw_below_drewN | apply below_drew1) | exact HB.out)))); have n5_ := Aside0.mk (below_step (by repeat (first | (with_reducible first | exact HB.out | apply below_alloc | apply pw_below_drewN | apply below_drew1) | exact HB.out)) hb); clear HO736; clear HO739; clear HO743; clear HO746; clear HB; have HO736 := n0_; have HO739 := n1_; have HO743 := n2_; have HO746 := n3_; have HO750 := n4_; have HB := n5_; clear n0_ n1_ n2_ n3_ n4_ n5_; (try clear hb); (try clear hb2); (try clear hk); (try clear hi); (try clear ho0)))
                                    go_ret
                                    exact ⟨by first | rfl | (simp [errW_none, errW_some] <;> rfl) | (simp only [← hji119]; first | rfl | (simp [errW_none, errW_some] <;> rfl)) | (simp [*, errW_none, errW_some] <;> rfl), by repeat (first | (with_reducible first | exact HB.out | apply below_alloc | apply pw_below_drewN | apply below_drew1) | exact HB.out)⟩
                                · rw [if_neg c122] at H
                                  exact absurd H (by simp)
                              · rw [if_neg c121] at H
                                exact absurd H (by simp)
                            · rw [if_neg c120] at H
                              exact absurd H (by simp)
                  · rw [if_neg c44] at H
                    have c44b0 : (t682 == 0) = false := beq_eq_false_iff_ne.mpr c44
                    have c44b1 : (t682 != 0) = true := bne_iff_ne.mpr c44
                    by_cases c166 : t682 = 40
                    · rw [if_pos c166] at H
                      have c166b0 : (t682 == 40) = true := beq_iff_eq.mpr c166
                      have c166b1 : (t682 != 40) = false := bne_eq_false_iff_eq.mpr c166
                      clear c166
                      by_cases c167 : (t681.length : Int) = 0
                      · rw [if_pos c167] at H
                        have c167b0 : ((t681.length : Int) == 0) = true := beq_iff_eq.mpr c167
                        have c167b1 : ((t681.length : Int) != 0) = false := bne_eq_false_iff_eq.mpr c167
                        clear c167
                        replace H := Option.bind_eq_some_iff.mp H
                        obtain ⟨t703, A1680, H⟩ := H
                        replace H : ((keys_ValidPairs.f kj25 t703).bind fun t706 => (some (!t706))) = some r := H
                        have A168 := Aside0.mk A1680
                        clear A1680
                        replace H := Option.bind_eq_some_iff.mp H
                        obtain ⟨t706, A1690, H⟩ := H
                        replace H : (some (!t706)) = some r := H
                        have A169 := Aside0.mk A1690
                        clear A1690
                        obtain rfl := Option.some.inj H
                        obtain ⟨Ao170, co170, eo170⟩ := Kd.R_slice HO_9.out
                        subst eo170
                        go_wp2_with (first | (go_at_call 26; (with_reducible refine (rampartlaw04_ownPairs.calls _ _ l0 t703 _ ?side1 ?side2 A168.out).mono ?_); (case side1 => repeat (first | exact (Kd.C_below HR0.out HB.out) | (with_reducible refine Kd.C_alloc ?_ _) | (with_reducible refine Kd.C_drewN ?_ _) | (with_reducible refine Kd.C_drew ?_))); (case side2 => exact HC0.out); rintro e w171 ⟨v704, rfl, ho0, hb⟩; have n0_ := Aside0.mk (Kd.R_elder' (by (with_reducible repeat (first | apply Kd.R_alloc | apply Kd.R_drewN | apply Kd.R_drew)); exact HO_9.out) (Kd.R_base ho0) hb); have n1_ := Aside0.mk (Kd.R_below (by (with_reducible repeat (first | apply Kd.R_alloc | apply Kd.R_drewN | apply Kd.R_drew)); exact HO_13.out) hb); have n2_ := Aside0.mk (Kd.R_lower (Kd.R_new' ho0 (Kd.R_lt (by (with_reducible repeat (first | apply Kd.R_alloc | apply Kd.R_drewN | apply Kd.R_drew)); exact HO_9.out))) (below_size (by repeat (first | (with_reducible first | exact HB.out | apply below_alloc | apply pw_below_drewN | apply below_drew1) | exact HB.out)))); have n3_ := Aside0.mk (below_step (by repeat (first | (with_reducible first | exact HB.out | apply below_alloc | apply pw_below_drewN | apply below_drew1) | exact HB.out)) hb); clear HO_9; clear HO_13; clear HB; have HO_9 := n0_; have HO_13 := n1_; have HO705 := n2_; have HB := n3_; clear n0_ n1_ n2_ n3_; (try clear hb); (try clear hb2); (try clear hk); (try clear hi); (try clear ho0); obtain ⟨Ao172, co172, eo172⟩ := Kd.R_slice HO705.out; subst eo172) | (go_at_call 29; (with_reducible refine (keys_ValidPairs.calls kj25 _ _ t703 t706 _ ?side1 ?side2 A169.out).mono ?_); (case side1 => repeat (first | exact (Kd.R_reads' HO705.out).2.2 | (with_reducible refine Kd.C_alloc ?_ _) | (with_reducible refine Kd.C_drewN ?_ _) | (with_reducible refine Kd.C_drew ?_))); (case side2 => exact (Kd.R_reads' HO705.out).2.1); rintro e w173 ⟨rfl, hb⟩; have n0_ := Aside0.mk (Kd.R_below (by (with_reducible repeat (first | apply Kd.R_alloc | apply Kd.R_drewN | apply Kd.R_drew)); exact HO_9.out) hb); have n1_ := Aside0.mk (Kd.R_below (by (with_reducible repeat (first | apply Kd.R_alloc | apply Kd.R_drewN | apply Kd.R_drew)); exact HO_13.out) hb); have n2_ := Aside0.mk (Kd.R_below (by (with_reducible repeat (first | apply Kd.R_alloc | apply Kd.R_drewN | apply Kd.R_drew)); exact HO705.out) hb); have n3_ := Aside0.mk (below_step (by repeat (first | (with_reducible first | exact HB.out | apply below_alloc | apply pw_below_drewN | apply below_drew1) | exact HB.out)) hb); clear HO_9; clear HO_13; clear HO705; clear HB; have HO_9 := n0_; have HO_13 := n1_; have HO705 := n2_; have HB := n3_; clear n0_ n1_ n2_ n3_; (try clear hb); (try clear hb2); (try clear hk); (try clear hi)))
                        go_ret
                        exact ⟨by first | rfl | (simp [errW_none, errW_some] <;> rfl) | (simp [*, errW_none, errW_some] <;> rfl), by repeat (first | (with_reducible first | exact HB.out | apply below_alloc | apply pw_below_drewN | apply below_drew1) | exact HB.out)⟩
                      · rw [if_neg c167] at H
                        have c167b0 : ((t681.length : Int) == 0) = false := beq_eq_false_iff_ne.mpr c167
                        have c167b1 : ((t681.length : Int) != 0) = true := bne_iff_ne.mpr c167
                        have c167b2 : ¬ (t681 = []) := fun h_ => c167 (by rw [h_]; rfl)
                        obtain rfl := Option.some.inj H
                        obtain ⟨Ao174, co174, eo174⟩ := Kd.R_slice HO_9.out
                        subst eo174
                        go_wp2
                        go_ret
                        exact ⟨by first | rfl | (simp [errW_none, errW_some] <;> rfl) | (simp [*, errW_none, errW_some] <;> rfl), by repeat (first | (with_reducible first | exact HB.out | apply below_alloc | apply pw_below_drewN | apply below_drew1) | exact HB.out)⟩
                    · rw [if_neg c166] at H
                      have c166b0 : (t682 == 40) = false := beq_eq_false_iff_ne.mpr c166
                      have c166b1 : (t682 != 40) = true := bne_iff_ne.mpr c166
                      obtain rfl := Option.some.inj H
                      go_wp2
                      go_ret
                      exact ⟨by first | rfl | (simp [errW_none, errW_some] <;> rfl) | (simp [*, errW_none, errW_some] <;> rfl), by repeat (first | (with_reducible first | exact HB.out | apply below_alloc | apply pw_below_drewN | apply below_drew1) | exact HB.out)⟩
  · replace c4 := Bool.eq_false_iff.mpr c4
    subst c4
    have H1 : (some false) = some r := by rw [if_neg (show ¬ (false = true) by decide)] at H; exact H
    clear H
    have H := H1
    clear H1
    obtain rfl := Option.some.inj H
    go_enter Try.func6, Try.ntmps6
    go_wp2_with (first | ((with_reducible refine gate_callee (f := 8) rfl ?_); refine goesL_ (some 22) rfl rfl Try.func8 (by kernel_rfl) rfl #[] rfl (by (try simp only [List.map_toArray, List.map_cons, List.map_nil]); first | done | rfl | (simp only [List.length_drop, List.length_take]; rfl)) ?_; (with_reducible refine (rampartlaw04_alive.calls k  false _ A3.out).mono ?_); rintro e w175 ⟨rfl, hb⟩; refine ⟨_, rfl, ?_⟩; have n0_ := Aside0.mk (below_step (by repeat (first | (with_reducible first | exact HB.out | apply below_alloc | apply pw_below_drewN | apply below_drew1) | exact HB.out)) hb); clear HB; have HB := n0_; clear n0_; (try clear hb); (try clear hb2); (try clear hk); (try clear hi)))
    go_ret
    exact ⟨by first | rfl | (simp [errW_none, errW_some] <;> rfl) | (simp [*, errW_none, errW_some] <;> rfl), by repeat (first | (with_reducible first | exact HB.out | apply below_alloc | apply pw_below_drewN | apply below_drew1) | exact HB.out)⟩

end Go.Proofs.Ytjahalkgjnnapaa.G
