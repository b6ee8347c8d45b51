-- laid by given.py of this session: the kit's print of the translation, some functions' contracts being this session's own (wip/given). Not trusted: Lean checks it.
import Derived.Test.YtjahalkgjnnapaaKb
import Derived.Test.YtjahalkgjnnapaaRa
namespace Go.Proofs.Ytjahalkgjnnapaa.G
open Go.RowKit Go.Proofs.YtjahalkgjnnapaaW.PrintWords Go.Proofs.YtjahalkgjnnapaaW.PrintLast Go.Proofs.YtjahalkgjnnapaaW.PrintMore
attribute [local go_sem] max2_int min2_int max_two min_two max_three min_three max_four min_four   -- for this text's walks alone
set_option linter.unusedVariables false
set_option linter.unusedSimpArgs false

/-! ### rampartlaw04_KeysAsks: function 3 -/
mutual
def rampartlaw04_KeysAsks.j0 : Nat → List ByteArray → List ByteArray → ByteArray → Bool → Option (Bool)
  | 0, _, _, _, _ => none
  | k + 1, x0, x1, x2, x22 => if x22 = true then (some true) else ((rampartlaw04_own.f x0).bind fun t409 => ((keys_Sorted.f k t409).bind fun bt412 => ((rampartref04_Sorted.f k x0).bind fun bt416 => (if bt412.2 = bt416.2 then ((rampartlaw04_same.f k bt412.1 bt416.1).bind fun t420 => (if t420 = true then ((rampartlaw04_own.f x0).bind fun t421 => ((keys_Valid.f k t421).bind fun t424 => ((rampartref04_Valid.f k x0).bind fun t425 => (if (t424 != t425) = true then (rampartlaw04_KeysAsks.j1 k x0 x1 true) else ((rampartlaw04_own.f x0).bind fun t426 => ((keys_Rising.f k t426).bind fun t429 => ((rampartref04_Rising.f k x0).bind fun t430 => (if (t429 != t430) = true then (rampartlaw04_KeysAsks.j1 k x0 x1 true) else ((rampartlaw04_own.f x0).bind fun t431 => ((keys_Has.f k t431 x2).bind fun t434 => ((rampartref04_Has.f k x0 x2).bind fun t435 => (rampartlaw04_KeysAsks.j1 k x0 x1 (t434 != t435))))))))))))) else (rampartlaw04_KeysAsks.j1 k x0 x1 true))) else (rampartlaw04_KeysAsks.j1 k x0 x1 true)))))
def rampartlaw04_KeysAsks.j1 : Nat → List ByteArray → List ByteArray → Bool → Option (Bool)
  | 0, _, _, _ => none
  | k + 1, x0, x1, x68 => if x68 = true then (some false) else ((rampartlaw04_own.f x0).bind fun t436 => ((rampartlaw04_own.f x1).bind fun t439 => ((keys_Union.f k t436 t439).bind fun bt442 => ((rampartref04_Union.f k x0 x1).bind fun bt446 => (if bt442.2 = bt446.2 then ((rampartlaw04_same.f k bt442.1 bt446.1).bind fun t450 => (rampartlaw04_KeysAsks.j2 k x0 x1 (!t450))) else (rampartlaw04_KeysAsks.j2 k x0 x1 true))))))
def rampartlaw04_KeysAsks.j2 : Nat → List ByteArray → List ByteArray → Bool → Option (Bool)
  | 0, _, _, _ => none
  | k + 1, x0, x1, x91 => if x91 = true then (some false) else ((rampartlaw04_own.f x0).bind fun t451 => ((rampartlaw04_own.f x1).bind fun t454 => ((keys_Common.f k t451 t454).bind fun bt457 => ((rampartref04_Common.f k x0 x1).bind fun bt461 => (if bt457.2 = bt461.2 then ((rampartlaw04_same.f k bt457.1 bt461.1).bind fun t465 => (rampartlaw04_KeysAsks.j3 k x0 x1 (!t465))) else (rampartlaw04_KeysAsks.j3 k x0 x1 true))))))
def rampartlaw04_KeysAsks.j3 : Nat → List ByteArray → List ByteArray → Bool → Option (Bool)
  | 0, _, _, _ => none
  | k + 1, x0, x1, x114 => if x114 = true then (some false) else ((rampartlaw04_own.f x0).bind fun t466 => ((rampartlaw04_own.f x1).bind fun t469 => ((keys_Minus.f k t466 t469).bind fun bt472 => ((rampartref04_Minus.f k x0 x1).bind fun bt476 => (if bt472.2 = bt476.2 then ((rampartlaw04_same.f k bt472.1 bt476.1).bind fun t480 => (some t480)) else (some false))))))
end
def rampartlaw04_KeysAsks.f (k : Nat) (l0 : List ByteArray) (l1 : List ByteArray) (a2 : ByteArray) : Option (Bool) := (rampartlaw04_alive.f k).bind fun t408 => (if t408 = true then (if (l0.length : Int) > 1200 then (rampartlaw04_KeysAsks.j0 k l0 l1 a2 true) else (rampartlaw04_KeysAsks.j0 k l0 l1 a2 (decide ((l1.length : Int) > 1200)))) else (some false))
theorem rampartlaw04_KeysAsks.mono_l : ∀ k, (∀ y0 y1 y2 y3, LeO (rampartlaw04_KeysAsks.j0 k y0 y1 y2 y3) (rampartlaw04_KeysAsks.j0 (k + 1) y0 y1 y2 y3)) ∧ (∀ y0 y1 y2, LeO (rampartlaw04_KeysAsks.j1 k y0 y1 y2) (rampartlaw04_KeysAsks.j1 (k + 1) y0 y1 y2)) ∧ (∀ y0 y1 y2, LeO (rampartlaw04_KeysAsks.j2 k y0 y1 y2) (rampartlaw04_KeysAsks.j2 (k + 1) y0 y1 y2)) ∧ (∀ y0 y1 y2, LeO (rampartlaw04_KeysAsks.j3 k y0 y1 y2) (rampartlaw04_KeysAsks.j3 (k + 1) y0 y1 y2))
  | 0 => ⟨fun _ _ _ _ r h => by simp [rampartlaw04_KeysAsks.j0] at h, fun _ _ _ r h => by simp [rampartlaw04_KeysAsks.j1] at h, fun _ _ _ r h => by simp [rampartlaw04_KeysAsks.j2] at h, fun _ _ _ r h => by simp [rampartlaw04_KeysAsks.j3] at h⟩
  | k + 1 => by
    obtain ⟨ih0, ih1, ih2, ih3⟩ := rampartlaw04_KeysAsks.mono_l k
    refine ⟨?_, ?_, ?_, ?_⟩
    · intro y0 y1 y2 y3
      unfold rampartlaw04_KeysAsks.j0
      repeat' first
      | (with_reducible exact ih0 _ _ _ _)
      | (with_reducible exact ih1 _ _ _)
      | (with_reducible exact ih2 _ _ _)
      | (with_reducible exact ih3 _ _ _)
      | (with_reducible exact keys_Common.mono _ _ _)
      | (with_reducible exact keys_Has.mono _ _ _)
      | (with_reducible exact keys_Minus.mono _ _ _)
      | (with_reducible exact keys_Rising.mono _ _)
      | (with_reducible exact keys_Sorted.mono _ _)
      | (with_reducible exact keys_Union.mono _ _ _)
      | (with_reducible exact keys_Valid.mono _ _)
      | (with_reducible exact rampartlaw04_alive.mono _)
      | (with_reducible exact rampartlaw04_same.mono _ _ _)
      | (with_reducible exact rampartref04_Common.mono _ _ _)
      | (with_reducible exact rampartref04_Has.mono _ _ _)
      | (with_reducible exact rampartref04_Minus.mono _ _ _)
      | (with_reducible exact rampartref04_Rising.mono _ _)
      | (with_reducible exact rampartref04_Sorted.mono _ _)
      | (with_reducible exact rampartref04_Union.mono _ _ _)
      | (with_reducible exact rampartref04_Valid.mono _ _)
      | (with_reducible exact LeO.refl _)
      | (with_reducible exact LeO.none _)
      | (with_reducible refine LeO.ite ?_ ?_)
      | (with_reducible refine LeO.bind ?_ (fun _ => ?_))
      | exact ih0 _ _ _ _
      | exact ih1 _ _ _
      | exact ih2 _ _ _
      | exact ih3 _ _ _
      | exact keys_Common.mono _ _ _
      | exact keys_Has.mono _ _ _
      | exact keys_Minus.mono _ _ _
      | exact keys_Rising.mono _ _
      | exact keys_Sorted.mono _ _
      | exact keys_Union.mono _ _ _
      | exact keys_Valid.mono _ _
      | exact rampartlaw04_alive.mono _
      | exact rampartlaw04_same.mono _ _ _
      | exact rampartref04_Common.mono _ _ _
      | exact rampartref04_Has.mono _ _ _
      | exact rampartref04_Minus.mono _ _ _
      | exact rampartref04_Rising.mono _ _
      | exact rampartref04_Sorted.mono _ _
      | exact rampartref04_Union.mono _ _ _
      | exact rampartref04_Valid.mono _ _
      | exact LeO.none _
      | refine LeO.ite ?_ ?_
      | refine LeO.bind ?_ (fun _ => ?_)
    · intro y0 y1 y2
      unfold rampartlaw04_KeysAsks.j1
      repeat' first
      | (with_reducible exact ih0 _ _ _ _)
      | (with_reducible exact ih1 _ _ _)
      | (with_reducible exact ih2 _ _ _)
      | (with_reducible exact ih3 _ _ _)
      | (with_reducible exact keys_Common.mono _ _ _)
      | (with_reducible exact keys_Has.mono _ _ _)
      | (with_reducible exact keys_Minus.mono _ _ _)
      | (with_reducible exact keys_Rising.mono _ _)
      | (with_reducible exact keys_Sorted.mono _ _)
      | (with_reducible exact keys_Union.mono _ _ _)
      | (with_reducible exact keys_Valid.mono _ _)
      | (with_reducible exact rampartlaw04_alive.mono _)
      | (with_reducible exact rampartlaw04_same.mono _ _ _)
      | (with_reducible exact rampartref04_Common.mono _ _ _)
      | (with_reducible exact rampartref04_Has.mono _ _ _)
      | (with_reducible exact rampartref04_Minus.mono _ _ _)
      | (with_reducible exact rampartref04_Rising.mono _ _)
      | (with_reducible exact rampartref04_Sorted.mono _ _)
      | (with_reducible exact rampartref04_Union.mono _ _ _)
      | (with_reducible exact rampartref04_Valid.mono _ _)
      | (with_reducible exact LeO.refl _)
      | (with_reducible exact LeO.none _)
      | (with_reducible refine LeO.ite ?_ ?_)
      | (with_reducible refine LeO.bind ?_ (fun _ => ?_))
      | exact ih0 _ _ _ _
      | exact ih1 _ _ _
      | exact ih2 _ _ _
      | exact ih3 _ _ _
      | exact keys_Common.mono _ _ _
      | exact keys_Has.mono _ _ _
      | exact keys_Minus.mono _ _ _
      | exact keys_Rising.mono _ _
      | exact keys_Sorted.mono _ _
      | exact keys_Union.mono _ _ _
      | exact keys_Valid.mono _ _
      | exact rampartlaw04_alive.mono _
      | exact rampartlaw04_same.mono _ _ _
      | exact rampartref04_Common.mono _ _ _
      | exact rampartref04_Has.mono _ _ _
      | exact rampartref04_Minus.mono _ _ _
      | exact rampartref04_Rising.mono _ _
      | exact rampartref04_Sorted.mono _ _
      | exact rampartref04_Union.mono _ _ _
      | exact rampartref04_Valid.mono _ _
      | exact LeO.none _
      | refine LeO.ite ?_ ?_
      | refine LeO.bind ?_ (fun _ => ?_)
    · intro y0 y1 y2
      unfold rampartlaw04_KeysAsks.j2
      repeat' first
      | (with_reducible exact ih0 _ _ _ _)
      | (with_reducible exact ih1 _ _ _)
      | (with_reducible exact ih2 _ _ _)
      | (with_reducible exact ih3 _ _ _)
      | (with_reducible exact keys_Common.mono _ _ _)
      | (with_reducible exact keys_Has.mono _ _ _)
      | (with_reducible exact keys_Minus.mono _ _ _)
      | (with_reducible exact keys_Rising.mono _ _)
      | (with_reducible exact keys_Sorted.mono _ _)
      | (with_reducible exact keys_Union.mono _ _ _)
      | (with_reducible exact keys_Valid.mono _ _)
      | (with_reducible exact rampartlaw04_alive.mono _)
      | (with_reducible exact rampartlaw04_same.mono _ _ _)
      | (with_reducible exact rampartref04_Common.mono _ _ _)
      | (with_reducible exact rampartref04_Has.mono _ _ _)
      | (with_reducible exact rampartref04_Minus.mono _ _ _)
      | (with_reducible exact rampartref04_Rising.mono _ _)
      | (with_reducible exact rampartref04_Sorted.mono _ _)
      | (with_reducible exact rampartref04_Union.mono _ _ _)
      | (with_reducible exact rampartref04_Valid.mono _ _)
      | (with_reducible exact LeO.refl _)
      | (with_reducible exact LeO.none _)
      | (with_reducible refine LeO.ite ?_ ?_)
      | (with_reducible refine LeO.bind ?_ (fun _ => ?_))
      | exact ih0 _ _ _ _
      | exact ih1 _ _ _
      | exact ih2 _ _ _
      | exact ih3 _ _ _
      | exact keys_Common.mono _ _ _
      | exact keys_Has.mono _ _ _
      | exact keys_Minus.mono _ _ _
      | exact keys_Rising.mono _ _
      | exact keys_Sorted.mono _ _
      | exact keys_Union.mono _ _ _
      | exact keys_Valid.mono _ _
      | exact rampartlaw04_alive.mono _
      | exact rampartlaw04_same.mono _ _ _
      | exact rampartref04_Common.mono _ _ _
      | exact rampartref04_Has.mono _ _ _
      | exact rampartref04_Minus.mono _ _ _
      | exact rampartref04_Rising.mono _ _
      | exact rampartref04_Sorted.mono _ _
      | exact rampartref04_Union.mono _ _ _
      | exact rampartref04_Valid.mono _ _
      | exact LeO.none _
      | refine LeO.ite ?_ ?_
      | refine LeO.bind ?_ (fun _ => ?_)
    · intro y0 y1 y2
      unfold rampartlaw04_KeysAsks.j3
      repeat' first
      | (with_reducible exact ih0 _ _ _ _)
      | (with_reducible exact ih1 _ _ _)
      | (with_reducible exact ih2 _ _ _)
      | (with_reducible exact ih3 _ _ _)
      | (with_reducible exact keys_Common.mono _ _ _)
      | (with_reducible exact keys_Has.mono _ _ _)
      | (with_reducible exact keys_Minus.mono _ _ _)
      | (with_reducible exact keys_Rising.mono _ _)
      | (with_reducible exact keys_Sorted.mono _ _)
      | (with_reducible exact keys_Union.mono _ _ _)
      | (with_reducible exact keys_Valid.mono _ _)
      | (with_reducible exact rampartlaw04_alive.mono _)
      | (with_reducible exact rampartlaw04_same.mono _ _ _)
      | (with_reducible exact rampartref04_Common.mono _ _ _)
      | (with_reducible exact rampartref04_Has.mono _ _ _)
      | (with_reducible exact rampartref04_Minus.mono _ _ _)
      | (with_reducible exact rampartref04_Rising.mono _ _)
      | (with_reducible exact rampartref04_Sorted.mono _ _)
      | (with_reducible exact rampartref04_Union.mono _ _ _)
      | (with_reducible exact rampartref04_Valid.mono _ _)
      | (with_reducible exact LeO.refl _)
      | (with_reducible exact LeO.none _)
      | (with_reducible refine LeO.ite ?_ ?_)
      | (with_reducible refine LeO.bind ?_ (fun _ => ?_))
      | exact ih0 _ _ _ _
      | exact ih1 _ _ _
      | exact ih2 _ _ _
      | exact ih3 _ _ _
      | exact keys_Common.mono _ _ _
      | exact keys_Has.mono _ _ _
      | exact keys_Minus.mono _ _ _
      | exact keys_Rising.mono _ _
      | exact keys_Sorted.mono _ _
      | exact keys_Union.mono _ _ _
      | exact keys_Valid.mono _ _
      | exact rampartlaw04_alive.mono _
      | exact rampartlaw04_same.mono _ _ _
      | exact rampartref04_Common.mono _ _ _
      | exact rampartref04_Has.mono _ _ _
      | exact rampartref04_Minus.mono _ _ _
      | exact rampartref04_Rising.mono _ _
      | exact rampartref04_Sorted.mono _ _
      | exact rampartref04_Union.mono _ _ _
      | exact rampartref04_Valid.mono _ _
      | exact LeO.none _
      | refine LeO.ite ?_ ?_
      | refine LeO.bind ?_ (fun _ => ?_)
theorem rampartlaw04_KeysAsks.mono : ∀ a0 a1 a2 k, LeO (rampartlaw04_KeysAsks.f k a0 a1 a2) (rampartlaw04_KeysAsks.f (k + 1) a0 a1 a2) := by
  intro a0 a1 a2 k
  obtain ⟨ih0, ih1, ih2, ih3⟩ := rampartlaw04_KeysAsks.mono_l k
  unfold rampartlaw04_KeysAsks.f
  repeat' first
      | (with_reducible exact ih0 _ _ _ _)
      | (with_reducible exact ih1 _ _ _)
      | (with_reducible exact ih2 _ _ _)
      | (with_reducible exact ih3 _ _ _)
      | (with_reducible exact keys_Common.mono _ _ _)
      | (with_reducible exact keys_Has.mono _ _ _)
      | (with_reducible exact keys_Minus.mono _ _ _)
      | (with_reducible exact keys_Rising.mono _ _)
      | (with_reducible exact keys_Sorted.mono _ _)
      | (with_reducible exact keys_Union.mono _ _ _)
      | (with_reducible exact keys_Valid.mono _ _)
      | (with_reducible exact rampartlaw04_alive.mono _)
      | (with_reducible exact rampartlaw04_same.mono _ _ _)
      | (with_reducible exact rampartref04_Common.mono _ _ _)
      | (with_reducible exact rampartref04_Has.mono _ _ _)
      | (with_reducible exact rampartref04_Minus.mono _ _ _)
      | (with_reducible exact rampartref04_Rising.mono _ _)
      | (with_reducible exact rampartref04_Sorted.mono _ _)
      | (with_reducible exact rampartref04_Union.mono _ _ _)
      | (with_reducible exact rampartref04_Valid.mono _ _)
      | (with_reducible exact LeO.refl _)
      | (with_reducible exact LeO.none _)
      | (with_reducible refine LeO.ite ?_ ?_)
      | (with_reducible refine LeO.bind ?_ (fun _ => ?_))
      | exact ih0 _ _ _ _
      | exact ih1 _ _ _
      | exact ih2 _ _ _
      | exact ih3 _ _ _
      | exact keys_Common.mono _ _ _
      | exact keys_Has.mono _ _ _
      | exact keys_Minus.mono _ _ _
      | exact keys_Rising.mono _ _
      | exact keys_Sorted.mono _ _
      | exact keys_Union.mono _ _ _
      | exact keys_Valid.mono _ _
      | exact rampartlaw04_alive.mono _
      | exact rampartlaw04_same.mono _ _ _
      | exact rampartref04_Common.mono _ _ _
      | exact rampartref04_Has.mono _ _ _
      | exact rampartref04_Minus.mono _ _ _
      | exact rampartref04_Rising.mono _ _
      | exact rampartref04_Sorted.mono _ _
      | exact rampartref04_Union.mono _ _ _
      | exact rampartref04_Valid.mono _ _
      | exact LeO.none _
      | refine LeO.ite ?_ ?_
      | refine LeO.bind ?_ (fun _ => ?_)
set_option maxHeartbeats 8000000 in
set_option maxRecDepth 100000 in
theorem rampartlaw04_KeysAsks.calls (k : Nat) (A0 : Option Addr) (c0 : Nat) (l0 : List ByteArray) (A1 : Option Addr) (c1 : Nat) (l1 : List ByteArray) (a2 : ByteArray) (r : Bool) (w : World) (hr0 : Kd.C Kd.string w A0 l0.length l0) (hc0 : l0.length ≤ c0) (hr1 : Kd.C Kd.string w A1 l1.length l1) (hc1 : l1.length ≤ c1) (h : rampartlaw04_KeysAsks.f k l0 l1 a2 = some r) :
    Calls Try.prog 3 #[.slice A0 l0.length c0, .slice A1 l1.length c1, .string a2] w fun e w' => e = .returned (.bool r) ∧ Below w.heap.size w w' := by
  have HR0 := Aside0.mk hr0
  have HC0 := Aside0.mk hc0
  clear hr0 hc0
  have HR1 := Aside0.mk hr1
  have HC1 := Aside0.mk hc1
  clear hr1 hc1
  have HB := Aside0.mk (Below.refl w.heap.size w)
  have H : ((rampartlaw04_alive.f k).bind fun t408 => (if t408 = true then (if (l0.length : Int) > 1200 then (rampartlaw04_KeysAsks.j0 k l0 l1 a2 true) else (rampartlaw04_KeysAsks.j0 k l0 l1 a2 (decide ((l1.length : Int) > 1200)))) else (some false))) = some r := h
  clear h
  replace H := Option.bind_eq_some_iff.mp H
  obtain ⟨t408, A40, H⟩ := H
  replace H : (if t408 = true then (if (l0.length : Int) > 1200 then (rampartlaw04_KeysAsks.j0 k l0 l1 a2 true) else (rampartlaw04_KeysAsks.j0 k l0 l1 a2 (decide ((l1.length : Int) > 1200)))) else (some false)) = some r := H
  have A4 := Aside0.mk A40
  clear A40
  by_cases c5 : t408 = true
  · subst c5
    have H1 : (if (l0.length : Int) > 1200 then (rampartlaw04_KeysAsks.j0 k l0 l1 a2 true) else (rampartlaw04_KeysAsks.j0 k l0 l1 a2 (decide ((l1.length : Int) > 1200)))) = some r := by rw [if_pos rfl] at H; exact H
    clear H
    have H := H1
    clear H1
    have HC6 := Aside0.mk H
    clear H
    go_enter Try.func3, Try.ntmps3
    go_upto_region 4 with (first | ((with_reducible refine gate_callee (f := 8) rfl ?_); refine goesL_ (some 12) rfl rfl Try.func8 (by kernel_rfl) rfl #[] rfl (by (try simp only [List.map_toArray, List.map_cons, List.map_nil]); first | done | rfl | (simp only [List.length_drop, List.length_take]; rfl)) ?_; (with_reducible refine (rampartlaw04_alive.calls k  true _ A4.out).mono ?_); rintro e w7 ⟨rfl, hb⟩; refine ⟨_, rfl, ?_⟩; have n0_ := Aside0.mk (below_step (by repeat (first | (with_reducible first | exact HB.out | apply below_alloc | apply pw_below_drewN | apply below_drew1) | exact HB.out)) hb); clear HB; have HB := n0_; clear n0_; (try clear hb); (try clear hb2); (try clear hk); (try clear hi)))
    (try simp only [Act.put, List.setIfInBounds_toArray, List.set_cons_zero, List.set_cons_succ])
    go_cut [22] (fun v22 wc => ∃ (kq : Nat) (x22_5 : Bool), v22 = .bool x22_5 ∧ Aside0 (rampartlaw04_KeysAsks.j0 kq l0 l1 a2 x22_5 = some r) ∧ Aside0 (kq ≤ k) ∧ Aside0 (Below w.heap.size w wc))
    case first =>
      have H := HC6.out
      clear HC6
      by_cases c8 : (l0.length : Int) > 1200
      · rw [if_pos c8] at H
        have c8b0 : decide (1200 < (l0.length : Int)) = true := decide_eq_true c8
        have c8b1 : decide (1200 < l0.length) = true := decide_eq_true (by omega)
        clear c8
        (first | rw [c8b0] | (simp only [i64_w, i32_w]; rw [c8b0]) | skip)
        have H' := Aside0.mk H
        clear H
        go_wp2
        go_meet
        case rel => exact ⟨_, (true), (by first | rfl | (simp; done) | (simp [*]; done)), H', ⟨by first | omega | exact Nat.le_refl _⟩, ⟨by repeat (first | (with_reducible first | exact HB.out | apply below_alloc | apply pw_below_drewN | apply below_drew1) | exact HB.out)⟩⟩
      · rw [if_neg c8] at H
        have c8b0 : decide (1200 < (l0.length : Int)) = false := decide_eq_false c8
        have c8b1 : decide (1200 < l0.length) = false := decide_eq_false (by omega)
        clear c8
        (first | rw [c8b0] | (simp only [i64_w, i32_w]; rw [c8b0]) | skip)
        have H' := Aside0.mk H
        clear H
        go_wp2
        go_meet
        case rel => exact ⟨_, (decide ((l1.length : Int) > 1200)), (by first | rfl | (simp; done) | (simp [*]; done)), H', ⟨by first | omega | exact Nat.le_refl _⟩, ⟨by repeat (first | (with_reducible first | exact HB.out | apply below_alloc | apply pw_below_drewN | apply below_drew1) | exact HB.out)⟩⟩
    case rest =>
      clear HC6
      try clear c1
      try clear p2
      try clear c3
      try clear c5
      try clear c8
      try clear c8b0
      try clear c8b1
      obtain ⟨kq, x22_5, rfl, HA, HJ5, HB⟩ := hcut
      cases kq with
      | zero => exact absurd HA.out (by simp [rampartlaw04_KeysAsks.j0])
      | succ kj5 =>
        have H := HA.out
        clear HA
        simp only [rampartlaw04_KeysAsks.j0] at H
        by_cases c9 : x22_5 = true
        · subst c9
          have H1 : (some true) = some r := by rw [if_pos rfl] at H; exact H
          clear H
          have H := H1
          clear H1
          obtain rfl := Option.some.inj H
          go_wp2
          go_ret
          exact ⟨by first | rfl | (simp [errW_none, errW_some] <;> rfl) | (simp [*, errW_none, errW_some] <;> rfl), by repeat (first | (with_reducible first | exact HB.out | apply below_alloc | apply pw_below_drewN | apply below_drew1) | exact HB.out)⟩
        · replace c9 := Bool.eq_false_iff.mpr c9
          subst c9
          have H1 : ((rampartlaw04_own.f l0).bind fun t409 => ((keys_Sorted.f kj5 t409).bind fun bt412 => ((rampartref04_Sorted.f kj5 l0).bind fun bt416 => (if bt412.2 = bt416.2 then ((rampartlaw04_same.f kj5 bt412.1 bt416.1).bind fun t420 => (if t420 = true then ((rampartlaw04_own.f l0).bind fun t421 => ((keys_Valid.f kj5 t421).bind fun t424 => ((rampartref04_Valid.f kj5 l0).bind fun t425 => (if (t424 != t425) = true then (rampartlaw04_KeysAsks.j1 kj5 l0 l1 true) else ((rampartlaw04_own.f l0).bind fun t426 => ((keys_Rising.f kj5 t426).bind fun t429 => ((rampartref04_Rising.f kj5 l0).bind fun t430 => (if (t429 != t430) = true then (rampartlaw04_KeysAsks.j1 kj5 l0 l1 true) else ((rampartlaw04_own.f l0).bind fun t431 => ((keys_Has.f kj5 t431 a2).bind fun t434 => ((rampartref04_Has.f kj5 l0 a2).bind fun t435 => (rampartlaw04_KeysAsks.j1 kj5 l0 l1 (t434 != t435))))))))))))) else (rampartlaw04_KeysAsks.j1 kj5 l0 l1 true))) else (rampartlaw04_KeysAsks.j1 kj5 l0 l1 true))))) = some r := by rw [if_neg (show ¬ (false = true) by decide)] at H; exact H
          clear H
          have H := H1
          clear H1
          replace H := Option.bind_eq_some_iff.mp H
          obtain ⟨t409, A100, H⟩ := H
          replace H : ((keys_Sorted.f kj5 t409).bind fun bt412 => ((rampartref04_Sorted.f kj5 l0).bind fun bt416 => (if bt412.2 = bt416.2 then ((rampartlaw04_same.f kj5 bt412.1 bt416.1).bind fun t420 => (if t420 = true then ((rampartlaw04_own.f l0).bind fun t421 => ((keys_Valid.f kj5 t421).bind fun t424 => ((rampartref04_Valid.f kj5 l0).bind fun t425 => (if (t424 != t425) = true then (rampartlaw04_KeysAsks.j1 kj5 l0 l1 true) else ((rampartlaw04_own.f l0).bind fun t426 => ((keys_Rising.f kj5 t426).bind fun t429 => ((rampartref04_Rising.f kj5 l0).bind fun t430 => (if (t429 != t430) = true then (rampartlaw04_KeysAsks.j1 kj5 l0 l1 true) else ((rampartlaw04_own.f l0).bind fun t431 => ((keys_Has.f kj5 t431 a2).bind fun t434 => ((rampartref04_Has.f kj5 l0 a2).bind fun t435 => (rampartlaw04_KeysAsks.j1 kj5 l0 l1 (t434 != t435))))))))))))) else (rampartlaw04_KeysAsks.j1 kj5 l0 l1 true))) else (rampartlaw04_KeysAsks.j1 kj5 l0 l1 true)))) = some r := H
          have A10 := Aside0.mk A100
          clear A100
          replace H := Option.bind_eq_some_iff.mp H
          obtain ⟨⟨t412, t413⟩, A110, H⟩ := H
          replace H : ((rampartref04_Sorted.f kj5 l0).bind fun bt416 => (if t413 = bt416.2 then ((rampartlaw04_same.f kj5 t412 bt416.1).bind fun t420 => (if t420 = true then ((rampartlaw04_own.f l0).bind fun t421 => ((keys_Valid.f kj5 t421).bind fun t424 => ((rampartref04_Valid.f kj5 l0).bind fun t425 => (if (t424 != t425) = true then (rampartlaw04_KeysAsks.j1 kj5 l0 l1 true) else ((rampartlaw04_own.f l0).bind fun t426 => ((keys_Rising.f kj5 t426).bind fun t429 => ((rampartref04_Rising.f kj5 l0).bind fun t430 => (if (t429 != t430) = true then (rampartlaw04_KeysAsks.j1 kj5 l0 l1 true) else ((rampartlaw04_own.f l0).bind fun t431 => ((keys_Has.f kj5 t431 a2).bind fun t434 => ((rampartref04_Has.f kj5 l0 a2).bind fun t435 => (rampartlaw04_KeysAsks.j1 kj5 l0 l1 (t434 != t435))))))))))))) else (rampartlaw04_KeysAsks.j1 kj5 l0 l1 true))) else (rampartlaw04_KeysAsks.j1 kj5 l0 l1 true))) = some r := H
          have A11 := Aside0.mk A110
          clear A110
          replace H := Option.bind_eq_some_iff.mp H
          obtain ⟨⟨t416, t417⟩, A120, H⟩ := H
          replace H : (if t413 = t417 then ((rampartlaw04_same.f kj5 t412 t416).bind fun t420 => (if t420 = true then ((rampartlaw04_own.f l0).bind fun t421 => ((keys_Valid.f kj5 t421).bind fun t424 => ((rampartref04_Valid.f kj5 l0).bind fun t425 => (if (t424 != t425) = true then (rampartlaw04_KeysAsks.j1 kj5 l0 l1 true) else ((rampartlaw04_own.f l0).bind fun t426 => ((keys_Rising.f kj5 t426).bind fun t429 => ((rampartref04_Rising.f kj5 l0).bind fun t430 => (if (t429 != t430) = true then (rampartlaw04_KeysAsks.j1 kj5 l0 l1 true) else ((rampartlaw04_own.f l0).bind fun t431 => ((keys_Has.f kj5 t431 a2).bind fun t434 => ((rampartref04_Has.f kj5 l0 a2).bind fun t435 => (rampartlaw04_KeysAsks.j1 kj5 l0 l1 (t434 != t435))))))))))))) else (rampartlaw04_KeysAsks.j1 kj5 l0 l1 true))) else (rampartlaw04_KeysAsks.j1 kj5 l0 l1 true)) = some r := H
          have A12 := Aside0.mk A120
          clear A120
          have HC13 := Aside0.mk H
          clear H
          go_upto_region 8 with (first | ((with_reducible refine gate_callee (f := 10) rfl ?_); refine goesL_ (some 25) rfl rfl Try.func10 (by kernel_rfl) rfl #[.slice A0 l0.length c0] rfl (by (try simp only [List.map_toArray, List.map_cons, List.map_nil]); first | done | rfl | (simp only [List.length_drop, List.length_take]; rfl)) ?_; (with_reducible refine (rampartlaw04_own.calls _ _ l0 t409 _ ?side1 ?side2 A10.out).mono ?_); (case side1 => repeat (first | exact (Kd.C_below HR0.out HB.out) | (with_reducible refine Kd.C_alloc ?_ _) | (with_reducible refine Kd.C_drewN ?_ _) | (with_reducible refine Kd.C_drew ?_))); (case side2 => exact HC0.out); rintro e w14 ⟨v410, rfl, ho0, hb⟩; refine ⟨_, rfl, ?_⟩; have n0_ := Aside0.mk (Kd.R_lower ho0 (below_size (by repeat (first | (with_reducible first | exact HB.out | apply below_alloc | apply pw_below_drewN | apply below_drew1) | exact HB.out)))); have n1_ := Aside0.mk (below_step (by repeat (first | (with_reducible first | exact HB.out | apply below_alloc | apply pw_below_drewN | apply below_drew1) | exact HB.out)) hb); clear HB; have HO411 := n0_; have HB := n1_; clear n0_ n1_; (try clear hb); (try clear hb2); (try clear hk); (try clear hi); (try clear ho0); obtain ⟨Ao15, co15, eo15⟩ := Kd.R_slice HO411.out; subst eo15) | ((with_reducible refine gate_callee (f := 9) rfl ?_); refine goesL_ (some 26) rfl rfl Try.func9 (by kernel_rfl) rfl #[.slice Ao15 t409.length co15] rfl (by (try simp only [List.map_toArray, List.map_cons, List.map_nil]); first | done | rfl | (simp only [List.length_drop, List.length_take]; rfl)) ?_; (with_reducible refine (keys_Sorted.calls kj5 _ _ t409 t412 t413 _ ?side1 ?side2 A11.out).mono ?_); (case side1 => repeat (first | exact (Kd.R_reads' HO411.out).2.2 | (with_reducible refine Kd.C_alloc ?_ _) | (with_reducible refine Kd.C_drewN ?_ _) | (with_reducible refine Kd.C_drew ?_))); (case side2 => exact (Kd.R_reads' HO411.out).2.1); rintro e w16 ⟨v414, rfl, ho0, hb⟩; refine ⟨_, rfl, ?_⟩; have n0_ := Aside0.mk (Kd.R_elder' (by (with_reducible repeat (first | apply Kd.R_alloc | apply Kd.R_drewN | apply Kd.R_drew)); exact HO411.out) (Kd.R_base ho0) hb); have n1_ := Aside0.mk (Kd.R_lower (Kd.R_new' ho0 (Kd.R_lt (by (with_reducible repeat (first | apply Kd.R_alloc | apply Kd.R_drewN | apply Kd.R_drew)); exact HO411.out))) (below_size (by repeat (first | (with_reducible first | exact HB.out | apply below_alloc | apply pw_below_drewN | apply below_drew1) | exact HB.out)))); have n2_ := Aside0.mk (below_step (by repeat (first | (with_reducible first | exact HB.out | apply below_alloc | apply pw_below_drewN | apply below_drew1) | exact HB.out)) hb); clear HO411; clear HB; have HO411 := n0_; have HO415 := n1_; have HB := n2_; clear n0_ n1_ n2_; (try clear hb); (try clear hb2); (try clear hk); (try clear hi); (try clear ho0)) | ((with_reducible refine gate_callee (f := 11) rfl ?_); refine goesL_ (some 31) rfl rfl Try.func11 (by kernel_rfl) rfl #[.slice A0 l0.length c0] rfl (by (try simp only [List.map_toArray, List.map_cons, List.map_nil]); first | done | rfl | (simp only [List.length_drop, List.length_take]; rfl)) ?_; (with_reducible refine (rampartref04_Sorted.calls kj5 _ _ l0 t416 t417 _ ?side1 ?side2 A12.out).mono ?_); (case side1 => repeat (first | exact (Kd.C_below HR0.out HB.out) | (with_reducible refine Kd.C_alloc ?_ _) | (with_reducible refine Kd.C_drewN ?_ _) | (with_reducible refine Kd.C_drew ?_))); (case side2 => exact HC0.out); rintro e w17 ⟨v418, rfl, ho0, hb⟩; refine ⟨_, rfl, ?_⟩; have n0_ := Aside0.mk (Kd.R_elder' (by (with_reducible repeat (first | apply Kd.R_alloc | apply Kd.R_drewN | apply Kd.R_drew)); exact HO411.out) (Kd.R_base ho0) hb); have n1_ := Aside0.mk (Kd.R_elder' (by (with_reducible repeat (first | apply Kd.R_alloc | apply Kd.R_drewN | apply Kd.R_drew)); exact HO415.out) (Kd.R_base ho0) hb); have n2_ := Aside0.mk (Kd.R_lower (Kd.R_new' (Kd.R_new' ho0 (Kd.R_lt (by (with_reducible repeat (first | apply Kd.R_alloc | apply Kd.R_drewN | apply Kd.R_drew)); exact HO411.out))) (Kd.R_lt (by (with_reducible repeat (first | apply Kd.R_alloc | apply Kd.R_drewN | apply Kd.R_drew)); exact HO415.out))) (below_size (by repeat (first | (with_reducible first | exact HB.out | apply below_alloc | apply pw_below_drewN | apply below_drew1) | exact HB.out)))); have n3_ := Aside0.mk (below_step (by repeat (first | (with_reducible first | exact HB.out | apply below_alloc | apply pw_below_drewN | apply below_drew1) | exact HB.out)) hb); clear HO411; clear HO415; clear HB; have HO411 := n0_; have HO415 := n1_; have HO419 := n2_; have HB := n3_; clear n0_ n1_ n2_ n3_; (try clear hb); (try clear hb2); (try clear hk); (try clear hi); (try clear ho0)))
          (try simp only [Act.put, List.setIfInBounds_toArray, List.set_cons_zero, List.set_cons_succ])
          go_cut [68] (fun v68 wc => ∃ (kq : Nat) (x68_12 : Bool), v68 = .bool x68_12 ∧ Aside0 (rampartlaw04_KeysAsks.j1 kq l0 l1 x68_12 = some r) ∧ Aside0 (kq ≤ kj5) ∧ Aside0 (Below w.heap.size w wc))
          case first =>
            have H := HC13.out
            clear HC13
            by_cases c18 : t413 = t417
            · rw [if_pos c18] at H
              have c18b0 : (t413 == t417) = true := beq_iff_eq.mpr c18
              have c18b1 : (t413 != t417) = false := bne_eq_false_iff_eq.mpr c18
              clear c18
              (first | rw [c18b0] | (simp only [i64_w, i32_w]; rw [c18b0]) | skip)
              replace H := Option.bind_eq_some_iff.mp H
              obtain ⟨t420, A190, H⟩ := H
              replace H : (if t420 = true then ((rampartlaw04_own.f l0).bind fun t421 => ((keys_Valid.f kj5 t421).bind fun t424 => ((rampartref04_Valid.f kj5 l0).bind fun t425 => (if (t424 != t425) = true then (rampartlaw04_KeysAsks.j1 kj5 l0 l1 true) else ((rampartlaw04_own.f l0).bind fun t426 => ((keys_Rising.f kj5 t426).bind fun t429 => ((rampartref04_Rising.f kj5 l0).bind fun t430 => (if (t429 != t430) = true then (rampartlaw04_KeysAsks.j1 kj5 l0 l1 true) else ((rampartlaw04_own.f l0).bind fun t431 => ((keys_Has.f kj5 t431 a2).bind fun t434 => ((rampartref04_Has.f kj5 l0 a2).bind fun t435 => (rampartlaw04_KeysAsks.j1 kj5 l0 l1 (t434 != t435))))))))))))) else (rampartlaw04_KeysAsks.j1 kj5 l0 l1 true)) = some r := H
              have A19 := Aside0.mk A190
              clear A190
              by_cases c20 : t420 = true
              · subst c20
                have H1 : ((rampartlaw04_own.f l0).bind fun t421 => ((keys_Valid.f kj5 t421).bind fun t424 => ((rampartref04_Valid.f kj5 l0).bind fun t425 => (if (t424 != t425) = true then (rampartlaw04_KeysAsks.j1 kj5 l0 l1 true) else ((rampartlaw04_own.f l0).bind fun t426 => ((keys_Rising.f kj5 t426).bind fun t429 => ((rampartref04_Rising.f kj5 l0).bind fun t430 => (if (t429 != t430) = true then (rampartlaw04_KeysAsks.j1 kj5 l0 l1 true) else ((rampartlaw04_own.f l0).bind fun t431 => ((keys_Has.f kj5 t431 a2).bind fun t434 => ((rampartref04_Has.f kj5 l0 a2).bind fun t435 => (rampartlaw04_KeysAsks.j1 kj5 l0 l1 (t434 != t435))))))))))))) = some r := by rw [if_pos rfl] at H; exact H
                clear H
                have H := H1
                clear H1
                replace H := Option.bind_eq_some_iff.mp H
                obtain ⟨t421, A210, H⟩ := H
                replace H : ((keys_Valid.f kj5 t421).bind fun t424 => ((rampartref04_Valid.f kj5 l0).bind fun t425 => (if (t424 != t425) = true then (rampartlaw04_KeysAsks.j1 kj5 l0 l1 true) else ((rampartlaw04_own.f l0).bind fun t426 => ((keys_Rising.f kj5 t426).bind fun t429 => ((rampartref04_Rising.f kj5 l0).bind fun t430 => (if (t429 != t430) = true then (rampartlaw04_KeysAsks.j1 kj5 l0 l1 true) else ((rampartlaw04_own.f l0).bind fun t431 => ((keys_Has.f kj5 t431 a2).bind fun t434 => ((rampartref04_Has.f kj5 l0 a2).bind fun t435 => (rampartlaw04_KeysAsks.j1 kj5 l0 l1 (t434 != t435)))))))))))) = some r := H
                have A21 := Aside0.mk A210
                clear A210
                replace H := Option.bind_eq_some_iff.mp H
                obtain ⟨t424, A220, H⟩ := H
                replace H : ((rampartref04_Valid.f kj5 l0).bind fun t425 => (if (t424 != t425) = true then (rampartlaw04_KeysAsks.j1 kj5 l0 l1 true) else ((rampartlaw04_own.f l0).bind fun t426 => ((keys_Rising.f kj5 t426).bind fun t429 => ((rampartref04_Rising.f kj5 l0).bind fun t430 => (if (t429 != t430) = true then (rampartlaw04_KeysAsks.j1 kj5 l0 l1 true) else ((rampartlaw04_own.f l0).bind fun t431 => ((keys_Has.f kj5 t431 a2).bind fun t434 => ((rampartref04_Has.f kj5 l0 a2).bind fun t435 => (rampartlaw04_KeysAsks.j1 kj5 l0 l1 (t434 != t435))))))))))) = some r := H
                have A22 := Aside0.mk A220
                clear A220
                replace H := Option.bind_eq_some_iff.mp H
                obtain ⟨t425, A230, H⟩ := H
                replace H : (if (t424 != t425) = true then (rampartlaw04_KeysAsks.j1 kj5 l0 l1 true) else ((rampartlaw04_own.f l0).bind fun t426 => ((keys_Rising.f kj5 t426).bind fun t429 => ((rampartref04_Rising.f kj5 l0).bind fun t430 => (if (t429 != t430) = true then (rampartlaw04_KeysAsks.j1 kj5 l0 l1 true) else ((rampartlaw04_own.f l0).bind fun t431 => ((keys_Has.f kj5 t431 a2).bind fun t434 => ((rampartref04_Has.f kj5 l0 a2).bind fun t435 => (rampartlaw04_KeysAsks.j1 kj5 l0 l1 (t434 != t435)))))))))) = some r := H
                have A23 := Aside0.mk A230
                clear A230
                by_cases c24 : (t424 != t425) = true
                · rw [if_pos c24] at H
                  have c24b0 : (t424 != t425) = true := c24
                  (try (have c24b1 : decide (t424 = t425) = false := by simpa using c24))
                  (try (have c24b2 : (t424 == t425) = false := by simpa using c24))
                  (try (have c24b3 : ¬ (t424 = t425) := by simpa using c24))
                  clear c24
                  have H' := Aside0.mk H
                  clear H
                  obtain ⟨Ao25, co25, eo25⟩ := Kd.R_slice HO415.out
                  subst eo25
                  obtain ⟨Ao26, co26, eo26⟩ := Kd.R_slice HO419.out
                  subst eo26
                  go_wp2_with (first | (go_at_call 12; (with_reducible refine (rampartlaw04_same.calls kj5 _ _ t412 _ _ t416 true _ ?side1 ?side2 ?side3 ?side4 A19.out).mono ?_); (case side1 => repeat (first | exact (Kd.R_reads' HO415.out).2.2 | (with_reducible refine Kd.C_alloc ?_ _) | (with_reducible refine Kd.C_drewN ?_ _) | (with_reducible refine Kd.C_drew ?_))); (case side2 => exact (Kd.R_reads' HO415.out).2.1); (case side3 => repeat (first | exact (Kd.R_reads' HO419.out).2.2 | (with_reducible refine Kd.C_alloc ?_ _) | (with_reducible refine Kd.C_drewN ?_ _) | (with_reducible refine Kd.C_drew ?_))); (case side4 => exact (Kd.R_reads' HO419.out).2.1); rintro e w' ⟨rfl, ⟨nd, rfl⟩⟩) | (go_at_call 10; (with_reducible refine (rampartlaw04_own.calls _ _ l0 t421 _ ?side1 ?side2 A21.out).mono ?_); (case side1 => repeat (first | exact (Kd.C_below HR0.out (by repeat (first | (with_reducible first | exact HB.out | apply below_alloc | apply pw_below_drewN | apply below_drew1) | exact HB.out))) | (with_reducible refine Kd.C_alloc ?_ _) | (with_reducible refine Kd.C_drewN ?_ _) | (with_reducible refine Kd.C_drew ?_))); (case side2 => exact HC0.out); rintro e w27 ⟨v422, rfl, ho0, hb⟩; have n0_ := Aside0.mk (Kd.R_elder' (by (with_reducible repeat (first | apply Kd.R_alloc | apply Kd.R_drewN | apply Kd.R_drew)); exact HO411.out) (Kd.R_base ho0) hb); have n1_ := Aside0.mk (Kd.R_elder' (by (with_reducible repeat (first | apply Kd.R_alloc | apply Kd.R_drewN | apply Kd.R_drew)); exact HO415.out) (Kd.R_base ho0) hb); have n2_ := Aside0.mk (Kd.R_elder' (by (with_reducible repeat (first | apply Kd.R_alloc | apply Kd.R_drewN | apply Kd.R_drew)); exact HO419.out) (Kd.R_base ho0) hb); have n3_ := Aside0.mk (Kd.R_lower (Kd.R_new' (Kd.R_new' (Kd.R_new' ho0 (Kd.R_lt (by (with_reducible repeat (first | apply Kd.R_alloc | apply Kd.R_drewN | apply Kd.R_drew)); exact HO411.out))) (Kd.R_lt (by (with_reducible repeat (first | apply Kd.R_alloc | apply Kd.R_drewN | apply Kd.R_drew)); exact HO415.out))) (Kd.R_lt (by (with_reducible repeat (first | apply Kd.R_alloc | apply Kd.R_drewN | apply Kd.R_drew)); exact HO419.out))) (below_size (by repeat (first | (with_reducible first | exact HB.out | apply below_alloc | apply pw_below_drewN | apply below_drew1) | exact HB.out)))); have n4_ := Aside0.mk (below_step (by repeat (first | (with_reducible first | exact HB.out | apply below_alloc | apply pw_below_drewN | apply below_drew1) | exact HB.out)) hb); clear HO411; clear HO415; clear HO419; clear HB; have HO411 := n0_; have HO415 := n1_; have HO419 := n2_; have HO423 := n3_; have HB := n4_; clear n0_ n1_ n2_ n3_ n4_; (try clear hb); (try clear hb2); (try clear hk); (try clear hi); (try clear ho0); obtain ⟨Ao28, co28, eo28⟩ := Kd.R_slice HO423.out; subst eo28) | (go_at_call 13; (with_reducible refine (keys_Valid.calls kj5 _ _ t421 t424 _ ?side1 ?side2 A22.out).mono ?_); (case side1 => repeat (first | exact (Kd.R_reads' HO423.out).2.2 | (with_reducible refine Kd.C_alloc ?_ _) | (with_reducible refine Kd.C_drewN ?_ _) | (with_reducible refine Kd.C_drew ?_))); (case side2 => exact (Kd.R_reads' HO423.out).2.1); rintro e w29 ⟨rfl, hb⟩; have n0_ := Aside0.mk (Kd.R_below (by (with_reducible repeat (first | apply Kd.R_alloc | apply Kd.R_drewN | apply Kd.R_drew)); exact HO411.out) hb); have n1_ := Aside0.mk (Kd.R_below (by (with_reducible repeat (first | apply Kd.R_alloc | apply Kd.R_drewN | apply Kd.R_drew)); exact HO415.out) hb); have n2_ := Aside0.mk (Kd.R_below (by (with_reducible repeat (first | apply Kd.R_alloc | apply Kd.R_drewN | apply Kd.R_drew)); exact HO419.out) hb); have n3_ := Aside0.mk (Kd.R_below (by (with_reducible repeat (first | apply Kd.R_alloc | apply Kd.R_drewN | apply Kd.R_drew)); exact HO423.out) hb); have n4_ := Aside0.mk (below_step (by repeat (first | (with_reducible first | exact HB.out | apply below_alloc | apply pw_below_drewN | apply below_drew1) | exact HB.out)) hb); clear HO411; clear HO415; clear HO419; clear HO423; clear HB; have HO411 := n0_; have HO415 := n1_; have HO419 := n2_; have HO423 := n3_; have HB := n4_; clear n0_ n1_ n2_ n3_ n4_; (try clear hb); (try clear hb2); (try clear hk); (try clear hi)) | (go_at_call 14; (with_reducible refine (rampartref04_Valid.calls kj5 _ _ l0 t425 _ ?side1 ?side2 A23.out).mono ?_); (case side1 => repeat (first | exact (Kd.C_below HR0.out HB.out) | (with_reducible refine Kd.C_alloc ?_ _) | (with_reducible refine Kd.C_drewN ?_ _) | (with_reducible refine Kd.C_drew ?_))); (case side2 => exact HC0.out); rintro e w30 ⟨rfl, hb⟩; have n0_ := Aside0.mk (Kd.R_below (by (with_reducible repeat (first | apply Kd.R_alloc | apply Kd.R_drewN | apply Kd.R_drew)); exact HO411.out) hb); have n1_ := Aside0.mk (Kd.R_below (by (with_reducible repeat (first | apply Kd.R_alloc | apply Kd.R_drewN | apply Kd.R_drew)); exact HO415.out) hb); have n2_ := Aside0.mk (Kd.R_below (by (with_reducible repeat (first | apply Kd.R_alloc | apply Kd.R_drewN | apply Kd.R_drew)); exact HO419.out) hb); have n3_ := Aside0.mk (Kd.R_below (by (with_reducible repeat (first | apply Kd.R_alloc | apply Kd.R_drewN | apply Kd.R_drew)); exact HO423.out) hb); have n4_ := Aside0.mk (below_step (by repeat (first | (with_reducible first | exact HB.out | apply below_alloc | apply pw_below_drewN | apply below_drew1) | exact HB.out)) hb); clear HO411; clear HO415; clear HO419; clear HO423; clear HB; have HO411 := n0_; have HO415 := n1_; have HO419 := n2_; have HO423 := n3_; have HB := n4_; clear n0_ n1_ n2_ n3_ n4_; (try clear hb); (try clear hb2); (try clear hk); (try clear hi)))
                  go_meet
                  case rel => exact ⟨_, (true), (by first | rfl | (simp; done) | (simp [*]; done)), H', ⟨by have := HJ5.out; first | omega | exact Nat.le_refl _⟩, ⟨by repeat (first | (with_reducible first | exact HB.out | apply below_alloc | apply pw_below_drewN | apply below_drew1) | exact HB.out)⟩⟩
                · rw [if_neg c24] at H
                  have c24b0 : (t424 != t425) = false := by simpa using c24
                  (try (have c24b1 : decide (t424 = t425) = true := by simpa using c24))
                  (try (have c24b2 : (t424 == t425) = true := by simpa using c24))
                  clear c24
                  replace H := Option.bind_eq_some_iff.mp H
                  obtain ⟨t426, A310, H⟩ := H
                  replace H : ((keys_Rising.f kj5 t426).bind fun t429 => ((rampartref04_Rising.f kj5 l0).bind fun t430 => (if (t429 != t430) = true then (rampartlaw04_KeysAsks.j1 kj5 l0 l1 true) else ((rampartlaw04_own.f l0).bind fun t431 => ((keys_Has.f kj5 t431 a2).bind fun t434 => ((rampartref04_Has.f kj5 l0 a2).bind fun t435 => (rampartlaw04_KeysAsks.j1 kj5 l0 l1 (t434 != t435)))))))) = some r := H
                  have A31 := Aside0.mk A310
                  clear A310
                  replace H := Option.bind_eq_some_iff.mp H
                  obtain ⟨t429, A320, H⟩ := H
                  replace H : ((rampartref04_Rising.f kj5 l0).bind fun t430 => (if (t429 != t430) = true then (rampartlaw04_KeysAsks.j1 kj5 l0 l1 true) else ((rampartlaw04_own.f l0).bind fun t431 => ((keys_Has.f kj5 t431 a2).bind fun t434 => ((rampartref04_Has.f kj5 l0 a2).bind fun t435 => (rampartlaw04_KeysAsks.j1 kj5 l0 l1 (t434 != t435))))))) = some r := H
                  have A32 := Aside0.mk A320
                  clear A320
                  replace H := Option.bind_eq_some_iff.mp H
                  obtain ⟨t430, A330, H⟩ := H
                  replace H : (if (t429 != t430) = true then (rampartlaw04_KeysAsks.j1 kj5 l0 l1 true) else ((rampartlaw04_own.f l0).bind fun t431 => ((keys_Has.f kj5 t431 a2).bind fun t434 => ((rampartref04_Has.f kj5 l0 a2).bind fun t435 => (rampartlaw04_KeysAsks.j1 kj5 l0 l1 (t434 != t435)))))) = some r := H
                  have A33 := Aside0.mk A330
                  clear A330
                  by_cases c34 : (t429 != t430) = true
                  · rw [if_pos c34] at H
                    have c34b0 : (t429 != t430) = true := c34
                    (try (have c34b1 : decide (t429 = t430) = false := by simpa using c34))
                    (try (have c34b2 : (t429 == t430) = false := by simpa using c34))
                    (try (have c34b3 : ¬ (t429 = t430) := by simpa using c34))
                    clear c34
                    have H' := Aside0.mk H
                    clear H
                    obtain ⟨Ao35, co35, eo35⟩ := Kd.R_slice HO415.out
                    subst eo35
                    obtain ⟨Ao36, co36, eo36⟩ := Kd.R_slice HO419.out
                    subst eo36
                    go_wp2_with (first | ((fail_if_success have chk_ := uq1_); go_at_call 12; (with_reducible refine (rampartlaw04_same.calls kj5 _ _ t412 _ _ t416 true _ ?side1 ?side2 ?side3 ?side4 A19.out).mono ?_); (case side1 => repeat (first | exact (Kd.R_reads' HO415.out).2.2 | (with_reducible refine Kd.C_alloc ?_ _) | (with_reducible refine Kd.C_drewN ?_ _) | (with_reducible refine Kd.C_drew ?_))); (case side2 => exact (Kd.R_reads' HO415.out).2.1); (case side3 => repeat (first | exact (Kd.R_reads' HO419.out).2.2 | (with_reducible refine Kd.C_alloc ?_ _) | (with_reducible refine Kd.C_drewN ?_ _) | (with_reducible refine Kd.C_drew ?_))); (case side4 => exact (Kd.R_reads' HO419.out).2.1); rintro e w' ⟨rfl, ⟨nd, rfl⟩⟩; have uq1_ := True.intro) | ((fail_if_success have chk_ := uq2_); go_at_call 10; (with_reducible refine (rampartlaw04_own.calls _ _ l0 t421 _ ?side1 ?side2 A21.out).mono ?_); (case side1 => repeat (first | exact (Kd.C_below HR0.out (by repeat (first | (with_reducible first | exact HB.out | apply below_alloc | apply pw_below_drewN | apply below_drew1) | exact HB.out))) | (with_reducible refine Kd.C_alloc ?_ _) | (with_reducible refine Kd.C_drewN ?_ _) | (with_reducible refine Kd.C_drew ?_))); (case side2 => exact HC0.out); rintro e w37 ⟨v422, rfl, ho0, hb⟩; have n0_ := Aside0.mk (Kd.R_elder' (by (with_reducible repeat (first | apply Kd.R_alloc | apply Kd.R_drewN | apply Kd.R_drew)); exact HO411.out) (Kd.R_base ho0) hb); have n1_ := Aside0.mk (Kd.R_elder' (by (with_reducible repeat (first | apply Kd.R_alloc | apply Kd.R_drewN | apply Kd.R_drew)); exact HO415.out) (Kd.R_base ho0) hb); have n2_ := Aside0.mk (Kd.R_elder' (by (with_reducible repeat (first | apply Kd.R_alloc | apply Kd.R_drewN | apply Kd.R_drew)); exact HO419.out) (Kd.R_base ho0) hb); have n3_ := Aside0.mk (Kd.R_lower (Kd.R_new' (Kd.R_new' (Kd.R_new' ho0 (Kd.R_lt (by (with_reducible repeat (first | apply Kd.R_alloc | apply Kd.R_drewN | apply Kd.R_drew)); exact HO411.out))) (Kd.R_lt (by (with_reducible repeat (first | apply Kd.R_alloc | apply Kd.R_drewN | apply Kd.R_drew)); exact HO415.out))) (Kd.R_lt (by (with_reducible repeat (first | apply Kd.R_alloc | apply Kd.R_drewN | apply Kd.R_drew)); exact HO419.out))) (below_size (by repeat (first | (with_reducible first | exact HB.out | apply below_alloc | apply pw_below_drewN | apply below_drew1) | exact HB.out)))); have n4_ := Aside0.mk (below_step (by repeat (first | (with_reducible first | exact HB.out | apply below_alloc | apply pw_below_drewN | apply below_drew1) | exact HB.out)) hb); clear HO411; clear HO415; clear HO419; clear HB; have HO411 := n0_; have HO415 := n1_; have HO419 := n2_; have HO423 := n3_; have HB := n4_; clear n0_ n1_ n2_ n3_ n4_; (try clear hb); (try clear hb2); (try clear hk); (try clear hi); (try clear ho0); obtain ⟨Ao38, co38, eo38⟩ := Kd.R_slice HO423.out; subst eo38; have uq2_ := True.intro) | ((fail_if_success have chk_ := uq3_); go_at_call 13; (with_reducible refine (keys_Valid.calls kj5 _ _ t421 t424 _ ?side1 ?side2 A22.out).mono ?_); (case side1 => repeat (first | exact (Kd.R_reads' HO423.out).2.2 | (with_reducible refine Kd.C_alloc ?_ _) | (with_reducible refine Kd.C_drewN ?_ _) | (with_reducible refine Kd.C_drew ?_))); (case side2 => exact (Kd.R_reads' HO423.out).2.1); rintro e w39 ⟨rfl, hb⟩; have n0_ := Aside0.mk (Kd.R_below (by (with_reducible repeat (first | apply Kd.R_alloc | apply Kd.R_drewN | apply Kd.R_drew)); exact HO411.out) hb); have n1_ := Aside0.mk (Kd.R_below (by (with_reducible repeat (first | apply Kd.R_alloc | apply Kd.R_drewN | apply Kd.R_drew)); exact HO415.out) hb); have n2_ := Aside0.mk (Kd.R_below (by (with_reducible repeat (first | apply Kd.R_alloc | apply Kd.R_drewN | apply Kd.R_drew)); exact HO419.out) hb); have n3_ := Aside0.mk (Kd.R_below (by (with_reducible repeat (first | apply Kd.R_alloc | apply Kd.R_drewN | apply Kd.R_drew)); exact HO423.out) hb); have n4_ := Aside0.mk (below_step (by repeat (first | (with_reducible first | exact HB.out | apply below_alloc | apply pw_below_drewN | apply below_drew1) | exact HB.out)) hb); clear HO411; clear HO415; clear HO419; clear HO423; clear HB; have HO411 := n0_; have HO415 := n1_; have HO419 := n2_; have HO423 := n3_; have HB := n4_; clear n0_ n1_ n2_ n3_ n4_; (try clear hb); (try clear hb2); (try clear hk); (try clear hi); have uq3_ := True.intro) | ((fail_if_success have chk_ := uq4_); go_at_call 14; (with_reducible refine (rampartref04_Valid.calls kj5 _ _ l0 t425 _ ?side1 ?side2 A23.out).mono ?_); (case side1 => repeat (first | exact (Kd.C_below HR0.out HB.out) | (with_reducible refine Kd.C_alloc ?_ _) | (with_reducible refine Kd.C_drewN ?_ _) | (with_reducible refine Kd.C_drew ?_))); (case side2 => exact HC0.out); rintro e w40 ⟨rfl, hb⟩; have n0_ := Aside0.mk (Kd.R_below (by (with_reducible repeat (first | apply Kd.R_alloc | apply Kd.R_drewN | apply Kd.R_drew)); exact HO411.out) hb); have n1_ := Aside0.mk (Kd.R_below (by (with_reducible repeat (first | apply Kd.R_alloc | apply Kd.R_drewN | apply Kd.R_drew)); exact HO415.out) hb); have n2_ := Aside0.mk (Kd.R_below (by (with_reducible repeat (first | apply Kd.R_alloc | apply Kd.R_drewN | apply Kd.R_drew)); exact HO419.out) hb); have n3_ := Aside0.mk (Kd.R_below (by (with_reducible repeat (first | apply Kd.R_alloc | apply Kd.R_drewN | apply Kd.R_drew)); exact HO423.out) hb); have n4_ := Aside0.mk (below_step (by repeat (first | (with_reducible first | exact HB.out | apply below_alloc | apply pw_below_drewN | apply below_drew1) | exact HB.out)) hb); clear HO411; clear HO415; clear HO419; clear HO423; clear HB; have HO411 := n0_; have HO415 := n1_; have HO419 := n2_; have HO423 := n3_; have HB := n4_; clear n0_ n1_ n2_ n3_ n4_; (try clear hb); (try clear hb2); (try clear hk); (try clear hi); have uq4_ := True.intro) | ((fail_if_success have chk_ := uq5_); go_at_call 10; (with_reducible refine (rampartlaw04_own.calls _ _ l0 t426 _ ?side1 ?side2 A31.out).mono ?_); (case side1 => repeat (first | exact (Kd.C_below HR0.out HB.out) | (with_reducible refine Kd.C_alloc ?_ _) | (with_reducible refine Kd.C_drewN ?_ _) | (with_reducible refine Kd.C_drew ?_))); (case side2 => exact HC0.out); rintro e w41 ⟨v427, rfl, ho0, hb⟩; have n0_ := Aside0.mk (Kd.R_elder' (by (with_reducible repeat (first | apply Kd.R_alloc | apply Kd.R_drewN | apply Kd.R_drew)); exact HO411.out) (Kd.R_base ho0) hb); have n1_ := Aside0.mk (Kd.R_elder' (by (with_reducible repeat (first | apply Kd.R_alloc | apply Kd.R_drewN | apply Kd.R_drew)); exact HO415.out) (Kd.R_base ho0) hb); have n2_ := Aside0.mk (Kd.R_elder' (by (with_reducible repeat (first | apply Kd.R_alloc | apply Kd.R_drewN | apply Kd.R_drew)); exact HO419.out) (Kd.R_base ho0) hb); have n3_ := Aside0.mk (Kd.R_elder' (by (with_reducible repeat (first | apply Kd.R_alloc | apply Kd.R_drewN | apply Kd.R_drew)); exact HO423.out) (Kd.R_base ho0) hb); have n4_ := Aside0.mk (Kd.R_lower (Kd.R_new' (Kd.R_new' (Kd.R_new' (Kd.R_new' ho0 (Kd.R_lt (by (with_reducible repeat (first | apply Kd.R_alloc | apply Kd.R_drewN | apply Kd.R_drew)); exact HO411.out))) (Kd.R_lt (by (with_reducible repeat (first | apply Kd.R_alloc | apply Kd.R_drewN | apply Kd.R_drew)); exact HO415.out))) (Kd.R_lt (by (with_reducible repeat (first | apply Kd.R_alloc | apply Kd.R_drewN | apply Kd.R_drew)); exact HO419.out))) (Kd.R_lt (by (with_reducible repeat (first | apply Kd.R_alloc | apply Kd.R_drewN | apply Kd.R_drew)); exact HO423.out))) (below_size (by repeat (first | (with_reducible first | exact HB.out | apply below_alloc | apply pw_below_drewN | apply below_drew1) | exact HB.out)))); have n5_ := Aside0.mk (below_step (by repeat (first | (with_reducible first | exact HB.out | apply below_alloc | apply pw_below_drewN | apply below_drew1) | exact HB.out)) hb); clear HO411; clear HO415; clear HO419; clear HO423; clear HB; have HO411 := n0_; have HO415 := n1_; have HO419 := n2_; have HO423 := n3_; have HO428 := n4_; have HB := n5_; clear n0_ n1_ n2_ n3_ n4_ n5_; (try clear hb); (try clear hb2); (try clear hk); (try clear hi); (try clear ho0); obtain ⟨Ao42, co42, eo42⟩ := Kd.R_slice HO428.out; subst eo42; have uq5_ := True.intro) | ((fail_if_success have chk_ := uq6_); go_at_call 15; (with_reducible refine (keys_Rising.calls kj5 _ _ t426 t429 _ ?side1 ?side2 A32.out).mono ?_); (case side1 => repeat (first | exact (Kd.R_reads' HO428.out).2.2 | (with_reducible refine Kd.C_alloc ?_ _) | (with_reducible refine Kd.C_drewN ?_ _) | (with_reducible refine Kd.C_drew ?_))); (case side2 => exact (Kd.R_reads' HO428.out).2.1); rintro e w' ⟨rfl, ⟨nd, rfl⟩⟩; have uq6_ := True.intro) | ((fail_if_success have chk_ := uq7_); go_at_call 16; (with_reducible refine (rampartref04_Rising.calls kj5 _ _ l0 t430 _ ?side1 ?side2 A33.out).mono ?_); (case side1 => repeat (first | exact (Kd.C_below HR0.out (by repeat (first | (with_reducible first | exact HB.out | apply below_alloc | apply pw_below_drewN | apply below_drew1) | exact HB.out))) | (with_reducible refine Kd.C_alloc ?_ _) | (with_reducible refine Kd.C_drewN ?_ _) | (with_reducible refine Kd.C_drew ?_))); (case side2 => exact HC0.out); rintro e w' ⟨rfl, ⟨nd, rfl⟩⟩; have uq7_ := True.intro))
                    go_meet
                    case rel => exact ⟨_, (true), (by first | rfl | (simp; done) | (simp [*]; done)), H', ⟨by have := HJ5.out; first | omega | exact Nat.le_refl _⟩, ⟨by repeat (first | (with_reducible first | exact HB.out | apply below_alloc | apply pw_below_drewN | apply below_drew1) | exact HB.out)⟩⟩
                  · rw [if_neg c34] at H
                    have c34b0 : (t429 != t430) = false := by simpa using c34
                    (try (have c34b1 : decide (t429 = t430) = true := by simpa using c34))
                    (try (have c34b2 : (t429 == t430) = true := by simpa using c34))
                    clear c34
                    replace H := Option.bind_eq_some_iff.mp H
                    obtain ⟨t431, A430, H⟩ := H
                    replace H : ((keys_Has.f kj5 t431 a2).bind fun t434 => ((rampartref04_Has.f kj5 l0 a2).bind fun t435 => (rampartlaw04_KeysAsks.j1 kj5 l0 l1 (t434 != t435)))) = some r := H
                    have A43 := Aside0.mk A430
                    clear A430
                    replace H := Option.bind_eq_some_iff.mp H
                    obtain ⟨t434, A440, H⟩ := H
                    replace H : ((rampartref04_Has.f kj5 l0 a2).bind fun t435 => (rampartlaw04_KeysAsks.j1 kj5 l0 l1 (t434 != t435))) = some r := H
                    have A44 := Aside0.mk A440
                    clear A440
                    replace H := Option.bind_eq_some_iff.mp H
                    obtain ⟨t435, A450, H⟩ := H
                    replace H : (rampartlaw04_KeysAsks.j1 kj5 l0 l1 (t434 != t435)) = some r := H
                    have A45 := Aside0.mk A450
                    clear A450
                    have H' := Aside0.mk H
                    clear H
                    obtain ⟨Ao46, co46, eo46⟩ := Kd.R_slice HO415.out
                    subst eo46
                    obtain ⟨Ao47, co47, eo47⟩ := Kd.R_slice HO419.out
                    subst eo47
                    go_wp2_with (first | ((fail_if_success have chk_ := uq8_); go_at_call 12; (with_reducible refine (rampartlaw04_same.calls kj5 _ _ t412 _ _ t416 true _ ?side1 ?side2 ?side3 ?side4 A19.out).mono ?_); (case side1 => repeat (first | exact (Kd.R_reads' HO415.out).2.2 | (with_reducible refine Kd.C_alloc ?_ _) | (with_reducible refine Kd.C_drewN ?_ _) | (with_reducible refine Kd.C_drew ?_))); (case side2 => exact (Kd.R_reads' HO415.out).2.1); (case side3 => repeat (first | exact (Kd.R_reads' HO419.out).2.2 | (with_reducible refine Kd.C_alloc ?_ _) | (with_reducible refine Kd.C_drewN ?_ _) | (with_reducible refine Kd.C_drew ?_))); (case side4 => exact (Kd.R_reads' HO419.out).2.1); rintro e w' ⟨rfl, ⟨nd, rfl⟩⟩; have uq8_ := True.intro) | ((fail_if_success have chk_ := uq9_); go_at_call 10; (with_reducible refine (rampartlaw04_own.calls _ _ l0 t421 _ ?side1 ?side2 A21.out).mono ?_); (case side1 => repeat (first | exact (Kd.C_below HR0.out (by repeat (first | (with_reducible first | exact HB.out | apply below_alloc | apply pw_below_drewN | apply below_drew1) | exact HB.out))) | (with_reducible refine Kd.C_alloc ?_ _) | (with_reducible refine Kd.C_drewN ?_ _) | (with_reducible refine Kd.C_drew ?_))); (case side2 => exact HC0.out); rintro e w48 ⟨v422, rfl, ho0, hb⟩; have n0_ := Aside0.mk (Kd.R_elder' (by (with_reducible repeat (first | apply Kd.R_alloc | apply Kd.R_drewN | apply Kd.R_drew)); exact HO411.out) (Kd.R_base ho0) hb); have n1_ := Aside0.mk (Kd.R_elder' (by (with_reducible repeat (first | apply Kd.R_alloc | apply Kd.R_drewN | apply Kd.R_drew)); exact HO415.out) (Kd.R_base ho0) hb); have n2_ := Aside0.mk (Kd.R_elder' (by (with_reducible repeat (first | apply Kd.R_alloc | apply Kd.R_drewN | apply Kd.R_drew)); exact HO419.out) (Kd.R_base ho0) hb); have n3_ := Aside0.mk (Kd.R_lower (Kd.R_new' (Kd.R_new' (Kd.R_new' ho0 (Kd.R_lt (by (with_reducible repeat (first | apply Kd.R_alloc | apply Kd.R_drewN | apply Kd.R_drew)); exact HO411.out))) (Kd.R_lt (by (with_reducible repeat (first | apply Kd.R_alloc | apply Kd.R_drewN | apply Kd.R_drew)); exact HO415.out))) (Kd.R_lt (by (with_reducible repeat (first | apply Kd.R_alloc | apply Kd.R_drewN | apply Kd.R_drew)); exact HO419.out))) (below_size (by repeat (first | (with_reducible first | exact HB.out | apply below_alloc | apply pw_below_drewN | apply below_drew1) | exact HB.out)))); have n4_ := Aside0.mk (below_step (by repeat (first | (with_reducible first | exact HB.out | apply below_alloc | apply pw_below_drewN | apply below_drew1) | exact HB.out)) hb); clear HO411; clear HO415; clear HO419; clear HB; have HO411 := n0_; have HO415 := n1_; have HO419 := n2_; have HO423 := n3_; have HB := n4_; clear n0_ n1_ n2_ n3_ n4_; (try clear hb); (try clear hb2); (try clear hk); (try clear hi); (try clear ho0); obtain ⟨Ao49, co49, eo49⟩ := Kd.R_slice HO423.out; subst eo49; have uq9_ := True.intro) | ((fail_if_success have chk_ := uq10_); go_at_call 13; (with_reducible refine (keys_Valid.calls kj5 _ _ t421 t424 _ ?side1 ?side2 A22.out).mono ?_); (case side1 => repeat (first | exact (Kd.R_reads' HO423.out).2.2 | (with_reducible refine Kd.C_alloc ?_ _) | (with_reducible refine Kd.C_drewN ?_ _) | (with_reducible refine Kd.C_drew ?_))); (case side2 => exact (Kd.R_reads' HO423.out).2.1); rintro e w50 ⟨rfl, hb⟩; have n0_ := Aside0.mk (Kd.R_below (by (with_reducible repeat (first | apply Kd.R_alloc | apply Kd.R_drewN | apply Kd.R_drew)); exact HO411.out) hb); have n1_ := Aside0.mk (Kd.R_below (by (with_reducible repeat (first | apply Kd.R_alloc | apply Kd.R_drewN | apply Kd.R_drew)); exact HO415.out) hb); have n2_ := Aside0.mk (Kd.R_below (by (with_reducible repeat (first | apply Kd.R_alloc | apply Kd.R_drewN | apply Kd.R_drew)); exact HO419.out) hb); have n3_ := Aside0.mk (Kd.R_below (by (with_reducible repeat (first | apply Kd.R_alloc | apply Kd.R_drewN | apply Kd.R_drew)); exact HO423.out) hb); have n4_ := Aside0.mk (below_step (by repeat (first | (with_reducible first | exact HB.out | apply below_alloc | apply pw_below_drewN | apply below_drew1) | exact HB.out)) hb); clear HO411; clear HO415; clear HO419; clear HO423; clear HB; have HO411 := n0_; have HO415 := n1_; have HO419 := n2_; have HO423 := n3_; have HB := n4_; clear n0_ n1_ n2_ n3_ n4_; (try clear hb); (try clear hb2); (try clear hk); (try clear hi); have uq10_ := True.intro) | ((fail_if_success have chk_ := uq11_); go_at_call 14; (with_reducible refine (rampartref04_Valid.calls kj5 _ _ l0 t425 _ ?side1 ?side2 A23.out).mono ?_); (case side1 => repeat (first | exact (Kd.C_below HR0.out HB.out) | (with_reducible refine Kd.C_alloc ?_ _) | (with_reducible refine Kd.C_drewN ?_ _) | (with_reducible refine Kd.C_drew ?_))); (case side2 => exact HC0.out); rintro e w51 ⟨rfl, hb⟩; have n0_ := Aside0.mk (Kd.R_below (by (with_reducible repeat (first | apply Kd.R_alloc | apply Kd.R_drewN | apply Kd.R_drew)); exact HO411.out) hb); have n1_ := Aside0.mk (Kd.R_below (by (with_reducible repeat (first | apply Kd.R_alloc | apply Kd.R_drewN | apply Kd.R_drew)); exact HO415.out) hb); have n2_ := Aside0.mk (Kd.R_below (by (with_reducible repeat (first | apply Kd.R_alloc | apply Kd.R_drewN | apply Kd.R_drew)); exact HO419.out) hb); have n3_ := Aside0.mk (Kd.R_below (by (with_reducible repeat (first | apply Kd.R_alloc | apply Kd.R_drewN | apply Kd.R_drew)); exact HO423.out) hb); have n4_ := Aside0.mk (below_step (by repeat (first | (with_reducible first | exact HB.out | apply below_alloc | apply pw_below_drewN | apply below_drew1) | exact HB.out)) hb); clear HO411; clear HO415; clear HO419; clear HO423; clear HB; have HO411 := n0_; have HO415 := n1_; have HO419 := n2_; have HO423 := n3_; have HB := n4_; clear n0_ n1_ n2_ n3_ n4_; (try clear hb); (try clear hb2); (try clear hk); (try clear hi); have uq11_ := True.intro) | ((fail_if_success have chk_ := uq12_); go_at_call 10; (with_reducible refine (rampartlaw04_own.calls _ _ l0 t426 _ ?side1 ?side2 A31.out).mono ?_); (case side1 => repeat (first | exact (Kd.C_below HR0.out HB.out) | (with_reducible refine Kd.C_alloc ?_ _) | (with_reducible refine Kd.C_drewN ?_ _) | (with_reducible refine Kd.C_drew ?_))); (case side2 => exact HC0.out); rintro e w52 ⟨v427, rfl, ho0, hb⟩; have n0_ := Aside0.mk (Kd.R_elder' (by (with_reducible repeat (first | apply Kd.R_alloc | apply Kd.R_drewN | apply Kd.R_drew)); exact HO411.out) (Kd.R_base ho0) hb); have n1_ := Aside0.mk (Kd.R_elder' (by (with_reducible repeat (first | apply Kd.R_alloc | apply Kd.R_drewN | apply Kd.R_drew)); exact HO415.out) (Kd.R_base ho0) hb); have n2_ := Aside0.mk (Kd.R_elder' (by (with_reducible repeat (first | apply Kd.R_alloc | apply Kd.R_drewN | apply Kd.R_drew)); exact HO419.out) (Kd.R_base ho0) hb); have n3_ := Aside0.mk (Kd.R_elder' (by (with_reducible repeat (first | apply Kd.R_alloc | apply Kd.R_drewN | apply Kd.R_drew)); exact HO423.out) (Kd.R_base ho0) hb); have n4_ := Aside0.mk (Kd.R_lower (Kd.R_new' (Kd.R_new' (Kd.R_new' (Kd.R_new' ho0 (Kd.R_lt (by (with_reducible repeat (first | apply Kd.R_alloc | apply Kd.R_drewN | apply Kd.R_drew)); exact HO411.out))) (Kd.R_lt (by (with_reducible repeat (first | apply Kd.R_alloc | apply Kd.R_drewN | apply Kd.R_drew)); exact HO415.out))) (Kd.R_lt (by (with_reducible repeat (first | apply Kd.R_alloc | apply Kd.R_drewN | apply Kd.R_drew)); exact HO419.out))) (Kd.R_lt (by (with_reducible repeat (first | apply Kd.R_alloc | apply Kd.R_drewN | apply Kd.R_drew)); exact HO423.out))) (below_size (by repeat (first | (with_reducible first | exact HB.out | apply below_alloc | apply pw_below_drewN | apply below_drew1) | exact HB.out)))); have n5_ := Aside0.mk (below_step (by repeat (first | (with_reducible first | exact HB.out | apply below_alloc | apply pw_below_drewN | apply below_drew1) | exact HB.out)) hb); clear HO411; clear HO415; clear HO419; clear HO423; clear HB; have HO411 := n0_; have HO415 := n1_; have HO419 := n2_; have HO423 := n3_; have HO428 := n4_; have HB := n5_; clear n0_ n1_ n2_ n3_ n4_ n5_; (try clear hb); (try clear hb2); (try clear hk); (try clear hi); (try clear ho0); obtain ⟨Ao53, co53, eo53⟩ := Kd.R_slice HO428.out; subst eo53; have uq12_ := True.intro) | ((fail_if_success have chk_ := uq13_); go_at_call 15; (with_reducible refine (keys_Rising.calls kj5 _ _ t426 t429 _ ?side1 ?side2 A32.out).mono ?_); (case side1 => repeat (first | exact (Kd.R_reads' HO428.out).2.2 | (with_reducible refine Kd.C_alloc ?_ _) | (with_reducible refine Kd.C_drewN ?_ _) | (with_reducible refine Kd.C_drew ?_))); (case side2 => exact (Kd.R_reads' HO428.out).2.1); rintro e w' ⟨rfl, ⟨nd, rfl⟩⟩; have uq13_ := True.intro) | ((fail_if_success have chk_ := uq14_); go_at_call 16; (with_reducible refine (rampartref04_Rising.calls kj5 _ _ l0 t430 _ ?side1 ?side2 A33.out).mono ?_); (case side1 => repeat (first | exact (Kd.C_below HR0.out (by repeat (first | (with_reducible first | exact HB.out | apply below_alloc | apply pw_below_drewN | apply below_drew1) | exact HB.out))) | (with_reducible refine Kd.C_alloc ?_ _) | (with_reducible refine Kd.C_drewN ?_ _) | (with_reducible refine Kd.C_drew ?_))); (case side2 => exact HC0.out); rintro e w' ⟨rfl, ⟨nd, rfl⟩⟩; have uq14_ := True.intro) | ((fail_if_success have chk_ := uq15_); go_at_call 10; (with_reducible refine (rampartlaw04_own.calls _ _ l0 t431 _ ?side1 ?side2 A43.out).mono ?_); (case side1 => repeat (first | exact (Kd.C_below HR0.out (by repeat (first | (with_reducible first | exact HB.out | apply below_alloc | apply pw_below_drewN | apply below_drew1) | exact HB.out))) | (with_reducible refine Kd.C_alloc ?_ _) | (with_reducible refine Kd.C_drewN ?_ _) | (with_reducible refine Kd.C_drew ?_))); (case side2 => exact HC0.out); rintro e w54 ⟨v432, rfl, ho0, hb⟩; have n0_ := Aside0.mk (Kd.R_elder' (by (with_reducible repeat (first | apply Kd.R_alloc | apply Kd.R_drewN | apply Kd.R_drew)); exact HO411.out) (Kd.R_base ho0) hb); have n1_ := Aside0.mk (Kd.R_elder' (by (with_reducible repeat (first | apply Kd.R_alloc | apply Kd.R_drewN | apply Kd.R_drew)); exact HO415.out) (Kd.R_base ho0) hb); have n2_ := Aside0.mk (Kd.R_elder' (by (with_reducible repeat (first | apply Kd.R_alloc | apply Kd.R_drewN | apply Kd.R_drew)); exact HO419.out) (Kd.R_base ho0) hb); have n3_ := Aside0.mk (Kd.R_elder' (by (with_reducible repeat (first | apply Kd.R_alloc | apply Kd.R_drewN | apply Kd.R_drew)); exact HO423.out) (Kd.R_base ho0) hb); have n4_ := Aside0.mk (Kd.R_elder' (by (with_reducible repeat (first | apply Kd.R_alloc | apply Kd.R_drewN | apply Kd.R_drew)); exact HO428.out) (Kd.R_base ho0) hb); have n5_ := Aside0.mk (Kd.R_lower (Kd.R_new' (Kd.R_new' (Kd.R_new' (Kd.R_new' (Kd.R_new' ho0 (Kd.R_lt (by (with_reducible repeat (first | apply Kd.R_alloc | apply Kd.R_drewN | apply Kd.R_drew)); exact HO411.out))) (Kd.R_lt (by (with_reducible repeat (first | apply Kd.R_alloc | apply Kd.R_drewN | apply Kd.R_drew)); exact HO415.out))) (Kd.R_lt (by (with_reducible repeat (first | apply Kd.R_alloc | apply Kd.R_drewN | apply Kd.R_drew)); exact HO419.out))) (Kd.R_lt (by (with_reducible repeat (first | apply Kd.R_alloc | apply Kd.R_drewN | apply Kd.R_drew)); exact HO423.out))) (Kd.R_lt (by (with_reducible repeat (first | apply Kd.R_alloc | apply Kd.R_drewN | apply Kd.R_drew)); exact HO428.out))) (below_size (by repeat (first | (with_reducible first | exact HB.out | apply below_alloc | apply pw_below_drewN | apply below_drew1) | exact HB.out)))); have n6_ := Aside0.mk (below_step (by repeat (first | (with_reducible first | exact HB.out | apply below_alloc | apply pw_below_drewN | apply below_drew1) | exact HB.out)) hb); clear HO411; clear HO415; clear HO419; clear HO423; clear HO428; clear HB; have HO411 := n0_; have HO415 := n1_; have HO419 := n2_; have HO423 := n3_; have HO428 := n4_; have HO433 := n5_; have HB := n6_; clear n0_ n1_ n2_ n3_ n4_ n5_ n6_; (try clear hb); (try clear hb2); (try clear hk); (try clear hi); (try clear ho0); obtain ⟨Ao55, co55, eo55⟩ := Kd.R_slice HO433.out; subst eo55; have uq15_ := True.intro) | ((fail_if_success have chk_ := uq16_); go_at_call 17; (with_reducible refine (keys_Has.calls kj5 _ _ t431 a2 t434 _ ?side1 ?side2 A44.out).mono ?_); (case side1 => repeat (first | exact (Kd.R_reads' HO433.out).2.2 | (with_reducible refine Kd.C_alloc ?_ _) | (with_reducible refine Kd.C_drewN ?_ _) | (with_reducible refine Kd.C_drew ?_))); (case side2 => exact (Kd.R_reads' HO433.out).2.1); rintro e w' ⟨rfl, ⟨nd, rfl⟩⟩; have uq16_ := True.intro) | ((fail_if_success have chk_ := uq17_); go_at_call 18; (with_reducible refine (rampartref04_Has.calls kj5 _ _ l0 a2 t435 _ ?side1 ?side2 A45.out).mono ?_); (case side1 => repeat (first | exact (Kd.C_below HR0.out (by repeat (first | (with_reducible first | exact HB.out | apply below_alloc | apply pw_below_drewN | apply below_drew1) | exact HB.out))) | (with_reducible refine Kd.C_alloc ?_ _) | (with_reducible refine Kd.C_drewN ?_ _) | (with_reducible refine Kd.C_drew ?_))); (case side2 => exact HC0.out); rintro e w' ⟨rfl, ⟨nd, rfl⟩⟩; have uq17_ := True.intro))
                    go_meet
                    case rel => exact ⟨_, ((t434 != t435)), (by first | rfl | (simp; done) | (simp [*]; done)), H', ⟨by have := HJ5.out; first | omega | exact Nat.le_refl _⟩, ⟨by repeat (first | (with_reducible first | exact HB.out | apply below_alloc | apply pw_below_drewN | apply below_drew1) | exact HB.out)⟩⟩
              · replace c20 := Bool.eq_false_iff.mpr c20
                subst c20
                have H1 : (rampartlaw04_KeysAsks.j1 kj5 l0 l1 true) = some r := by rw [if_neg (show ¬ (false = true) by decide)] at H; exact H
                clear H
                have H := H1
                clear H1
                have H' := Aside0.mk H
                clear H
                obtain ⟨Ao56, co56, eo56⟩ := Kd.R_slice HO415.out
                subst eo56
                obtain ⟨Ao57, co57, eo57⟩ := Kd.R_slice HO419.out
                subst eo57
                go_wp2_with (first | (go_at_call 12; (with_reducible refine (rampartlaw04_same.calls kj5 _ _ t412 _ _ t416 false _ ?side1 ?side2 ?side3 ?side4 A19.out).mono ?_); (case side1 => repeat (first | exact (Kd.R_reads' HO415.out).2.2 | (with_reducible refine Kd.C_alloc ?_ _) | (with_reducible refine Kd.C_drewN ?_ _) | (with_reducible refine Kd.C_drew ?_))); (case side2 => exact (Kd.R_reads' HO415.out).2.1); (case side3 => repeat (first | exact (Kd.R_reads' HO419.out).2.2 | (with_reducible refine Kd.C_alloc ?_ _) | (with_reducible refine Kd.C_drewN ?_ _) | (with_reducible refine Kd.C_drew ?_))); (case side4 => exact (Kd.R_reads' HO419.out).2.1); rintro e w' ⟨rfl, ⟨nd, rfl⟩⟩))
                go_meet
                case rel => exact ⟨_, (true), (by first | rfl | (simp; done) | (simp [*]; done)), H', ⟨by have := HJ5.out; first | omega | exact Nat.le_refl _⟩, ⟨by repeat (first | (with_reducible first | exact HB.out | apply below_alloc | apply pw_below_drewN | apply below_drew1) | exact HB.out)⟩⟩
            · rw [if_neg c18] at H
              have c18b0 : (t413 == t417) = false := beq_eq_false_iff_ne.mpr c18
              have c18b1 : (t413 != t417) = true := bne_iff_ne.mpr c18
              (first | rw [c18b0] | (simp only [i64_w, i32_w]; rw [c18b0]) | skip)
              have H' := Aside0.mk H
              clear H
              go_wp2
              go_meet
              case rel => exact ⟨_, (true), (by first | rfl | (simp; done) | (simp [*]; done)), H', ⟨by have := HJ5.out; first | omega | exact Nat.le_refl _⟩, ⟨by repeat (first | (with_reducible first | exact HB.out | apply below_alloc | apply pw_below_drewN | apply below_drew1) | exact HB.out)⟩⟩
          case rest =>
            clear HC13
            try clear c1
            try clear c2
            try clear p2
            try clear c3
            try clear c5
            try clear c8
            try clear c8b0
            try clear c8b1
            try clear c9
            try clear c10
            try clear c11
            try clear c18
            try clear c18b0
            try clear c18b1
            try clear c20
            try clear c24
            try clear c24b0
            try clear c24b1
            try clear c24b2
            try clear c34
            try clear c34b0
            try clear c34b1
            try clear c34b2
            try clear p2
            obtain ⟨kq, x68_12, rfl, HA, HJ12, HB⟩ := hcut
            cases kq with
            | zero => exact absurd HA.out (by simp [rampartlaw04_KeysAsks.j1])
            | succ kj12 =>
              have H := HA.out
              clear HA
              simp only [rampartlaw04_KeysAsks.j1] at H
              by_cases c58 : x68_12 = true
              · subst c58
                have H1 : (some false) = some r := by rw [if_pos rfl] at H; exact H
                clear H
                have H := H1
                clear H1
                obtain rfl := Option.some.inj H
                go_wp2
                go_ret
                exact ⟨by first | rfl | (simp [errW_none, errW_some] <;> rfl) | (simp [*, errW_none, errW_some] <;> rfl), by repeat (first | (with_reducible first | exact HB.out | apply below_alloc | apply pw_below_drewN | apply below_drew1) | exact HB.out)⟩
              · replace c58 := Bool.eq_false_iff.mpr c58
                subst c58
                have H1 : ((rampartlaw04_own.f l0).bind fun t436 => ((rampartlaw04_own.f l1).bind fun t439 => ((keys_Union.f kj12 t436 t439).bind fun bt442 => ((rampartref04_Union.f kj12 l0 l1).bind fun bt446 => (if bt442.2 = bt446.2 then ((rampartlaw04_same.f kj12 bt442.1 bt446.1).bind fun t450 => (rampartlaw04_KeysAsks.j2 kj12 l0 l1 (!t450))) else (rampartlaw04_KeysAsks.j2 kj12 l0 l1 true)))))) = some r := by rw [if_neg (show ¬ (false = true) by decide)] at H; exact H
                clear H
                have H := H1
                clear H1
                replace H := Option.bind_eq_some_iff.mp H
                obtain ⟨t436, A590, H⟩ := H
                replace H : ((rampartlaw04_own.f l1).bind fun t439 => ((keys_Union.f kj12 t436 t439).bind fun bt442 => ((rampartref04_Union.f kj12 l0 l1).bind fun bt446 => (if bt442.2 = bt446.2 then ((rampartlaw04_same.f kj12 bt442.1 bt446.1).bind fun t450 => (rampartlaw04_KeysAsks.j2 kj12 l0 l1 (!t450))) else (rampartlaw04_KeysAsks.j2 kj12 l0 l1 true))))) = some r := H
                have A59 := Aside0.mk A590
                clear A590
                replace H := Option.bind_eq_some_iff.mp H
                obtain ⟨t439, A600, H⟩ := H
                replace H : ((keys_Union.f kj12 t436 t439).bind fun bt442 => ((rampartref04_Union.f kj12 l0 l1).bind fun bt446 => (if bt442.2 = bt446.2 then ((rampartlaw04_same.f kj12 bt442.1 bt446.1).bind fun t450 => (rampartlaw04_KeysAsks.j2 kj12 l0 l1 (!t450))) else (rampartlaw04_KeysAsks.j2 kj12 l0 l1 true)))) = some r := H
                have A60 := Aside0.mk A600
                clear A600
                replace H := Option.bind_eq_some_iff.mp H
                obtain ⟨⟨t442, t443⟩, A610, H⟩ := H
                replace H : ((rampartref04_Union.f kj12 l0 l1).bind fun bt446 => (if t443 = bt446.2 then ((rampartlaw04_same.f kj12 t442 bt446.1).bind fun t450 => (rampartlaw04_KeysAsks.j2 kj12 l0 l1 (!t450))) else (rampartlaw04_KeysAsks.j2 kj12 l0 l1 true))) = some r := H
                have A61 := Aside0.mk A610
                clear A610
                replace H := Option.bind_eq_some_iff.mp H
                obtain ⟨⟨t446, t447⟩, A620, H⟩ := H
                replace H : (if t443 = t447 then ((rampartlaw04_same.f kj12 t442 t446).bind fun t450 => (rampartlaw04_KeysAsks.j2 kj12 l0 l1 (!t450))) else (rampartlaw04_KeysAsks.j2 kj12 l0 l1 true)) = some r := H
                have A62 := Aside0.mk A620
                clear A620
                have HC63 := Aside0.mk H
                clear H
                go_upto_region 12 with (first | ((with_reducible refine gate_callee (f := 10) rfl ?_); refine goesL_ (some 71) rfl rfl Try.func10 (by kernel_rfl) rfl #[.slice A0 l0.length c0] rfl (by (try simp only [List.map_toArray, List.map_cons, List.map_nil]); first | done | rfl | (simp only [List.length_drop, List.length_take]; rfl)) ?_; (with_reducible refine (rampartlaw04_own.calls _ _ l0 t436 _ ?side1 ?side2 A59.out).mono ?_); (case side1 => repeat (first | exact (Kd.C_below HR0.out HB.out) | (with_reducible refine Kd.C_alloc ?_ _) | (with_reducible refine Kd.C_drewN ?_ _) | (with_reducible refine Kd.C_drew ?_))); (case side2 => exact HC0.out); rintro e w64 ⟨v437, rfl, ho0, hb⟩; refine ⟨_, rfl, ?_⟩; have n0_ := Aside0.mk (Kd.R_lower ho0 (below_size (by repeat (first | (with_reducible first | exact HB.out | apply below_alloc | apply pw_below_drewN | apply below_drew1) | exact HB.out)))); have n1_ := Aside0.mk (below_step (by repeat (first | (with_reducible first | exact HB.out | apply below_alloc | apply pw_below_drewN | apply below_drew1) | exact HB.out)) hb); clear HB; have HO438 := n0_; have HB := n1_; clear n0_ n1_; (try clear hb); (try clear hb2); (try clear hk); (try clear hi); (try clear ho0)) | ((with_reducible refine gate_callee (f := 10) rfl ?_); refine goesL_ (some 73) rfl rfl Try.func10 (by kernel_rfl) rfl #[.slice A1 l1.length c1] rfl (by (try simp only [List.map_toArray, List.map_cons, List.map_nil]); first | done | rfl | (simp only [List.length_drop, List.length_take]; rfl)) ?_; (with_reducible refine (rampartlaw04_own.calls _ _ l1 t439 _ ?side1 ?side2 A60.out).mono ?_); (case side1 => repeat (first | exact (Kd.C_below HR1.out HB.out) | (with_reducible refine Kd.C_alloc ?_ _) | (with_reducible refine Kd.C_drewN ?_ _) | (with_reducible refine Kd.C_drew ?_))); (case side2 => exact HC1.out); rintro e w65 ⟨v440, rfl, ho0, hb⟩; refine ⟨_, rfl, ?_⟩; have n0_ := Aside0.mk (Kd.R_elder' (by (with_reducible repeat (first | apply Kd.R_alloc | apply Kd.R_drewN | apply Kd.R_drew)); exact HO438.out) (Kd.R_base ho0) hb); have n1_ := Aside0.mk (Kd.R_lower (Kd.R_new' ho0 (Kd.R_lt (by (with_reducible repeat (first | apply Kd.R_alloc | apply Kd.R_drewN | apply Kd.R_drew)); exact HO438.out))) (below_size (by repeat (first | (with_reducible first | exact HB.out | apply below_alloc | apply pw_below_drewN | apply below_drew1) | exact HB.out)))); have n2_ := Aside0.mk (below_step (by repeat (first | (with_reducible first | exact HB.out | apply below_alloc | apply pw_below_drewN | apply below_drew1) | exact HB.out)) hb); clear HO438; clear HB; have HO438 := n0_; have HO441 := n1_; have HB := n2_; clear n0_ n1_ n2_; (try clear hb); (try clear hb2); (try clear hk); (try clear hi); (try clear ho0); obtain ⟨Ao66, co66, eo66⟩ := Kd.R_slice HO438.out; subst eo66; obtain ⟨Ao67, co67, eo67⟩ := Kd.R_slice HO441.out; subst eo67) | ((with_reducible refine gate_callee (f := 19) rfl ?_); refine goesL_ (some 74) rfl rfl Try.func19 (by kernel_rfl) rfl #[.slice Ao66 t436.length co66, .slice Ao67 t439.length co67] rfl (by (try simp only [List.map_toArray, List.map_cons, List.map_nil]); first | done | rfl | (simp only [List.length_drop, List.length_take]; rfl)) ?_; (with_reducible refine (keys_Union.calls kj12 _ _ t436 _ _ t439 t442 t443 _ ?side1 ?side2 ?side3 ?side4 A61.out).mono ?_); (case side1 => repeat (first | exact (Kd.R_reads' HO438.out).2.2 | (with_reducible refine Kd.C_alloc ?_ _) | (with_reducible refine Kd.C_drewN ?_ _) | (with_reducible refine Kd.C_drew ?_))); (case side2 => exact (Kd.R_reads' HO438.out).2.1); (case side3 => repeat (first | exact (Kd.R_reads' HO441.out).2.2 | (with_reducible refine Kd.C_alloc ?_ _) | (with_reducible refine Kd.C_drewN ?_ _) | (with_reducible refine Kd.C_drew ?_))); (case side4 => exact (Kd.R_reads' HO441.out).2.1); rintro e w68 ⟨v444, rfl, ho0, hb⟩; refine ⟨_, rfl, ?_⟩; have n0_ := Aside0.mk (Kd.R_elder' (by (with_reducible repeat (first | apply Kd.R_alloc | apply Kd.R_drewN | apply Kd.R_drew)); exact HO438.out) (Kd.R_base ho0) hb); have n1_ := Aside0.mk (Kd.R_elder' (by (with_reducible repeat (first | apply Kd.R_alloc | apply Kd.R_drewN | apply Kd.R_drew)); exact HO441.out) (Kd.R_base ho0) hb); have n2_ := Aside0.mk (Kd.R_lower (Kd.R_new' (Kd.R_new' ho0 (Kd.R_lt (by (with_reducible repeat (first | apply Kd.R_alloc | apply Kd.R_drewN | apply Kd.R_drew)); exact HO438.out))) (Kd.R_lt (by (with_reducible repeat (first | apply Kd.R_alloc | apply Kd.R_drewN | apply Kd.R_drew)); exact HO441.out))) (below_size (by repeat (first | (with_reducible first | exact HB.out | apply below_alloc | apply pw_below_drewN | apply below_drew1) | exact HB.out)))); have n3_ := Aside0.mk (below_step (by repeat (first | (with_reducible first | exact HB.out | apply below_alloc | apply pw_below_drewN | apply below_drew1) | exact HB.out)) hb); clear HO438; clear HO441; clear HB; have HO438 := n0_; have HO441 := n1_; have HO445 := n2_; have HB := n3_; clear n0_ n1_ n2_ n3_; (try clear hb); (try clear hb2); (try clear hk); (try clear hi); (try clear ho0)) | ((with_reducible refine gate_callee (f := 20) rfl ?_); refine goesL_ (some 80) rfl rfl Try.func20 (by kernel_rfl) rfl #[.slice A0 l0.length c0, .slice A1 l1.length c1] rfl (by (try simp only [List.map_toArray, List.map_cons, List.map_nil]); first | done | rfl | (simp only [List.length_drop, List.length_take]; rfl)) ?_; (with_reducible refine (rampartref04_Union.calls kj12 _ _ l0 _ _ l1 t446 t447 _ ?side1 ?side2 ?side3 ?side4 A62.out).mono ?_); (case side1 => repeat (first | exact (Kd.C_below HR0.out HB.out) | (with_reducible refine Kd.C_alloc ?_ _) | (with_reducible refine Kd.C_drewN ?_ _) | (with_reducible refine Kd.C_drew ?_))); (case side2 => exact HC0.out); (case side3 => repeat (first | exact (Kd.C_below HR1.out HB.out) | (with_reducible refine Kd.C_alloc ?_ _) | (with_reducible refine Kd.C_drewN ?_ _) | (with_reducible refine Kd.C_drew ?_))); (case side4 => exact HC1.out); rintro e w69 ⟨v448, rfl, ho0, hb⟩; refine ⟨_, rfl, ?_⟩; have n0_ := Aside0.mk (Kd.R_elder' (by (with_reducible repeat (first | apply Kd.R_alloc | apply Kd.R_drewN | apply Kd.R_drew)); exact HO438.out) (Kd.R_base ho0) hb); have n1_ := Aside0.mk (Kd.R_elder' (by (with_reducible repeat (first | apply Kd.R_alloc | apply Kd.R_drewN | apply Kd.R_drew)); exact HO441.out) (Kd.R_base ho0) hb); have n2_ := Aside0.mk (Kd.R_elder' (by (with_reducible repeat (first | apply Kd.R_alloc | apply Kd.R_drewN | apply Kd.R_drew)); exact HO445.out) (Kd.R_base ho0) hb); have n3_ := Aside0.mk (Kd.R_lower (Kd.R_new' (Kd.R_new' (Kd.R_new' ho0 (Kd.R_lt (by (with_reducible repeat (first | apply Kd.R_alloc | apply Kd.R_drewN | apply Kd.R_drew)); exact HO438.out))) (Kd.R_lt (by (with_reducible repeat (first | apply Kd.R_alloc | apply Kd.R_drewN | apply Kd.R_drew)); exact HO441.out))) (Kd.R_lt (by (with_reducible repeat (first | apply Kd.R_alloc | apply Kd.R_drewN | apply Kd.R_drew)); exact HO445.out))) (below_size (by repeat (first | (with_reducible first | exact HB.out | apply below_alloc | apply pw_below_drewN | apply below_drew1) | exact HB.out)))); have n4_ := Aside0.mk (below_step (by repeat (first | (with_reducible first | exact HB.out | apply below_alloc | apply pw_below_drewN | apply below_drew1) | exact HB.out)) hb); clear HO438; clear HO441; clear HO445; clear HB; have HO438 := n0_; have HO441 := n1_; have HO445 := n2_; have HO449 := n3_; have HB := n4_; clear n0_ n1_ n2_ n3_ n4_; (try clear hb); (try clear hb2); (try clear hk); (try clear hi); (try clear ho0)))
                (try simp only [Act.put, List.setIfInBounds_toArray, List.set_cons_zero, List.set_cons_succ])
                go_cut [91] (fun v91 wc => ∃ (kq : Nat) (x91_62 : Bool), v91 = .bool x91_62 ∧ Aside0 (rampartlaw04_KeysAsks.j2 kq l0 l1 x91_62 = some r) ∧ Aside0 (kq ≤ kj12) ∧ Aside0 (Below w.heap.size w wc))
                case first =>
                  have H := HC63.out
                  clear HC63
                  by_cases c70 : t443 = t447
                  · rw [if_pos c70] at H
                    have c70b0 : (t443 == t447) = true := beq_iff_eq.mpr c70
                    have c70b1 : (t443 != t447) = false := bne_eq_false_iff_eq.mpr c70
                    clear c70
                    (first | rw [c70b0] | (simp only [i64_w, i32_w]; rw [c70b0]) | skip)
                    replace H := Option.bind_eq_some_iff.mp H
                    obtain ⟨t450, A710, H⟩ := H
                    replace H : (rampartlaw04_KeysAsks.j2 kj12 l0 l1 (!t450)) = some r := H
                    have A71 := Aside0.mk A710
                    clear A710
                    have H' := Aside0.mk H
                    clear H
                    obtain ⟨Ao72, co72, eo72⟩ := Kd.R_slice HO445.out
                    subst eo72
                    obtain ⟨Ao73, co73, eo73⟩ := Kd.R_slice HO449.out
                    subst eo73
                    go_wp2_with (first | (go_at_call 12; (with_reducible refine (rampartlaw04_same.calls kj12 _ _ t442 _ _ t446 t450 _ ?side1 ?side2 ?side3 ?side4 A71.out).mono ?_); (case side1 => repeat (first | exact (Kd.R_reads' HO445.out).2.2 | (with_reducible refine Kd.C_alloc ?_ _) | (with_reducible refine Kd.C_drewN ?_ _) | (with_reducible refine Kd.C_drew ?_))); (case side2 => exact (Kd.R_reads' HO445.out).2.1); (case side3 => repeat (first | exact (Kd.R_reads' HO449.out).2.2 | (with_reducible refine Kd.C_alloc ?_ _) | (with_reducible refine Kd.C_drewN ?_ _) | (with_reducible refine Kd.C_drew ?_))); (case side4 => exact (Kd.R_reads' HO449.out).2.1); rintro e w' ⟨rfl, ⟨nd, rfl⟩⟩))
                    go_meet
                    case rel => exact ⟨_, (!t450), (by first | rfl | (simp; done) | (simp [*]; done)), H', ⟨by have := HJ5.out; have := HJ12.out; first | omega | exact Nat.le_refl _⟩, ⟨by repeat (first | (with_reducible first | exact HB.out | apply below_alloc | apply pw_below_drewN | apply below_drew1) | exact HB.out)⟩⟩
                  · rw [if_neg c70] at H
                    have c70b0 : (t443 == t447) = false := beq_eq_false_iff_ne.mpr c70
                    have c70b1 : (t443 != t447) = true := bne_iff_ne.mpr c70
                    (first | rw [c70b0] | (simp only [i64_w, i32_w]; rw [c70b0]) | skip)
                    have H' := Aside0.mk H
                    clear H
                    go_wp2
                    go_meet
                    case rel => exact ⟨_, (true), (by first | rfl | (simp; done) | (simp [*]; done)), H', ⟨by have := HJ5.out; have := HJ12.out; first | omega | exact Nat.le_refl _⟩, ⟨by repeat (first | (with_reducible first | exact HB.out | apply below_alloc | apply pw_below_drewN | apply below_drew1) | exact HB.out)⟩⟩
                case rest =>
                  clear HC63
                  try clear c1
                  try clear c2
                  try clear p2
                  try clear c3
                  try clear c5
                  try clear c7
                  try clear c8
                  try clear c8b0
                  try clear c8b1
                  try clear c9
                  try clear c10
                  try clear c11
                  try clear c18
                  try clear c18b0
                  try clear c18b1
                  try clear c19
                  try clear c20
                  try clear c24
                  try clear c24b0
                  try clear c24b1
                  try clear c24b2
                  try clear c34
                  try clear c34b0
                  try clear c34b1
                  try clear c34b2
                  try clear c58
                  try clear c70
                  try clear c70b0
                  try clear c70b1
                  try clear p2
                  obtain ⟨kq, x91_62, rfl, HA, HJ62, HB⟩ := hcut
                  cases kq with
                  | zero => exact absurd HA.out (by simp [rampartlaw04_KeysAsks.j2])
                  | succ kj62 =>
                    have H := HA.out
                    clear HA
                    simp only [rampartlaw04_KeysAsks.j2] at H
                    by_cases c74 : x91_62 = true
                    · subst c74
                      have H1 : (some false) = some r := by rw [if_pos rfl] at H; exact H
                      clear H
                      have H := H1
                      clear H1
                      obtain rfl := Option.some.inj H
                      go_wp2
                      go_ret
                      exact ⟨by first | rfl | (simp [errW_none, errW_some] <;> rfl) | (simp [*, errW_none, errW_some] <;> rfl), by repeat (first | (with_reducible first | exact HB.out | apply below_alloc | apply pw_below_drewN | apply below_drew1) | exact HB.out)⟩
                    · replace c74 := Bool.eq_false_iff.mpr c74
                      subst c74
                      have H1 : ((rampartlaw04_own.f l0).bind fun t451 => ((rampartlaw04_own.f l1).bind fun t454 => ((keys_Common.f kj62 t451 t454).bind fun bt457 => ((rampartref04_Common.f kj62 l0 l1).bind fun bt461 => (if bt457.2 = bt461.2 then ((rampartlaw04_same.f kj62 bt457.1 bt461.1).bind fun t465 => (rampartlaw04_KeysAsks.j3 kj62 l0 l1 (!t465))) else (rampartlaw04_KeysAsks.j3 kj62 l0 l1 true)))))) = some r := by rw [if_neg (show ¬ (false = true) by decide)] at H; exact H
                      clear H
                      have H := H1
                      clear H1
                      replace H := Option.bind_eq_some_iff.mp H
                      obtain ⟨t451, A750, H⟩ := H
                      replace H : ((rampartlaw04_own.f l1).bind fun t454 => ((keys_Common.f kj62 t451 t454).bind fun bt457 => ((rampartref04_Common.f kj62 l0 l1).bind fun bt461 => (if bt457.2 = bt461.2 then ((rampartlaw04_same.f kj62 bt457.1 bt461.1).bind fun t465 => (rampartlaw04_KeysAsks.j3 kj62 l0 l1 (!t465))) else (rampartlaw04_KeysAsks.j3 kj62 l0 l1 true))))) = some r := H
                      have A75 := Aside0.mk A750
                      clear A750
                      replace H := Option.bind_eq_some_iff.mp H
                      obtain ⟨t454, A760, H⟩ := H
                      replace H : ((keys_Common.f kj62 t451 t454).bind fun bt457 => ((rampartref04_Common.f kj62 l0 l1).bind fun bt461 => (if bt457.2 = bt461.2 then ((rampartlaw04_same.f kj62 bt457.1 bt461.1).bind fun t465 => (rampartlaw04_KeysAsks.j3 kj62 l0 l1 (!t465))) else (rampartlaw04_KeysAsks.j3 kj62 l0 l1 true)))) = some r := H
                      have A76 := Aside0.mk A760
                      clear A760
                      replace H := Option.bind_eq_some_iff.mp H
                      obtain ⟨⟨t457, t458⟩, A770, H⟩ := H
                      replace H : ((rampartref04_Common.f kj62 l0 l1).bind fun bt461 => (if t458 = bt461.2 then ((rampartlaw04_same.f kj62 t457 bt461.1).bind fun t465 => (rampartlaw04_KeysAsks.j3 kj62 l0 l1 (!t465))) else (rampartlaw04_KeysAsks.j3 kj62 l0 l1 true))) = some r := H
                      have A77 := Aside0.mk A770
                      clear A770
                      replace H := Option.bind_eq_some_iff.mp H
                      obtain ⟨⟨t461, t462⟩, A780, H⟩ := H
                      replace H : (if t458 = t462 then ((rampartlaw04_same.f kj62 t457 t461).bind fun t465 => (rampartlaw04_KeysAsks.j3 kj62 l0 l1 (!t465))) else (rampartlaw04_KeysAsks.j3 kj62 l0 l1 true)) = some r := H
                      have A78 := Aside0.mk A780
                      clear A780
                      have HC79 := Aside0.mk H
                      clear H
                      go_upto_region 16 with (first | ((with_reducible refine gate_callee (f := 10) rfl ?_); refine goesL_ (some 94) rfl rfl Try.func10 (by kernel_rfl) rfl #[.slice A0 l0.length c0] rfl (by (try simp only [List.map_toArray, List.map_cons, List.map_nil]); first | done | rfl | (simp only [List.length_drop, List.length_take]; rfl)) ?_; (with_reducible refine (rampartlaw04_own.calls _ _ l0 t451 _ ?side1 ?side2 A75.out).mono ?_); (case side1 => repeat (first | exact (Kd.C_below HR0.out HB.out) | (with_reducible refine Kd.C_alloc ?_ _) | (with_reducible refine Kd.C_drewN ?_ _) | (with_reducible refine Kd.C_drew ?_))); (case side2 => exact HC0.out); rintro e w80 ⟨v452, rfl, ho0, hb⟩; refine ⟨_, rfl, ?_⟩; have n0_ := Aside0.mk (Kd.R_lower ho0 (below_size (by repeat (first | (with_reducible first | exact HB.out | apply below_alloc | apply pw_below_drewN | apply below_drew1) | exact HB.out)))); have n1_ := Aside0.mk (below_step (by repeat (first | (with_reducible first | exact HB.out | apply below_alloc | apply pw_below_drewN | apply below_drew1) | exact HB.out)) hb); clear HB; have HO453 := n0_; have HB := n1_; clear n0_ n1_; (try clear hb); (try clear hb2); (try clear hk); (try clear hi); (try clear ho0)) | ((with_reducible refine gate_callee (f := 10) rfl ?_); refine goesL_ (some 96) rfl rfl Try.func10 (by kernel_rfl) rfl #[.slice A1 l1.length c1] rfl (by (try simp only [List.map_toArray, List.map_cons, List.map_nil]); first | done | rfl | (simp only [List.length_drop, List.length_take]; rfl)) ?_; (with_reducible refine (rampartlaw04_own.calls _ _ l1 t454 _ ?side1 ?side2 A76.out).mono ?_); (case side1 => repeat (first | exact (Kd.C_below HR1.out HB.out) | (with_reducible refine Kd.C_alloc ?_ _) | (with_reducible refine Kd.C_drewN ?_ _) | (with_reducible refine Kd.C_drew ?_))); (case side2 => exact HC1.out); rintro e w81 ⟨v455, rfl, ho0, hb⟩; refine ⟨_, rfl, ?_⟩; have n0_ := Aside0.mk (Kd.R_elder' (by (with_reducible repeat (first | apply Kd.R_alloc | apply Kd.R_drewN | apply Kd.R_drew)); exact HO453.out) (Kd.R_base ho0) hb); have n1_ := Aside0.mk (Kd.R_lower (Kd.R_new' ho0 (Kd.R_lt (by (with_reducible repeat (first | apply Kd.R_alloc | apply Kd.R_drewN | apply Kd.R_drew)); exact HO453.out))) (below_size (by repeat (first | (with_reducible first | exact HB.out | apply below_alloc | apply pw_below_drewN | apply below_drew1) | exact HB.out)))); have n2_ := Aside0.mk (below_step (by repeat (first | (with_reducible first | exact HB.out | apply below_alloc | apply pw_below_drewN | apply below_drew1) | exact HB.out)) hb); clear HO453; clear HB; have HO453 := n0_; have HO456 := n1_; have HB := n2_; clear n0_ n1_ n2_; (try clear hb); (try clear hb2); (try clear hk); (try clear hi); (try clear ho0); obtain ⟨Ao82, co82, eo82⟩ := Kd.R_slice HO453.out; subst eo82; obtain ⟨Ao83, co83, eo83⟩ := Kd.R_slice HO456.out; subst eo83) | ((with_reducible refine gate_callee (f := 21) rfl ?_); refine goesL_ (some 97) rfl rfl Try.func21 (by kernel_rfl) rfl #[.slice Ao82 t451.length co82, .slice Ao83 t454.length co83] rfl (by (try simp only [List.map_toArray, List.map_cons, List.map_nil]); first | done | rfl | (simp only [List.length_drop, List.length_take]; rfl)) ?_; (with_reducible refine (keys_Common.calls kj62 _ _ t451 _ _ t454 t457 t458 _ ?side1 ?side2 ?side3 ?side4 A77.out).mono ?_); (case side1 => repeat (first | exact (Kd.R_reads' HO453.out).2.2 | (with_reducible refine Kd.C_alloc ?_ _) | (with_reducible refine Kd.C_drewN ?_ _) | (with_reducible refine Kd.C_drew ?_))); (case side2 => exact (Kd.R_reads' HO453.out).2.1); (case side3 => repeat (first | exact (Kd.R_reads' HO456.out).2.2 | (with_reducible refine Kd.C_alloc ?_ _) | (with_reducible refine Kd.C_drewN ?_ _) | (with_reducible refine Kd.C_drew ?_))); (case side4 => exact (Kd.R_reads' HO456.out).2.1); rintro e w84 ⟨v459, rfl, ho0, hb⟩; refine ⟨_, rfl, ?_⟩; have n0_ := Aside0.mk (Kd.R_elder' (by (with_reducible repeat (first | apply Kd.R_alloc | apply Kd.R_drewN | apply Kd.R_drew)); exact HO453.out) (Kd.R_base ho0) hb); have n1_ := Aside0.mk (Kd.R_elder' (by (with_reducible repeat (first | apply Kd.R_alloc | apply Kd.R_drewN | apply Kd.R_drew)); exact HO456.out) (Kd.R_base ho0) hb); have n2_ := Aside0.mk (Kd.R_lower (Kd.R_new' (Kd.R_new' ho0 (Kd.R_lt (by (with_reducible repeat (first | apply Kd.R_alloc | apply Kd.R_drewN | apply Kd.R_drew)); exact HO453.out))) (Kd.R_lt (by (with_reducible repeat (first | apply Kd.R_alloc | apply Kd.R_drewN | apply Kd.R_drew)); exact HO456.out))) (below_size (by repeat (first | (with_reducible first | exact HB.out | apply below_alloc | apply pw_below_drewN | apply below_drew1) | exact HB.out)))); have n3_ := Aside0.mk (below_step (by repeat (first | (with_reducible first | exact HB.out | apply below_alloc | apply pw_below_drewN | apply below_drew1) | exact HB.out)) hb); clear HO453; clear HO456; clear HB; have HO453 := n0_; have HO456 := n1_; have HO460 := n2_; have HB := n3_; clear n0_ n1_ n2_ n3_; (try clear hb); (try clear hb2); (try clear hk); (try clear hi); (try clear ho0)) | ((with_reducible refine gate_callee (f := 22) rfl ?_); refine goesL_ (some 103) rfl rfl Try.func22 (by kernel_rfl) rfl #[.slice A0 l0.length c0, .slice A1 l1.length c1] rfl (by (try simp only [List.map_toArray, List.map_cons, List.map_nil]); first | done | rfl | (simp only [List.length_drop, List.length_take]; rfl)) ?_; (with_reducible refine (rampartref04_Common.calls kj62 _ _ l0 _ _ l1 t461 t462 _ ?side1 ?side2 ?side3 ?side4 A78.out).mono ?_); (case side1 => repeat (first | exact (Kd.C_below HR0.out HB.out) | (with_reducible refine Kd.C_alloc ?_ _) | (with_reducible refine Kd.C_drewN ?_ _) | (with_reducible refine Kd.C_drew ?_))); (case side2 => exact HC0.out); (case side3 => repeat (first | exact (Kd.C_below HR1.out HB.out) | (with_reducible refine Kd.C_alloc ?_ _) | (with_reducible refine Kd.C_drewN ?_ _) | (with_reducible refine Kd.C_drew ?_))); (case side4 => exact HC1.out); rintro e w85 ⟨v463, rfl, ho0, hb⟩; refine ⟨_, rfl, ?_⟩; have n0_ := Aside0.mk (Kd.R_elder' (by (with_reducible repeat (first | apply Kd.R_alloc | apply Kd.R_drewN | apply Kd.R_drew)); exact HO453.out) (Kd.R_base ho0) hb); have n1_ := Aside0.mk (Kd.R_elder' (by (with_reducible repeat (first | apply Kd.R_alloc | apply Kd.R_drewN | apply Kd.R_drew)); exact HO456.out) (Kd.R_base ho0) hb); have n2_ := Aside0.mk (Kd.R_elder' (by (with_reducible repeat (first | apply Kd.R_alloc | apply Kd.R_drewN | apply Kd.R_drew)); exact HO460.out) (Kd.R_base ho0) hb); have n3_ := Aside0.mk (Kd.R_lower (Kd.R_new' (Kd.R_new' (Kd.R_new' ho0 (Kd.R_lt (by (with_reducible repeat (first | apply Kd.R_alloc | apply Kd.R_drewN | apply Kd.R_drew)); exact HO453.out))) (Kd.R_lt (by (with_reducible repeat (first | apply Kd.R_alloc | apply Kd.R_drewN | apply Kd.R_drew)); exact HO456.out))) (Kd.R_lt (by (with_reducible repeat (first | apply Kd.R_alloc | apply Kd.R_drewN | apply Kd.R_drew)); exact HO460.out))) (below_size (by repeat (first | (with_reducible first | exact HB.out | apply below_alloc | apply pw_below_drewN | apply below_drew1) | exact HB.out)))); have n4_ := Aside0.mk (below_step (by repeat (first | (with_reducible first | exact HB.out | apply below_alloc | apply pw_below_drewN | apply below_drew1) | exact HB.out)) hb); clear HO453; clear HO456; clear HO460; clear HB; have HO453 := n0_; have HO456 := n1_; have HO460 := n2_; have HO464 := n3_; have HB := n4_; clear n0_ n1_ n2_ n3_ n4_; (try clear hb); (try clear hb2); (try clear hk); (try clear hi); (try clear ho0)))
                      (try simp only [Act.put, List.setIfInBounds_toArray, List.set_cons_zero, List.set_cons_succ])
                      go_cut [114] (fun v114 wc => ∃ (kq : Nat) (x114_78 : Bool), v114 = .bool x114_78 ∧ Aside0 (rampartlaw04_KeysAsks.j3 kq l0 l1 x114_78 = some r) ∧ Aside0 (kq ≤ kj62) ∧ Aside0 (Below w.heap.size w wc))
                      case first =>
                        have H := HC79.out
                        clear HC79
                        by_cases c86 : t458 = t462
                        · rw [if_pos c86] at H
                          have c86b0 : (t458 == t462) = true := beq_iff_eq.mpr c86
                          have c86b1 : (t458 != t462) = false := bne_eq_false_iff_eq.mpr c86
                          clear c86
                          (first | rw [c86b0] | (simp only [i64_w, i32_w]; rw [c86b0]) | skip)
                          replace H := Option.bind_eq_some_iff.mp H
                          obtain ⟨t465, A870, H⟩ := H
                          replace H : (rampartlaw04_KeysAsks.j3 kj62 l0 l1 (!t465)) = some r := H
                          have A87 := Aside0.mk A870
                          clear A870
                          have H' := Aside0.mk H
                          clear H
                          obtain ⟨Ao88, co88, eo88⟩ := Kd.R_slice HO460.out
                          subst eo88
                          obtain ⟨Ao89, co89, eo89⟩ := Kd.R_slice HO464.out
                          subst eo89
                          go_wp2_with (first | (go_at_call 12; (with_reducible refine (rampartlaw04_same.calls kj62 _ _ t457 _ _ t461 t465 _ ?side1 ?side2 ?side3 ?side4 A87.out).mono ?_); (case side1 => repeat (first | exact (Kd.R_reads' HO460.out).2.2 | (with_reducible refine Kd.C_alloc ?_ _) | (with_reducible refine Kd.C_drewN ?_ _) | (with_reducible refine Kd.C_drew ?_))); (case side2 => exact (Kd.R_reads' HO460.out).2.1); (case side3 => repeat (first | exact (Kd.R_reads' HO464.out).2.2 | (with_reducible refine Kd.C_alloc ?_ _) | (with_reducible refine Kd.C_drewN ?_ _) | (with_reducible refine Kd.C_drew ?_))); (case side4 => exact (Kd.R_reads' HO464.out).2.1); rintro e w' ⟨rfl, ⟨nd, rfl⟩⟩))
                          go_meet
                          case rel => exact ⟨_, (!t465), (by first | rfl | (simp; done) | (simp [*]; done)), H', ⟨by have := HJ5.out; have := HJ12.out; have := HJ62.out; first | omega | exact Nat.le_refl _⟩, ⟨by repeat (first | (with_reducible first | exact HB.out | apply below_alloc | apply pw_below_drewN | apply below_drew1) | exact HB.out)⟩⟩
                        · rw [if_neg c86] at H
                          have c86b0 : (t458 == t462) = false := beq_eq_false_iff_ne.mpr c86
                          have c86b1 : (t458 != t462) = true := bne_iff_ne.mpr c86
                          (first | rw [c86b0] | (simp only [i64_w, i32_w]; rw [c86b0]) | skip)
                          have H' := Aside0.mk H
                          clear H
                          go_wp2
                          go_meet
                          case rel => exact ⟨_, (true), (by first | rfl | (simp; done) | (simp [*]; done)), H', ⟨by have := HJ5.out; have := HJ12.out; have := HJ62.out; first | omega | exact Nat.le_refl _⟩, ⟨by repeat (first | (with_reducible first | exact HB.out | apply below_alloc | apply pw_below_drewN | apply below_drew1) | exact HB.out)⟩⟩
                      case rest =>
                        clear HC79
                        try clear c1
                        try clear c2
                        try clear p2
                        try clear c3
                        try clear c5
                        try clear c7
                        try clear c8
                        try clear c8b0
                        try clear c8b1
                        try clear c9
                        try clear c10
                        try clear c11
                        try clear c18
                        try clear c18b0
                        try clear c18b1
                        try clear c19
                        try clear c20
                        try clear c21
                        try clear c22
                        try clear c24
                        try clear c24b0
                        try clear c24b1
                        try clear c24b2
                        try clear c34
                        try clear c34b0
                        try clear c34b1
                        try clear c34b2
                        try clear c58
                        try clear c70
                        try clear c70b0
                        try clear c70b1
                        try clear c74
                        try clear c86
                        try clear c86b0
                        try clear c86b1
                        try clear p2
                        obtain ⟨kq, x114_78, rfl, HA, HJ78, HB⟩ := hcut
                        cases kq with
                        | zero => exact absurd HA.out (by simp [rampartlaw04_KeysAsks.j3])
                        | succ kj78 =>
                          have H := HA.out
                          clear HA
                          simp only [rampartlaw04_KeysAsks.j3] at H
                          by_cases c90 : x114_78 = true
                          · subst c90
                            have H1 : (some false) = some r := by rw [if_pos rfl] at H; exact H
                            clear H
                            have H := H1
                            clear H1
                            obtain rfl := Option.some.inj H
                            go_wp2
                            go_ret
                            exact ⟨by first | rfl | (simp [errW_none, errW_some] <;> rfl) | (simp [*, errW_none, errW_some] <;> rfl), by repeat (first | (with_reducible first | exact HB.out | apply below_alloc | apply pw_below_drewN | apply below_drew1) | exact HB.out)⟩
                          · replace c90 := Bool.eq_false_iff.mpr c90
                            subst c90
                            have H1 : ((rampartlaw04_own.f l0).bind fun t466 => ((rampartlaw04_own.f l1).bind fun t469 => ((keys_Minus.f kj78 t466 t469).bind fun bt472 => ((rampartref04_Minus.f kj78 l0 l1).bind fun bt476 => (if bt472.2 = bt476.2 then ((rampartlaw04_same.f kj78 bt472.1 bt476.1).bind fun t480 => (some t480)) else (some false)))))) = some r := by rw [if_neg (show ¬ (false = true) by decide)] at H; exact H
                            clear H
                            have H := H1
                            clear H1
                            replace H := Option.bind_eq_some_iff.mp H
                            obtain ⟨t466, A910, H⟩ := H
                            replace H : ((rampartlaw04_own.f l1).bind fun t469 => ((keys_Minus.f kj78 t466 t469).bind fun bt472 => ((rampartref04_Minus.f kj78 l0 l1).bind fun bt476 => (if bt472.2 = bt476.2 then ((rampartlaw04_same.f kj78 bt472.1 bt476.1).bind fun t480 => (some t480)) else (some false))))) = some r := H
                            have A91 := Aside0.mk A910
                            clear A910
                            replace H := Option.bind_eq_some_iff.mp H
                            obtain ⟨t469, A920, H⟩ := H
                            replace H : ((keys_Minus.f kj78 t466 t469).bind fun bt472 => ((rampartref04_Minus.f kj78 l0 l1).bind fun bt476 => (if bt472.2 = bt476.2 then ((rampartlaw04_same.f kj78 bt472.1 bt476.1).bind fun t480 => (some t480)) else (some false)))) = some r := H
                            have A92 := Aside0.mk A920
                            clear A920
                            replace H := Option.bind_eq_some_iff.mp H
                            obtain ⟨⟨t472, t473⟩, A930, H⟩ := H
                            replace H : ((rampartref04_Minus.f kj78 l0 l1).bind fun bt476 => (if t473 = bt476.2 then ((rampartlaw04_same.f kj78 t472 bt476.1).bind fun t480 => (some t480)) else (some false))) = some r := H
                            have A93 := Aside0.mk A930
                            clear A930
                            replace H := Option.bind_eq_some_iff.mp H
                            obtain ⟨⟨t476, t477⟩, A940, H⟩ := H
                            replace H : (if t473 = t477 then ((rampartlaw04_same.f kj78 t472 t476).bind fun t480 => (some t480)) else (some false)) = some r := H
                            have A94 := Aside0.mk A940
                            clear A940
                            by_cases c95 : t473 = t477
                            · rw [if_pos c95] at H
                              have c95b0 : (t473 == t477) = true := beq_iff_eq.mpr c95
                              have c95b1 : (t473 != t477) = false := bne_eq_false_iff_eq.mpr c95
                              clear c95
                              replace H := Option.bind_eq_some_iff.mp H
                              obtain ⟨t480, A960, H⟩ := H
                              replace H : (some t480) = some r := H
                              have A96 := Aside0.mk A960
                              clear A960
                              obtain rfl := Option.some.inj H
                              go_wp2_with (first | ((fail_if_success have chk_ := uq18_); (with_reducible refine gate_callee (f := 10) rfl ?_); refine goesL_ (some 117) rfl rfl Try.func10 (by kernel_rfl) rfl #[.slice A0 l0.length c0] rfl (by (try simp only [List.map_toArray, List.map_cons, List.map_nil]); first | done | rfl | (simp only [List.length_drop, List.length_take]; rfl)) ?_; (with_reducible refine (rampartlaw04_own.calls _ _ l0 t466 _ ?side1 ?side2 A91.out).mono ?_); (case side1 => repeat (first | exact (Kd.C_below HR0.out HB.out) | (with_reducible refine Kd.C_alloc ?_ _) | (with_reducible refine Kd.C_drewN ?_ _) | (with_reducible refine Kd.C_drew ?_))); (case side2 => exact HC0.out); rintro e w97 ⟨v467, rfl, ho0, hb⟩; refine ⟨_, rfl, ?_⟩; have n0_ := Aside0.mk (Kd.R_lower ho0 (below_size (by repeat (first | (with_reducible first | exact HB.out | apply below_alloc | apply pw_below_drewN | apply below_drew1) | exact HB.out)))); have n1_ := Aside0.mk (below_step (by repeat (first | (with_reducible first | exact HB.out | apply below_alloc | apply pw_below_drewN | apply below_drew1) | exact HB.out)) hb); clear HB; have HO468 := n0_; have HB := n1_; clear n0_ n1_; (try clear hb); (try clear hb2); (try clear hk); (try clear hi); (try clear ho0); have uq18_ := True.intro) | ((fail_if_success have chk_ := uq19_); (with_reducible refine gate_callee (f := 10) rfl ?_); refine goesL_ (some 119) rfl rfl Try.func10 (by kernel_rfl) rfl #[.slice A1 l1.length c1] rfl (by (try simp only [List.map_toArray, List.map_cons, List.map_nil]); first | done | rfl | (simp only [List.length_drop, List.length_take]; rfl)) ?_; (with_reducible refine (rampartlaw04_own.calls _ _ l1 t469 _ ?side1 ?side2 A92.out).mono ?_); (case side1 => repeat (first | exact (Kd.C_below HR1.out HB.out) | (with_reducible refine Kd.C_alloc ?_ _) | (with_reducible refine Kd.C_drewN ?_ _) | (with_reducible refine Kd.C_drew ?_))); (case side2 => exact HC1.out); rintro e w98 ⟨v470, rfl, ho0, hb⟩; refine ⟨_, rfl, ?_⟩; have n0_ := Aside0.mk (Kd.R_elder' (by (with_reducible repeat (first | apply Kd.R_alloc | apply Kd.R_drewN | apply Kd.R_drew)); exact HO468.out) (Kd.R_base ho0) hb); have n1_ := Aside0.mk (Kd.R_lower (Kd.R_new' ho0 (Kd.R_lt (by (with_reducible repeat (first | apply Kd.R_alloc | apply Kd.R_drewN | apply Kd.R_drew)); exact HO468.out))) (below_size (by repeat (first | (with_reducible first | exact HB.out | apply below_alloc | apply pw_below_drewN | apply below_drew1) | exact HB.out)))); have n2_ := Aside0.mk (below_step (by repeat (first | (with_reducible first | exact HB.out | apply below_alloc | apply pw_below_drewN | apply below_drew1) | exact HB.out)) hb); clear HO468; clear HB; have HO468 := n0_; have HO471 := n1_; have HB := n2_; clear n0_ n1_ n2_; (try clear hb); (try clear hb2); (try clear hk); (try clear hi); (try clear ho0); obtain ⟨Ao99, co99, eo99⟩ := Kd.R_slice HO468.out; subst eo99; obtain ⟨Ao100, co100, eo100⟩ := Kd.R_slice HO471.out; subst eo100; have uq19_ := True.intro) | ((fail_if_success have chk_ := uq20_); (with_reducible refine gate_callee (f := 23) rfl ?_); refine goesL_ (some 120) rfl rfl Try.func23 (by kernel_rfl) rfl #[.slice Ao99 t466.length co99, .slice Ao100 t469.length co100] rfl (by (try simp only [List.map_toArray, List.map_cons, List.map_nil]); first | done | rfl | (simp only [List.length_drop, List.length_take]; rfl)) ?_; (with_reducible refine (keys_Minus.calls kj78 _ _ t466 _ _ t469 t472 t473 _ ?side1 ?side2 ?side3 ?side4 A93.out).mono ?_); (case side1 => repeat (first | exact (Kd.R_reads' HO468.out).2.2 | (with_reducible refine Kd.C_alloc ?_ _) | (with_reducible refine Kd.C_drewN ?_ _) | (with_reducible refine Kd.C_drew ?_))); (case side2 => exact (Kd.R_reads' HO468.out).2.1); (case side3 => repeat (first | exact (Kd.R_reads' HO471.out).2.2 | (with_reducible refine Kd.C_alloc ?_ _) | (with_reducible refine Kd.C_drewN ?_ _) | (with_reducible refine Kd.C_drew ?_))); (case side4 => exact (Kd.R_reads' HO471.out).2.1); rintro e w101 ⟨v474, rfl, ho0, hb⟩; refine ⟨_, rfl, ?_⟩; have n0_ := Aside0.mk (Kd.R_elder' (by (with_reducible repeat (first | apply Kd.R_alloc | apply Kd.R_drewN | apply Kd.R_drew)); exact HO468.out) (Kd.R_base ho0) hb); have n1_ := Aside0.mk (Kd.R_elder' (by (with_reducible repeat (first | apply Kd.R_alloc | apply Kd.R_drewN | apply Kd.R_drew)); exact HO471.out) (Kd.R_base ho0) hb); have n2_ := Aside0.mk (Kd.R_lower (Kd.R_new' (Kd.R_new' ho0 (Kd.R_lt (by (with_reducible repeat (first | apply Kd.R_alloc | apply Kd.R_drewN | apply Kd.R_drew)); exact HO468.out))) (Kd.R_lt (by (with_reducible repeat (first | apply Kd.R_alloc | apply Kd.R_drewN | apply Kd.R_drew)); exact HO471.out))) (below_size (by repeat (first | (with_reducible first | exact HB.out | apply below_alloc | apply pw_below_drewN | apply below_drew1) | exact HB.out)))); have n3_ := Aside0.mk (below_step (by repeat (first | (with_reducible first | exact HB.out | apply below_alloc | apply pw_below_drewN | apply below_drew1) | exact HB.out)) hb); clear HO468; clear HO471; clear HB; have HO468 := n0_; have HO471 := n1_; have HO475 := n2_; have HB := n3_; clear n0_ n1_ n2_ n3_; (try clear hb); (try clear hb2); (try clear hk); (try clear hi); (try clear ho0); have uq20_ := True.intro) | ((fail_if_success have chk_ := uq21_); (with_reducible refine gate_callee (f := 24) rfl ?_); refine goesL_ (some 126) rfl rfl Try.func24 (by kernel_rfl) rfl #[.slice A0 l0.length c0, .slice A1 l1.length c1] rfl (by (try simp only [List.map_toArray, List.map_cons, List.map_nil]); first | done | rfl | (simp only [List.length_drop, List.length_take]; rfl)) ?_; (with_reducible refine (rampartref04_Minus.calls kj78 _ _ l0 _ _ l1 t476 t477 _ ?side1 ?side2 ?side3 ?side4 A94.out).mono ?_); (case side1 => repeat (first | exact (Kd.C_below HR0.out HB.out) | (with_reducible refine Kd.C_alloc ?_ _) | (with_reducible refine Kd.C_drewN ?_ _) | (with_reducible refine Kd.C_drew ?_))); (case side2 => exact HC0.out); (case side3 => repeat (first | exact (Kd.C_below HR1.out HB.out) | (with_reducible refine Kd.C_alloc ?_ _) | (with_reducible refine Kd.C_drewN ?_ _) | (with_reducible refine Kd.C_drew ?_))); (case side4 => exact HC1.out); rintro e w102 ⟨v478, rfl, ho0, hb⟩; refine ⟨_, rfl, ?_⟩; have n0_ := Aside0.mk (Kd.R_elder' (by (with_reducible repeat (first | apply Kd.R_alloc | apply Kd.R_drewN | apply Kd.R_drew)); exact HO468.out) (Kd.R_base ho0) hb); have n1_ := Aside0.mk (Kd.R_elder' (by (with_reducible repeat (first | apply Kd.R_alloc | apply Kd.R_drewN | apply Kd.R_drew)); exact HO471.out) (Kd.R_base ho0) hb); have n2_ := Aside0.mk (Kd.R_elder' (by (with_reducible repeat (first | apply Kd.R_alloc | apply Kd.R_drewN | apply Kd.R_drew)); exact HO475.out) (Kd.R_base ho0) hb); have n3_ := Aside0.mk (Kd.R_lower (Kd.R_new' (Kd.R_new' (Kd.R_new' ho0 (Kd.R_lt (by (with_reducible repeat (first | apply Kd.R_alloc | apply Kd.R_drewN | apply Kd.R_drew)); exact HO468.out))) (Kd.R_lt (by (with_reducible repeat (first | apply Kd.R_alloc | apply Kd.R_drewN | apply Kd.R_drew)); exact HO471.out))) (Kd.R_lt (by (with_reducible repeat (first | apply Kd.R_alloc | apply Kd.R_drewN | apply Kd.R_drew)); exact HO475.out))) (below_size (by repeat (first | (with_reducible first | exact HB.out | apply below_alloc | apply pw_below_drewN | apply below_drew1) | exact HB.out)))); have n4_ := Aside0.mk (below_step (by repeat (first | (with_reducible first | exact HB.out | apply below_alloc | apply pw_below_drewN | apply below_drew1) | exact HB.out)) hb); clear HO468; clear HO471; clear HO475; clear HB; have HO468 := n0_; have HO471 := n1_; have HO475 := n2_; have HO479 := n3_; have HB := n4_; clear n0_ n1_ n2_ n3_ n4_; (try clear hb); (try clear hb2); (try clear hk); (try clear hi); (try clear ho0); obtain ⟨Ao103, co103, eo103⟩ := Kd.R_slice HO475.out; subst eo103; obtain ⟨Ao104, co104, eo104⟩ := Kd.R_slice HO479.out; subst eo104; have uq21_ := True.intro) | ((fail_if_success have chk_ := uq22_); go_at_call 12; (with_reducible refine (rampartlaw04_same.calls kj78 _ _ t472 _ _ t476 t480 _ ?side1 ?side2 ?side3 ?side4 A96.out).mono ?_); (case side1 => repeat (first | exact (Kd.R_reads' HO475.out).2.2 | (with_reducible refine Kd.C_alloc ?_ _) | (with_reducible refine Kd.C_drewN ?_ _) | (with_reducible refine Kd.C_drew ?_))); (case side2 => exact (Kd.R_reads' HO475.out).2.1); (case side3 => repeat (first | exact (Kd.R_reads' HO479.out).2.2 | (with_reducible refine Kd.C_alloc ?_ _) | (with_reducible refine Kd.C_drewN ?_ _) | (with_reducible refine Kd.C_drew ?_))); (case side4 => exact (Kd.R_reads' HO479.out).2.1); rintro e w' ⟨rfl, ⟨nd, rfl⟩⟩; have uq22_ := True.intro))
                              go_ret
                              exact ⟨by first | rfl | (simp [errW_none, errW_some] <;> rfl) | (simp [*, errW_none, errW_some] <;> rfl), by repeat (first | (with_reducible first | exact HB.out | apply below_alloc | apply pw_below_drewN | apply below_drew1) | exact HB.out)⟩
                            · rw [if_neg c95] at H
                              have c95b0 : (t473 == t477) = false := beq_eq_false_iff_ne.mpr c95
                              have c95b1 : (t473 != t477) = true := bne_iff_ne.mpr c95
                              obtain rfl := Option.some.inj H
                              go_wp2_with (first | ((fail_if_success have chk_ := uq23_); (with_reducible refine gate_callee (f := 10) rfl ?_); refine goesL_ (some 117) rfl rfl Try.func10 (by kernel_rfl) rfl #[.slice A0 l0.length c0] rfl (by (try simp only [List.map_toArray, List.map_cons, List.map_nil]); first | done | rfl | (simp only [List.length_drop, List.length_take]; rfl)) ?_; (with_reducible refine (rampartlaw04_own.calls _ _ l0 t466 _ ?side1 ?side2 A91.out).mono ?_); (case side1 => repeat (first | exact (Kd.C_below HR0.out HB.out) | (with_reducible refine Kd.C_alloc ?_ _) | (with_reducible refine Kd.C_drewN ?_ _) | (with_reducible refine Kd.C_drew ?_))); (case side2 => exact HC0.out); rintro e w105 ⟨v467, rfl, ho0, hb⟩; refine ⟨_, rfl, ?_⟩; have n0_ := Aside0.mk (Kd.R_lower ho0 (below_size (by repeat (first | (with_reducible first | exact HB.out | apply below_alloc | apply pw_below_drewN | apply below_drew1) | exact HB.out)))); have n1_ := Aside0.mk (below_step (by repeat (first | (with_reducible first | exact HB.out | apply below_alloc | apply pw_below_drewN | apply below_drew1) | exact HB.out)) hb); clear HB; have HO468 := n0_; have HB := n1_; clear n0_ n1_; (try clear hb); (try clear hb2); (try clear hk); (try clear hi); (try clear ho0); have uq23_ := True.intro) | ((fail_if_success have chk_ := uq24_); (with_reducible refine gate_callee (f := 10) rfl ?_); refine goesL_ (some 119) rfl rfl Try.func10 (by kernel_rfl) rfl #[.slice A1 l1.length c1] rfl (by (try simp only [List.map_toArray, List.map_cons, List.map_nil]); first | done | rfl | (simp only [List.length_drop, List.length_take]; rfl)) ?_; (with_reducible refine (rampartlaw04_own.calls _ _ l1 t469 _ ?side1 ?side2 A92.out).mono ?_); (case side1 => repeat (first | exact (Kd.C_below HR1.out HB.out) | (with_reducible refine Kd.C_alloc ?_ _) | (with_reducible refine Kd.C_drewN ?_ _) | (with_reducible refine Kd.C_drew ?_))); (case side2 => exact HC1.out); rintro e w106 ⟨v470, rfl, ho0, hb⟩; refine ⟨_, rfl, ?_⟩; have n0_ := Aside0.mk (Kd.R_elder' (by (with_reducible repeat (first | apply Kd.R_alloc | apply Kd.R_drewN | apply Kd.R_drew)); exact HO468.out) (Kd.R_base ho0) hb); have n1_ := Aside0.mk (Kd.R_lower (Kd.R_new' ho0 (Kd.R_lt (by (with_reducible repeat (first | apply Kd.R_alloc | apply Kd.R_drewN | apply Kd.R_drew)); exact HO468.out))) (below_size (by repeat (first | (with_reducible first | exact HB.out | apply below_alloc | apply pw_below_drewN | apply below_drew1) | exact HB.out)))); have n2_ := Aside0.mk (below_step (by repeat (first | (with_reducible first | exact HB.out | apply below_alloc | apply pw_below_drewN | apply below_drew1) | exact HB.out)) hb); clear HO468; clear HB; have HO468 := n0_; have HO471 := n1_; have HB := n2_; clear n0_ n1_ n2_; (try clear hb); (try clear hb2); (try clear hk); (try clear hi); (try clear ho0); obtain ⟨Ao107, co107, eo107⟩ := Kd.R_slice HO468.out; subst eo107; obtain ⟨Ao108, co108, eo108⟩ := Kd.R_slice HO471.out; subst eo108; have uq24_ := True.intro) | ((fail_if_success have chk_ := uq25_); (with_reducible refine gate_callee (f := 23) rfl ?_); refine goesL_ (some 120) rfl rfl Try.func23 (by kernel_rfl) rfl #[.slice Ao107 t466.length co107, .slice Ao108 t469.length co108] rfl (by (try simp only [List.map_toArray, List.map_cons, List.map_nil]); first | done | rfl | (simp only [List.length_drop, List.length_take]; rfl)) ?_; (with_reducible refine (keys_Minus.calls kj78 _ _ t466 _ _ t469 t472 t473 _ ?side1 ?side2 ?side3 ?side4 A93.out).mono ?_); (case side1 => repeat (first | exact (Kd.R_reads' HO468.out).2.2 | (with_reducible refine Kd.C_alloc ?_ _) | (with_reducible refine Kd.C_drewN ?_ _) | (with_reducible refine Kd.C_drew ?_))); (case side2 => exact (Kd.R_reads' HO468.out).2.1); (case side3 => repeat (first | exact (Kd.R_reads' HO471.out).2.2 | (with_reducible refine Kd.C_alloc ?_ _) | (with_reducible refine Kd.C_drewN ?_ _) | (with_reducible refine Kd.C_drew ?_))); (case side4 => exact (Kd.R_reads' HO471.out).2.1); rintro e w109 ⟨v474, rfl, ho0, hb⟩; refine ⟨_, rfl, ?_⟩; have n0_ := Aside0.mk (Kd.R_elder' (by (with_reducible repeat (first | apply Kd.R_alloc | apply Kd.R_drewN | apply Kd.R_drew)); exact HO468.out) (Kd.R_base ho0) hb); have n1_ := Aside0.mk (Kd.R_elder' (by (with_reducible repeat (first | apply Kd.R_alloc | apply Kd.R_drewN | apply Kd.R_drew)); exact HO471.out) (Kd.R_base ho0) hb); have n2_ := Aside0.mk (Kd.R_lower (Kd.R_new' (Kd.R_new' ho0 (Kd.R_lt (by (with_reducible repeat (first | apply Kd.R_alloc | apply Kd.R_drewN | apply Kd.R_drew)); exact HO468.out))) (Kd.R_lt (by (with_reducible repeat (first | apply Kd.R_alloc | apply Kd.R_drewN | apply Kd.R_drew)); exact HO471.out))) (below_size (by repeat (first | (with_reducible first | exact HB.out | apply below_alloc | apply pw_below_drewN | apply below_drew1) | exact HB.out)))); have n3_ := Aside0.mk (below_step (by repeat (first | (with_reducible first | exact HB.out | apply below_alloc | apply pw_below_drewN | apply below_drew1) | exact HB.out)) hb); clear HO468; clear HO471; clear HB; have HO468 := n0_; have HO471 := n1_; have HO475 := n2_; have HB := n3_; clear n0_ n1_ n2_ n3_; (try clear hb); (try clear hb2); (try clear hk); (try clear hi); (try clear ho0); have uq25_ := True.intro) | ((fail_if_success have chk_ := uq26_); (with_reducible refine gate_callee (f := 24) rfl ?_); refine goesL_ (some 126) rfl rfl Try.func24 (by kernel_rfl) rfl #[.slice A0 l0.length c0, .slice A1 l1.length c1] rfl (by (try simp only [List.map_toArray, List.map_cons, List.map_nil]); first | done | rfl | (simp only [List.length_drop, List.length_take]; rfl)) ?_; (with_reducible refine (rampartref04_Minus.calls kj78 _ _ l0 _ _ l1 t476 t477 _ ?side1 ?side2 ?side3 ?side4 A94.out).mono ?_); (case side1 => repeat (first | exact (Kd.C_below HR0.out HB.out) | (with_reducible refine Kd.C_alloc ?_ _) | (with_reducible refine Kd.C_drewN ?_ _) | (with_reducible refine Kd.C_drew ?_))); (case side2 => exact HC0.out); (case side3 => repeat (first | exact (Kd.C_below HR1.out HB.out) | (with_reducible refine Kd.C_alloc ?_ _) | (with_reducible refine Kd.C_drewN ?_ _) | (with_reducible refine Kd.C_drew ?_))); (case side4 => exact HC1.out); rintro e w110 ⟨v478, rfl, ho0, hb⟩; refine ⟨_, rfl, ?_⟩; have n0_ := Aside0.mk (Kd.R_elder' (by (with_reducible repeat (first | apply Kd.R_alloc | apply Kd.R_drewN | apply Kd.R_drew)); exact HO468.out) (Kd.R_base ho0) hb); have n1_ := Aside0.mk (Kd.R_elder' (by (with_reducible repeat (first | apply Kd.R_alloc | apply Kd.R_drewN | apply Kd.R_drew)); exact HO471.out) (Kd.R_base ho0) hb); have n2_ := Aside0.mk (Kd.R_elder' (by (with_reducible repeat (first | apply Kd.R_alloc | apply Kd.R_drewN | apply Kd.R_drew)); exact HO475.out) (Kd.R_base ho0) hb); have n3_ := Aside0.mk (Kd.R_lower (Kd.R_new' (Kd.R_new' (Kd.R_new' ho0 (Kd.R_lt (by (with_reducible repeat (first | apply Kd.R_alloc | apply Kd.R_drewN | apply Kd.R_drew)); exact HO468.out))) (Kd.R_lt (by (with_reducible repeat (first | apply Kd.R_alloc | apply Kd.R_drewN | apply Kd.R_drew)); exact HO471.out))) (Kd.R_lt (by (with_reducible repeat (first | apply Kd.R_alloc | apply Kd.R_drewN | apply Kd.R_drew)); exact HO475.out))) (below_size (by repeat (first | (with_reducible first | exact HB.out | apply below_alloc | apply pw_below_drewN | apply below_drew1) | exact HB.out)))); have n4_ := Aside0.mk (below_step (by repeat (first | (with_reducible first | exact HB.out | apply below_alloc | apply pw_below_drewN | apply below_drew1) | exact HB.out)) hb); clear HO468; clear HO471; clear HO475; clear HB; have HO468 := n0_; have HO471 := n1_; have HO475 := n2_; have HO479 := n3_; have HB := n4_; clear n0_ n1_ n2_ n3_ n4_; (try clear hb); (try clear hb2); (try clear hk); (try clear hi); (try clear ho0); have uq26_ := True.intro))
                              go_ret
                              exact ⟨by first | rfl | (simp [errW_none, errW_some] <;> rfl) | (simp [*, errW_none, errW_some] <;> rfl), by repeat (first | (with_reducible first | exact HB.out | apply below_alloc | apply pw_below_drewN | apply below_drew1) | exact HB.out)⟩
  · replace c5 := Bool.eq_false_iff.mpr c5
    subst c5
    have H1 : (some false) = some r := by rw [if_neg (show ¬ (false = true) by decide)] at H; exact H
    clear H
    have H := H1
    clear H1
    obtain rfl := Option.some.inj H
    go_enter Try.func3, Try.ntmps3
    go_wp2_with (first | ((with_reducible refine gate_callee (f := 8) rfl ?_); refine goesL_ (some 12) rfl rfl Try.func8 (by kernel_rfl) rfl #[] rfl (by (try simp only [List.map_toArray, List.map_cons, List.map_nil]); first | done | rfl | (simp only [List.length_drop, List.length_take]; rfl)) ?_; (with_reducible refine (rampartlaw04_alive.calls k  false _ A4.out).mono ?_); rintro e w111 ⟨rfl, hb⟩; refine ⟨_, rfl, ?_⟩; have n0_ := Aside0.mk (below_step (by repeat (first | (with_reducible first | exact HB.out | apply below_alloc | apply pw_below_drewN | apply below_drew1) | exact HB.out)) hb); clear HB; have HB := n0_; clear n0_; (try clear hb); (try clear hb2); (try clear hk); (try clear hi)))
    go_ret
    exact ⟨by first | rfl | (simp [errW_none, errW_some] <;> rfl) | (simp [*, errW_none, errW_some] <;> rfl), by repeat (first | (with_reducible first | exact HB.out | apply below_alloc | apply pw_below_drewN | apply below_drew1) | exact HB.out)⟩

end Go.Proofs.Ytjahalkgjnnapaa.G
