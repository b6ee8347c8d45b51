-- laid by given.py of this session: the kit's print of the translation, some functions' contracts being this session's own (wip/given). Not trusted: Lean checks it.
import Derived.Test.YtjahalkgjnnapaaGx0
import Derived.Test.YtjahalkgjnnapaaGx1
namespace Go.Proofs.Ytjahalkgjnnapaa.G
open Go.RowKit Go.Proofs.YtjahalkgjnnapaaW.PrintWords Go.Proofs.YtjahalkgjnnapaaW.PrintLast Go.Proofs.YtjahalkgjnnapaaW.PrintMore
attribute [local go_sem] max2_int min2_int max_two min_two max_three min_three max_four min_four   -- for this text's walks alone
set_option linter.unusedVariables false
set_option linter.unusedSimpArgs false

attribute [local go_sem high] eqA41
/-! ### keys_Rising: function 15 -/
def keys_Rising.l0 : Nat → List ByteArray → Int → Option (Bool)
  | 0, _, _ => none
  | k + 1, x0, x3 => if x3 < (x0.length : Int) then (if 0 ≤ (wrap64 (x3 - 1)) then (if (wrap64 (x3 - 1)) < (x0.length : Int) then (if 0 ≤ x3 then (if ((Op.bytesLess ((rdOf ByteArray.empty x0 (wrap64 (x3 - 1))).toList) ((rdOf ByteArray.empty x0 x3).toList)) = true) then (keys_Rising.l0 k x0 (wrap64 (x3 + 1))) else (some false)) else (none)) else (none)) else (none)) else (some true)
def keys_Rising.f (k : Nat) (l0 : List ByteArray) : Option (Bool) := keys_Rising.l0 k l0 1
theorem keys_Rising.mono_l : ∀ k, (∀ y0 y1, LeO (keys_Rising.l0 k y0 y1) (keys_Rising.l0 (k + 1) y0 y1))
  | 0 => fun _ _ r h => by simp [keys_Rising.l0] at h
  | k + 1 => by
    have ih0 := keys_Rising.mono_l k
    · intro y0 y1
      unfold keys_Rising.l0
      repeat' first
      | (with_reducible exact ih0 _ _)
      | (with_reducible exact LeO.refl _)
      | (with_reducible exact LeO.none _)
      | (with_reducible refine LeO.ite ?_ ?_)
      | (with_reducible refine LeO.bind ?_ (fun _ => ?_))
      | exact ih0 _ _
      | exact LeO.none _
      | refine LeO.ite ?_ ?_
      | refine LeO.bind ?_ (fun _ => ?_)
theorem keys_Rising.mono : ∀ a0 k, LeO (keys_Rising.f k a0) (keys_Rising.f (k + 1) a0) := by
  intro a0 k
  have ih0 := keys_Rising.mono_l k
  unfold keys_Rising.f
  repeat' first
      | (with_reducible exact ih0 _ _)
      | (with_reducible exact LeO.refl _)
      | (with_reducible exact LeO.none _)
      | (with_reducible refine LeO.ite ?_ ?_)
      | (with_reducible refine LeO.bind ?_ (fun _ => ?_))
      | exact ih0 _ _
      | exact LeO.none _
      | refine LeO.ite ?_ ?_
      | refine LeO.bind ?_ (fun _ => ?_)
set_option maxHeartbeats 8000000 in
set_option maxRecDepth 100000 in
theorem keys_Rising.calls (k : Nat) (A0 : Option Addr) (c0 : Nat) (l0 : List ByteArray) (r : Bool) (w : World) (hr0 : Kd.C Kd.string w A0 l0.length l0) (hc0 : l0.length ≤ c0) (h : keys_Rising.f k l0 = some r) :
    Calls Try.prog 15 #[.slice A0 l0.length c0] w fun e w' => e = .returned (.bool r) ∧ Drawn0 w w' := by
  have HR0 := Aside0.mk hr0
  have HC0 := Aside0.mk hc0
  clear hr0 hc0
  have H : (keys_Rising.l0 k l0 1) = some r := h
  clear h
  have H' := Aside0.mk H
  clear H
  go_enter Try.func15, Try.ntmps15
  go_wp2
  repeat (go_quiet (fail); try go_wp2)
  go_loopg [3] k (fun kq v3 w' => ∃ (x3_1 : Int), v3 = .int .i64 x3_1 ∧ Aside0 (keys_Rising.l0 kq l0 x3_1 = some r) ∧ Aside0 (kq ≤ k) ∧ Drawn0 w w')
  case atStart => exact ⟨(1), (by first | rfl | (simp; done) | (simp [*]; done)), H', ⟨Nat.le_refl _⟩, by repeat (first | exact Drawn0.refl _ | apply Drawn0.step)⟩
  case round =>
    clear H'
    try clear c1
    obtain ⟨x3_1, rfl, HA, HK1, ⟨m1, rfl⟩⟩ := hrel
    cases gk with
    | zero => exact absurd HA.out (by simp [keys_Rising.l0])
    | succ k1 =>
      have H := HA.out
      clear HA
      simp only [keys_Rising.l0] at H
      by_cases c2 : x3_1 < (l0.length : Int)
      · rw [if_pos c2] at H
        have c2b0 : decide (x3_1 < (l0.length : Int)) = true := decide_eq_true c2
        clear c2
        obtain ⟨ji3, hji3⟩ : ∃ j_ : Int, (wrap64 (x3_1 - 1)) = j_ := ⟨_, rfl⟩
        replace H : (if 0 ≤ (ji3) then (if (ji3) < (l0.length : Int) then (if 0 ≤ x3_1 then (if ((Op.bytesLess ((rdOf ByteArray.empty l0 (ji3)).toList) ((rdOf ByteArray.empty l0 x3_1).toList)) = true) then (keys_Rising.l0 k1 l0 (wrap64 (x3_1 + 1))) else (some false)) else (none)) else (none)) else (none)) = some r := by first | (rw [hji3] at H; exact H) | (simp only [hji3] at H ⊢; exact H)
        have hji3w : (IntKind.i64.wrap (x3_1 - 1)) = ji3 := (i64_w _).trans hji3
        by_cases c4 : 0 ≤ (ji3)
        · rw [if_pos c4] at H
          have c4b0 : decide (0 ≤ (ji3)) = true := decide_eq_true c4
          clear c4
          by_cases c5 : (ji3) < (l0.length : Int)
          · rw [if_pos c5] at H
            have c5b0 : decide ((ji3) < (l0.length : Int)) = true := decide_eq_true c5
            clear c5
            by_cases c6 : 0 ≤ x3_1
            · rw [if_pos c6] at H
              have c6b0 : decide (0 ≤ x3_1) = true := decide_eq_true c6
              clear c6
              by_cases c7 : ((Op.bytesLess ((rdOf ByteArray.empty l0 (ji3)).toList) ((rdOf ByteArray.empty l0 x3_1).toList)) = true)
              · rw [if_pos c7] at H
                have c7b0 : (Op.bytesLess ((rdOf ByteArray.empty l0 (ji3)).toList) ((rdOf ByteArray.empty l0 x3_1).toList)) = true := c7
                clear c7
                have H' := Aside0.mk H
                clear H
                have p139 : 0 ≤ ((ji3) : Int) := of_decide_eq_true (by first | (with_reducible assumption) | assumption)
                have q139 : (ji3) < (l0.length : Int) := of_decide_eq_true (by first | (with_reducible assumption) | assumption)
                obtain ⟨ad139, e139, hx139_0⟩ := Kd.at_string HR0.out (ji3) p139 q139
                cases e139
                replace p139 := eq_true p139
                replace q139 := eq_true q139
                have p140 : 0 ≤ (x3_1 : Int) := of_decide_eq_true (by first | (with_reducible assumption) | assumption)
                have q140 : x3_1 < (l0.length : Int) := of_decide_eq_true (by first | (with_reducible assumption) | assumption)
                obtain ⟨ad140, e140, hx140_0⟩ := Kd.at_string HR0.out x3_1 p140 q140
                obtain rfl : ad139 = ad140 := (by injection e140)
                replace p140 := eq_true p140
                replace q140 := eq_true q140
                go_wp2
                repeat (go_quiet (fail); try go_wp2)
                go_roundg k1
                case measure => have := HK1.out; omega
                case rel => exact ⟨(wrap64 (x3_1 + 1)), (by first | rfl | (simp; done) | (simp [*]; done)), H', ⟨by have := HK1.out; omega⟩, by repeat (first | exact Drawn0.refl _ | apply Drawn0.step)⟩
              · rw [if_neg c7] at H
                have c7b0 : (Op.bytesLess ((rdOf ByteArray.empty l0 (ji3)).toList) ((rdOf ByteArray.empty l0 x3_1).toList)) = false := by simpa using c7
                clear c7
                obtain rfl := Option.some.inj H
                have p139 : 0 ≤ ((ji3) : Int) := of_decide_eq_true (by first | (with_reducible assumption) | assumption)
                have q139 : (ji3) < (l0.length : Int) := of_decide_eq_true (by first | (with_reducible assumption) | assumption)
                obtain ⟨ad139, e139, hx139_0⟩ := Kd.at_string HR0.out (ji3) p139 q139
                cases e139
                replace p139 := eq_true p139
                replace q139 := eq_true q139
                have p140 : 0 ≤ (x3_1 : Int) := of_decide_eq_true (by first | (with_reducible assumption) | assumption)
                have q140 : x3_1 < (l0.length : Int) := of_decide_eq_true (by first | (with_reducible assumption) | assumption)
                obtain ⟨ad140, e140, hx140_0⟩ := Kd.at_string HR0.out x3_1 p140 q140
                obtain rfl : ad139 = ad140 := (by injection e140)
                replace p140 := eq_true p140
                replace q140 := eq_true q140
                go_wp2
                repeat (go_quiet (fail); try go_wp2)
                go_ret
                exact ⟨by first | rfl | (simp; done) | (simp only [← hji3] <;> (first | rfl | simp)) | (simp [*]; done), by repeat (first | exact Drawn0.refl _ | apply Drawn0.step)⟩
            · rw [if_neg c6] at H
              exact absurd H (by simp)
          · rw [if_neg c5] at H
            exact absurd H (by simp)
        · rw [if_neg c4] at H
          exact absurd H (by simp)
      · rw [if_neg c2] at H
        have c2b0 : decide (x3_1 < (l0.length : Int)) = false := decide_eq_false c2
        clear c2
        obtain rfl := Option.some.inj H
        go_wp2
        repeat (go_quiet (fail); try go_wp2)
        go_ret
        exact ⟨by first | rfl | (simp; done) | (simp [*]; done), by repeat (first | exact Drawn0.refl _ | apply Drawn0.step)⟩

/-! ### keys_Valid: function 13: given by this session -/
-- NEEDS rampart/keys.Rising
theorem rising_at (l0 : List ByteArray) (hl : l0.length ≤ 4611686018427387904) : ∀ (d k i : Nat), l0.length + 1 = i + 1 + d → d < k → keys_Rising.l0 k l0 (((i + 1 : Nat) : Int)) = some (Hand.rising (l0.drop i)) := by
  intro d
  induction d with
  | zero =>
    intro k i hd hk
    obtain ⟨k, rfl⟩ : ∃ m, k = m + 1 := ⟨k - 1, by omega⟩
    simp only [keys_Rising.l0]
    rw [if_neg (by omega), List.drop_eq_nil_of_le (by omega)]
    rfl
  | succ d ih =>
    intro k i hd hk
    obtain ⟨k, rfl⟩ : ∃ m, k = m + 1 := ⟨k - 1, by omega⟩
    simp only [keys_Rising.l0]
    rcases Nat.lt_or_ge (i + 1) l0.length with h | h
    · have w1 : wrap64 (((i + 1 : Nat) : Int) - 1) = (i : Int) := by unfold wrap64; omega
      have w2 : wrap64 (((i + 1 : Nat) : Int) + 1) = ((i + 1 + 1 : Nat) : Int) := by unfold wrap64; omega
      rw [if_pos (by omega), w1, if_pos (by omega), if_pos (by omega), if_pos (by omega), w2, ih k (i + 1) (by omega) (by omega)]
      have e1 : rdOf ByteArray.empty l0 (i : Int) = l0[i] := by simp [rdOf, show i < l0.length from by omega]
      have e2 : rdOf ByteArray.empty l0 ((i + 1 : Nat) : Int) = l0[i + 1] := by
        unfold rdOf
        rw [show (((i + 1 : Nat) : Int)).toNat = i + 1 from by omega]
        simp [h]
      rw [e1, e2, List.drop_eq_getElem_cons (show i < l0.length by omega), List.drop_eq_getElem_cons h]
      simp only [Hand.rising, Hand.lt]
      cases Op.bytesLess l0[i].toList l0[i + 1].toList <;> simp
    · rw [if_neg (by omega)]
      have hi : i + 1 = l0.length := by omega
      rw [List.drop_eq_getElem_cons (show i < l0.length by omega), List.drop_eq_nil_of_le (by omega)]
      rfl
theorem rising_val (l0 : List ByteArray) (hl : l0.length ≤ 4611686018427387904) (k : Nat) (hk : l0.length < k) : keys_Rising.f k l0 = some (Hand.rising l0) := by
  have := rising_at l0 hl l0.length k 0 (by omega) hk
  unfold keys_Rising.f
  simpa using this

def keys_Valid.f (_k : Nat) (l0 : List ByteArray) : Option (Bool) := some (Hand.valid l0)
theorem keys_Valid.mono : ∀ a0 k, LeO (keys_Valid.f k a0) (keys_Valid.f (k + 1) a0) := fun _ _ => LeO.refl _
set_option maxHeartbeats 2000000 in
theorem keys_Valid.calls (k : Nat) (A0 : Option Addr) (c0 : Nat) (l0 : List ByteArray) (r : Bool) (w : World) (hr0 : Kd.C Kd.string w A0 l0.length l0) (hc0 : l0.length ≤ c0) (h : keys_Valid.f k l0 = some r) :
    Calls Try.prog 13 #[.slice A0 l0.length c0] w fun e w' => e = .returned (.bool r) ∧ Below w.heap.size w w' := by
  obtain rfl : Hand.valid l0 = r := by injection h
  have hm : l0.length ≤ 9223372036854775807 := hr0.2.1
  by_cases h1 : l0.length < 1
  · rw [Hand.valid_none h1]
    have h1' : (l0.length : Int) < 1 := by omega
    clear h hr0 hc0
    go_enter Try.func13, Try.ntmps13
    go_wp2
    go_ret
    exact ⟨rfl, Below.refl _ _⟩
  by_cases h2 : 1024 < l0.length
  · rw [Hand.valid_many h2]
    have h1' : ¬ (l0.length : Int) < 1 := by omega
    clear h hr0 hc0
    go_enter Try.func13, Try.ntmps13
    go_wp2
    go_ret
    exact ⟨rfl, Below.refl _ _⟩
  have hs := Hand.strs_of_C (c := c0) hr0
  obtain ⟨A, cap, he, hcell⟩ := hs
  obtain ⟨ad, rfl, hb, hcell⟩ := hcell (by omega)
  injection he with he1 he2 he3
  subst he1
  have HC := Lib.hid hcell
  have HR := Lib.hid hr0
  have hv : Hid (∀ r', r' = Hand.valid l0 → r' = Hand.valid l0) := fun _ h => h
  clear h he2 he3 hcell hr0 hv
  generalize hval : Hand.valid l0 = val
  replace hval := Lib.hid hval
  go_enter Try.func13, Try.ntmps13
  go_wp2
  go_loop [4, 15] (fun _ i => ∃ j : Nat, j ≤ l0.length ∧ i = .int .i64 j ∧ ∀ n (hn : n < l0.length), n < j → l0[n].size ≤ 65535) (fun _ i => l0.length - (intOf i).toNat)
  case atStart => exact ⟨0, Nat.zero_le _, rfl, fun n _ hn => by omega⟩
  case round =>
    obtain ⟨j, hj, rfl, hsm⟩ := hrel
    replace hsm := Lib.hid hsm
    by_cases hlt : j < l0.length
    · have hcj := HC.out j hlt
      rw [show l0[j]?.getD ByteArray.empty = l0[j] from by simp [hlt]] at hcj
      by_cases hsz : 65535 < l0[j].size
      · have hv := Lib.hid (Hand.valid_great hlt hsz)
        go_wp2
        go_ret
        exact ⟨by rw [show val = false from hval.out.symm.trans hv.out]; rfl, Below.refl _ _⟩
      · have hsz' : l0[j].size ≤ 65535 := by omega
        go_wp2
        go_round
        case rel => exact ⟨j + 1, by omega, by go_num, fun n hn hnj => by
          rcases Nat.lt_or_ge n j with h | h
          · exact hsm.out n hn h
          · obtain rfl : n = j := by omega
            exact hsz'⟩
        case measure => simp [intOf]; omega
    · obtain rfl : j = l0.length := by omega
      have hv : Hid (Hand.valid l0 = Hand.rising (Hand.sorted l0)) := Lib.hid (Hand.valid_rest (by omega) (by omega) (fun n hn => hsm.out n hn hn))
      clear hsm
      go_wp2_with fail
      refine (Hand.values_any _ _ _ _).mono ?_
      rintro e w1 ⟨rfl, rfl⟩
      have hbw : Below w.heap.size w (w.alloc (.cells #[.slice (some ad) l0.length c0] 22)) := (Below.refl _ w).alloc (Nat.le_refl _) _
      have hstr : Hand.Strs (w.alloc (.cells #[.slice (some ad) l0.length c0] 22)).heap.size (w.alloc (.cells #[.slice (some ad) l0.length c0] 22)) (.slice (some ad) l0.length c0) l0 := Hand.strs_of_C (Kd.C_below HR.out hbw)
      have hcb := (Hand.cell_new w (.slice (some ad) l0.length c0) 22)
      go_wp2_with fail
      refine (Hand.sorted_any w.heap.size _ l0 (by omega) _ (by simp) hcb hstr).mono ?_
      rintro e w2 ⟨v, rfl, hR, hb2⟩
      obtain ⟨A2, c2, rfl, hl2, hC2⟩ := Kd.R_reads hR
      have hrs := rising_val (Hand.sorted l0) (by rw [Hand.sorted_length]; omega) (l0.length + 1) (by rw [Hand.sorted_length]; omega)
      have hcall := fun W => keys_Rising.calls (l0.length + 1) A2 c2 (Hand.sorted l0) (Hand.rising (Hand.sorted l0)) W
      replace hrs := Lib.hid hrs
      replace hC2 := Lib.hid hC2
      replace hcall := Lib.hid hcall
      replace hR := Lib.hid hR
      have hb3 : Hid (Below w.heap.size w w2) := Lib.hid (hbw.trans (hb2.mono (by simp)))
      clear hb2 hbw hstr hcb
      go_wp2_with fail
      refine (hcall.out _ hC2.out hl2 hrs.out).mono ?_
      rintro e w3 ⟨rfl, hd⟩
      go_wp2
      go_ret
      exact ⟨by rw [show val = Hand.rising (Hand.sorted l0) from hval.out.symm.trans hv.out]; rfl, hb3.out.trans (hd.below.mono hb3.out.size)⟩


/-! ### keys_Sorted: function 9: given by this session -/
-- NEEDS rampart/keys.Valid
def keys_Sorted.f (_k : Nat) (l0 : List ByteArray) : Option (List ByteArray × Int) := some (if Hand.valid l0 = true then (Hand.sorted l0, 0) else ([], 40))
theorem keys_Sorted.mono : ∀ a0 k, LeO (keys_Sorted.f k a0) (keys_Sorted.f (k + 1) a0) := fun _ _ => LeO.refl _
theorem valid_length {l : List ByteArray} (h : Hand.valid l = true) : l.length ≤ 1024 := by
  rcases Nat.lt_or_ge 1024 l.length with h' | h'
  · rw [Hand.valid_many h'] at h; cases h
  · exact h'
set_option maxHeartbeats 2000000 in
theorem keys_Sorted.calls (k : Nat) (A0 : Option Addr) (c0 : Nat) (l0 : List ByteArray) (r1 : List ByteArray) (r2 : Int) (w : World) (hr0 : Kd.C Kd.string w A0 l0.length l0) (hc0 : l0.length ≤ c0) (h : keys_Sorted.f k l0 = some (r1, r2)) :
    Calls Try.prog 9 #[.slice A0 l0.length c0] w fun e w' => ∃ v0_ : Value, e = .returned (.tuple #[v0_, .int .i64 r2]) ∧ Kd.R Kd.string 9 w' w.heap.size (fun _ => True) v0_ r1 ∧ Below w.heap.size w w' := by
  have hval := fun W hW => keys_Valid.calls k A0 c0 l0 (Hand.valid l0) W hW hc0 rfl
  by_cases hv : Hand.valid l0 = true
  · rw [keys_Sorted.f, if_pos hv] at h
    obtain ⟨rfl, rfl⟩ : Hand.sorted l0 = r1 ∧ 0 = r2 := by injection h with h; injection h with h1 h2; exact ⟨h1, h2⟩
    rw [hv] at hval
    have hlen := valid_length hv
    replace hval := Lib.hid hval
    have HR := Lib.hid hr0
    clear h hv hr0
    go_enter Try.func9, Try.ntmps9
    go_wp2_with fail
    refine (hval.out _ HR.out).mono ?_
    rintro e W ⟨rfl, hb⟩
    have hR2 : Hid (Kd.C Kd.string W A0 l0.length l0) := Kd.C_below HR.out hb
    go_wp2_with fail
    refine (Hand.values_any _ _ _ _).mono ?_
    rintro e w1 ⟨rfl, rfl⟩
    have hbw : Below W.heap.size W (W.alloc (.cells #[.slice A0 l0.length c0] 22)) := (Below.refl _ W).alloc (Nat.le_refl _) _
    have hstr : Hand.Strs (W.alloc (.cells #[.slice A0 l0.length c0] 22)).heap.size (W.alloc (.cells #[.slice A0 l0.length c0] 22)) (.slice A0 l0.length c0) l0 := Hand.strs_of_C (Kd.C_below hR2.out hbw)
    have hcb := (Hand.cell_new W (.slice A0 l0.length c0) 22)
    go_wp2_with fail
    refine (Hand.sorted_any W.heap.size _ l0 (by omega) _ (by simp) hcb hstr).mono ?_
    rintro e w2 ⟨v, rfl, hR, hb2⟩
    replace hR := Lib.hid hR
    replace hb2 := Lib.hid (hbw.trans (hb2.mono (by simp)))
    replace hb := Lib.hid hb
    clear hbw hstr hcb
    go_wp2
    go_ret2
    exact ⟨_, rfl, Kd.R_lower hR.out (by have := hb.out.size; simp; omega), hb.out.trans (hb2.out.mono hb.out.size)⟩
  · have hv' : Hand.valid l0 = false := by simpa using hv
    rw [keys_Sorted.f, if_neg hv] at h
    obtain ⟨rfl, rfl⟩ : [] = r1 ∧ 40 = r2 := by injection h with h; injection h with h1 h2; exact ⟨h1, h2⟩
    rw [hv'] at hval
    replace hval := Lib.hid hval
    have HR := Lib.hid hr0
    clear h hv hv' hr0
    go_enter Try.func9, Try.ntmps9
    go_wp2_with fail
    refine (hval.out _ HR.out).mono ?_
    rintro e W ⟨rfl, hb⟩
    replace hb := Lib.hid hb
    go_wp2
    go_ret2
    exact ⟨_, rfl, Kd.R_nil _ _ _ _ _, hb.out⟩

/-! ### rampartlaw04_same: function 12 -/
def rampartlaw04_same.l0 : Nat → List ByteArray → List ByteArray → Int → Option (Bool)
  | 0, _, _, _ => none
  | k + 1, x0, x1, x5 => if x5 < (x0.length : Int) then (if 0 ≤ x5 then (if x5 < (x1.length : Int) then (if (rdOf ByteArray.empty x0 x5).toList = (rdOf ByteArray.empty x1 x5).toList then (rampartlaw04_same.l0 k x0 x1 (wrap64 (x5 + 1))) else (some false)) else (none)) else (none)) else (some true)
def rampartlaw04_same.f (k : Nat) (l0 : List ByteArray) (l1 : List ByteArray) : Option (Bool) := if (l0.length : Int) = (l1.length : Int) then (rampartlaw04_same.l0 k l0 l1 0) else (some false)
theorem rampartlaw04_same.mono_l : ∀ k, (∀ y0 y1 y2, LeO (rampartlaw04_same.l0 k y0 y1 y2) (rampartlaw04_same.l0 (k + 1) y0 y1 y2))
  | 0 => fun _ _ _ r h => by simp [rampartlaw04_same.l0] at h
  | k + 1 => by
    have ih0 := rampartlaw04_same.mono_l k
    · intro y0 y1 y2
      unfold rampartlaw04_same.l0
      repeat' first
      | (with_reducible exact ih0 _ _ _)
      | (with_reducible exact LeO.refl _)
      | (with_reducible exact LeO.none _)
      | (with_reducible refine LeO.ite ?_ ?_)
      | (with_reducible refine LeO.bind ?_ (fun _ => ?_))
      | exact ih0 _ _ _
      | exact LeO.none _
      | refine LeO.ite ?_ ?_
      | refine LeO.bind ?_ (fun _ => ?_)
theorem rampartlaw04_same.mono : ∀ a0 a1 k, LeO (rampartlaw04_same.f k a0 a1) (rampartlaw04_same.f (k + 1) a0 a1) := by
  intro a0 a1 k
  have ih0 := rampartlaw04_same.mono_l k
  unfold rampartlaw04_same.f
  repeat' first
      | (with_reducible exact ih0 _ _ _)
      | (with_reducible exact LeO.refl _)
      | (with_reducible exact LeO.none _)
      | (with_reducible refine LeO.ite ?_ ?_)
      | (with_reducible refine LeO.bind ?_ (fun _ => ?_))
      | exact ih0 _ _ _
      | exact LeO.none _
      | refine LeO.ite ?_ ?_
      | refine LeO.bind ?_ (fun _ => ?_)
set_option maxHeartbeats 8000000 in
set_option maxRecDepth 100000 in
theorem rampartlaw04_same.calls (k : Nat) (A0 : Option Addr) (c0 : Nat) (l0 : List ByteArray) (A1 : Option Addr) (c1 : Nat) (l1 : List ByteArray) (r : Bool) (w : World) (hr0 : Kd.C Kd.string w A0 l0.length l0) (hc0 : l0.length ≤ c0) (hr1 : Kd.C Kd.string w A1 l1.length l1) (hc1 : l1.length ≤ c1) (h : rampartlaw04_same.f k l0 l1 = some r) :
    Calls Try.prog 12 #[.slice A0 l0.length c0, .slice A1 l1.length c1] w fun e w' => e = .returned (.bool r) ∧ Drawn0 w w' := by
  have HR0 := Aside0.mk hr0
  have HC0 := Aside0.mk hc0
  clear hr0 hc0
  have HR1 := Aside0.mk hr1
  have HC1 := Aside0.mk hc1
  clear hr1 hc1
  have H : (if (l0.length : Int) = (l1.length : Int) then (rampartlaw04_same.l0 k l0 l1 0) else (some false)) = some r := h
  clear h
  by_cases c3 : (l0.length : Int) = (l1.length : Int)
  · rw [if_pos c3] at H
    have c3b0 : ((l0.length : Int) == (l1.length : Int)) = true := beq_iff_eq.mpr c3
    have c3b1 : ((l0.length : Int) != (l1.length : Int)) = false := bne_eq_false_iff_eq.mpr c3
    have c3b2 : (l0.length == l1.length) = true := by first | simpa using c3 | (simp at c3 ⊢; omega)
    clear c3
    have H' := Aside0.mk H
    clear H
    go_enter Try.func12, Try.ntmps12
    go_wp2
    repeat (go_quiet (fail); try go_wp2)
    go_loopg [5] k (fun kq v5 w' => ∃ (x5_1 : Int), v5 = .int .i64 x5_1 ∧ Aside0 (rampartlaw04_same.l0 kq l0 l1 x5_1 = some r) ∧ Aside0 (kq ≤ k) ∧ Drawn0 w w')
    case atStart => exact ⟨(0), (by first | rfl | (simp; done) | (simp [*]; done)), H', ⟨Nat.le_refl _⟩, by repeat (first | exact Drawn0.refl _ | apply Drawn0.step)⟩
    case round =>
      clear H'
      try clear c1
      try clear p2
      try clear c3
      try clear c3b0
      try clear c3b1
      try clear c3b2
      obtain ⟨x5_1, rfl, HA, HK1, ⟨m1, rfl⟩⟩ := hrel
      cases gk with
      | zero => exact absurd HA.out (by simp [rampartlaw04_same.l0])
      | succ k1 =>
        have H := HA.out
        clear HA
        simp only [rampartlaw04_same.l0] at H
        by_cases c4 : x5_1 < (l0.length : Int)
        · rw [if_pos c4] at H
          have c4b0 : decide (x5_1 < (l0.length : Int)) = true := decide_eq_true c4
          clear c4
          by_cases c5 : 0 ≤ x5_1
          · rw [if_pos c5] at H
            have c5b0 : decide (0 ≤ x5_1) = true := decide_eq_true c5
            clear c5
            by_cases c6 : x5_1 < (l1.length : Int)
            · rw [if_pos c6] at H
              have c6b0 : decide (x5_1 < (l1.length : Int)) = true := decide_eq_true c6
              clear c6
              by_cases c7 : (rdOf ByteArray.empty l0 x5_1).toList = (rdOf ByteArray.empty l1 x5_1).toList
              · rw [if_pos c7] at H
                have c7b0 : ((rdOf ByteArray.empty l0 x5_1).toList == (rdOf ByteArray.empty l1 x5_1).toList) = true := beq_iff_eq.mpr c7
                have c7b1 : ((rdOf ByteArray.empty l0 x5_1).toList != (rdOf ByteArray.empty l1 x5_1).toList) = false := bne_eq_false_iff_eq.mpr c7
                clear c7
                have H' := Aside0.mk H
                clear H
                have p150 : 0 ≤ (x5_1 : Int) := of_decide_eq_true (by first | (with_reducible assumption) | assumption)
                have q150 : x5_1 < (l0.length : Int) := of_decide_eq_true (by first | (with_reducible assumption) | assumption)
                obtain ⟨ad150, e150, hx150_0⟩ := Kd.at_string HR0.out x5_1 p150 q150
                cases e150
                replace p150 := eq_true p150
                replace q150 := eq_true q150
                have p151 : 0 ≤ (x5_1 : Int) := of_decide_eq_true (by first | (with_reducible assumption) | assumption)
                have q151 : x5_1 < (l1.length : Int) := of_decide_eq_true (by first | (with_reducible assumption) | assumption)
                obtain ⟨ad151, e151, hx151_0⟩ := Kd.at_string HR1.out x5_1 p151 q151
                cases e151
                replace p151 := eq_true p151
                replace q151 := eq_true q151
                go_wp2
                repeat (go_quiet (fail); try go_wp2)
                go_roundg k1
                case measure => have := HK1.out; omega
                case rel => exact ⟨(wrap64 (x5_1 + 1)), (by first | rfl | (simp; done) | (simp [*]; done)), H', ⟨by have := HK1.out; omega⟩, by repeat (first | exact Drawn0.refl _ | apply Drawn0.step)⟩
              · rw [if_neg c7] at H
                have c7b0 : ((rdOf ByteArray.empty l0 x5_1).toList == (rdOf ByteArray.empty l1 x5_1).toList) = false := beq_eq_false_iff_ne.mpr c7
                have c7b1 : ((rdOf ByteArray.empty l0 x5_1).toList != (rdOf ByteArray.empty l1 x5_1).toList) = true := bne_iff_ne.mpr c7
                obtain rfl := Option.some.inj H
                have p150 : 0 ≤ (x5_1 : Int) := of_decide_eq_true (by first | (with_reducible assumption) | assumption)
                have q150 : x5_1 < (l0.length : Int) := of_decide_eq_true (by first | (with_reducible assumption) | assumption)
                obtain ⟨ad150, e150, hx150_0⟩ := Kd.at_string HR0.out x5_1 p150 q150
                cases e150
                replace p150 := eq_true p150
                replace q150 := eq_true q150
                have p151 : 0 ≤ (x5_1 : Int) := of_decide_eq_true (by first | (with_reducible assumption) | assumption)
                have q151 : x5_1 < (l1.length : Int) := of_decide_eq_true (by first | (with_reducible assumption) | assumption)
                obtain ⟨ad151, e151, hx151_0⟩ := Kd.at_string HR1.out x5_1 p151 q151
                cases e151
                replace p151 := eq_true p151
                replace q151 := eq_true q151
                go_wp2
                repeat (go_quiet (fail); try go_wp2)
                go_ret
                exact ⟨by first | rfl | (simp; done) | (simp [*]; done), by repeat (first | exact Drawn0.refl _ | apply Drawn0.step)⟩
            · rw [if_neg c6] at H
              exact absurd H (by simp)
          · rw [if_neg c5] at H
            exact absurd H (by simp)
        · rw [if_neg c4] at H
          have c4b0 : decide (x5_1 < (l0.length : Int)) = false := decide_eq_false c4
          clear c4
          obtain rfl := Option.some.inj H
          go_wp2
          repeat (go_quiet (fail); try go_wp2)
          go_ret
          exact ⟨by first | rfl | (simp; done) | (simp [*]; done), by repeat (first | exact Drawn0.refl _ | apply Drawn0.step)⟩
  · rw [if_neg c3] at H
    have c3b0 : ((l0.length : Int) == (l1.length : Int)) = false := beq_eq_false_iff_ne.mpr c3
    have c3b1 : ((l0.length : Int) != (l1.length : Int)) = true := bne_iff_ne.mpr c3
    have c3b2 : (l0.length == l1.length) = false := by first | simpa using c3 | (simp at c3 ⊢; omega)
    obtain rfl := Option.some.inj H
    go_enter Try.func12, Try.ntmps12
    go_wp2
    repeat (go_quiet (fail); try go_wp2)
    go_ret
    exact ⟨by first | rfl | (simp; done) | (simp [*]; done), by repeat (first | exact Drawn0.refl _ | apply Drawn0.step)⟩

/-! ### cmp_isNaN_string: function 81 -/
def cmp_isNaN_string.f (a0 : ByteArray) : Option (Bool) := some (a0.toList != a0.toList)
set_option maxHeartbeats 8000000 in
set_option maxRecDepth 100000 in
theorem cmp_isNaN_string.calls (a0 : ByteArray) (r : Bool) (w : World) (h : cmp_isNaN_string.f a0 = some r) :
    Calls Try.prog 81 #[.string a0] w fun e w' => e = .returned (.bool r) ∧ Drawn0 w w' := by
  have H : (some (a0.toList != a0.toList)) = some r := h
  clear h
  obtain rfl := Option.some.inj H
  go_enter Try.func81, Try.ntmps81
  go_wp2
  go_ret
  exact ⟨by first | rfl | (simp; done) | (simp [*]; done), by repeat (first | exact Drawn0.refl _ | apply Drawn0.step)⟩

/-! ### cmp_Less_string: function 60 -/
def cmp_Less_string.f (a0 : ByteArray) (a1 : ByteArray) : Option (Bool) := (cmp_isNaN_string.f a0).bind fun t152 => (if t152 = true then ((cmp_isNaN_string.f a1).bind fun t153 => (if t153 = true then (some (Op.bytesLess a0.toList a1.toList)) else (some true))) else (some (Op.bytesLess a0.toList a1.toList)))
set_option maxHeartbeats 8000000 in
set_option maxRecDepth 100000 in
theorem cmp_Less_string.calls (a0 : ByteArray) (a1 : ByteArray) (r : Bool) (w : World) (h : cmp_Less_string.f a0 a1 = some r) :
    Calls Try.prog 60 #[.string a0, .string a1] w fun e w' => e = .returned (.bool r) ∧ Drawn0 w w' := by
  have H : ((cmp_isNaN_string.f a0).bind fun t152 => (if t152 = true then ((cmp_isNaN_string.f a1).bind fun t153 => (if t153 = true then (some (Op.bytesLess a0.toList a1.toList)) else (some true))) else (some (Op.bytesLess a0.toList a1.toList)))) = some r := h
  clear h
  replace H := Option.bind_eq_some_iff.mp H
  obtain ⟨t152, A30, H⟩ := H
  replace H : (if t152 = true then ((cmp_isNaN_string.f a1).bind fun t153 => (if t153 = true then (some (Op.bytesLess a0.toList a1.toList)) else (some true))) else (some (Op.bytesLess a0.toList a1.toList))) = some r := H
  have A3 := Aside0.mk A30
  clear A30
  by_cases c4 : t152 = true
  · subst c4
    have H1 : ((cmp_isNaN_string.f a1).bind fun t153 => (if t153 = true then (some (Op.bytesLess a0.toList a1.toList)) else (some true))) = some r := by rw [if_pos rfl] at H; exact H
    clear H
    have H := H1
    clear H1
    replace H := Option.bind_eq_some_iff.mp H
    obtain ⟨t153, A50, H⟩ := H
    replace H : (if t153 = true then (some (Op.bytesLess a0.toList a1.toList)) else (some true)) = some r := H
    have A5 := Aside0.mk A50
    clear A50
    by_cases c6 : t153 = true
    · subst c6
      have H1 : (some (Op.bytesLess a0.toList a1.toList)) = some r := by rw [if_pos rfl] at H; exact H
      clear H
      have H := H1
      clear H1
      obtain rfl := Option.some.inj H
      go_enter Try.func60, Try.ntmps60
      go_wp2_with (first | ((with_reducible refine gate_callee (f := 81) rfl ?_); refine goesL_ (some 6) rfl rfl Try.func81 (by kernel_rfl) rfl #[.string a0] rfl (by (try simp only [List.map_toArray, List.map_cons, List.map_nil]); first | done | rfl | (simp only [List.length_drop, List.length_take]; rfl)) ?_; (with_reducible refine (cmp_isNaN_string.calls a0 true _ A3.out).mono ?_); rintro e w' ⟨rfl, ⟨nd, rfl⟩⟩; refine ⟨_, rfl, ?_⟩) | (go_at_call 81; (with_reducible refine (cmp_isNaN_string.calls a1 true _ A5.out).mono ?_); rintro e w' ⟨rfl, ⟨nd, rfl⟩⟩))
      go_ret
      exact ⟨by first | rfl | (simp; done) | (simp [*]; done), by repeat (first | exact Drawn0.refl _ | apply Drawn0.step)⟩
    · replace c6 := Bool.eq_false_iff.mpr c6
      subst c6
      have H1 : (some true) = some r := by rw [if_neg (show ¬ (false = true) by decide)] at H; exact H
      clear H
      have H := H1
      clear H1
      obtain rfl := Option.some.inj H
      go_enter Try.func60, Try.ntmps60
      go_wp2_with (first | ((with_reducible refine gate_callee (f := 81) rfl ?_); refine goesL_ (some 6) rfl rfl Try.func81 (by kernel_rfl) rfl #[.string a0] rfl (by (try simp only [List.map_toArray, List.map_cons, List.map_nil]); first | done | rfl | (simp only [List.length_drop, List.length_take]; rfl)) ?_; (with_reducible refine (cmp_isNaN_string.calls a0 true _ A3.out).mono ?_); rintro e w' ⟨rfl, ⟨nd, rfl⟩⟩; refine ⟨_, rfl, ?_⟩) | (go_at_call 81; (with_reducible refine (cmp_isNaN_string.calls a1 false _ A5.out).mono ?_); rintro e w' ⟨rfl, ⟨nd, rfl⟩⟩))
      go_ret
      exact ⟨by first | rfl | (simp; done) | (simp [*]; done), by repeat (first | exact Drawn0.refl _ | apply Drawn0.step)⟩
  · replace c4 := Bool.eq_false_iff.mpr c4
    subst c4
    have H1 : (some (Op.bytesLess a0.toList a1.toList)) = some r := by rw [if_neg (show ¬ (false = true) by decide)] at H; exact H
    clear H
    have H := H1
    clear H1
    obtain rfl := Option.some.inj H
    go_enter Try.func60, Try.ntmps60
    go_wp2_with (first | ((with_reducible refine gate_callee (f := 81) rfl ?_); refine goesL_ (some 6) rfl rfl Try.func81 (by kernel_rfl) rfl #[.string a0] rfl (by (try simp only [List.map_toArray, List.map_cons, List.map_nil]); first | done | rfl | (simp only [List.length_drop, List.length_take]; rfl)) ?_; (with_reducible refine (cmp_isNaN_string.calls a0 false _ A3.out).mono ?_); rintro e w' ⟨rfl, ⟨nd, rfl⟩⟩; refine ⟨_, rfl, ?_⟩))
    go_ret
    exact ⟨by first | rfl | (simp; done) | (simp [*]; done), by repeat (first | exact Drawn0.refl _ | apply Drawn0.step)⟩

/-! ### slices_isNaN_string: function 61 -/
def slices_isNaN_string.f (a0 : ByteArray) : Option (Bool) := some (a0.toList != a0.toList)
set_option maxHeartbeats 8000000 in
set_option maxRecDepth 100000 in
theorem slices_isNaN_string.calls (a0 : ByteArray) (r : Bool) (w : World) (h : slices_isNaN_string.f a0 = some r) :
    Calls Try.prog 61 #[.string a0] w fun e w' => e = .returned (.bool r) ∧ Drawn0 w w' := by
  have H : (some (a0.toList != a0.toList)) = some r := h
  clear h
  obtain rfl := Option.some.inj H
  go_enter Try.func61, Try.ntmps61
  go_wp2
  go_ret
  exact ⟨by first | rfl | (simp; done) | (simp [*]; done), by repeat (first | exact Drawn0.refl _ | apply Drawn0.step)⟩

/-! ### slices_BinarySearch_string_string: function 53 -/
def slices_BinarySearch_string_string.l0 : Nat → List ByteArray → ByteArray → Int → Int → Int → Option (Int × Bool)
  | 0, _, _, _, _, _ => none
  | k + 1, x0, x1, x6, x7, x8 => if x7 < x8 then (if 0 ≤ (wrap64 ((IntKind.u64.wrap (wrap64 (x7 + x8))) / 2)) then (if (wrap64 ((IntKind.u64.wrap (wrap64 (x7 + x8))) / 2)) < (x0.length : Int) then ((cmp_Less_string.f (rdOf ByteArray.empty x0 (wrap64 ((IntKind.u64.wrap (wrap64 (x7 + x8))) / 2))) x1).bind fun t155 => (if t155 = true then (slices_BinarySearch_string_string.l0 k x0 x1 x6 (wrap64 ((wrap64 ((IntKind.u64.wrap (wrap64 (x7 + x8))) / 2)) + 1)) x8) else (slices_BinarySearch_string_string.l0 k x0 x1 x6 x7 (wrap64 ((IntKind.u64.wrap (wrap64 (x7 + x8))) / 2))))) else (none)) else (none)) else (if x7 < x6 then (if 0 ≤ x7 then (if x7 < (x0.length : Int) then (if (rdOf ByteArray.empty x0 x7).toList = x1.toList then (some (x7, true)) else ((slices_isNaN_string.f (rdOf ByteArray.empty x0 x7)).bind fun t158 => (if t158 = true then ((slices_isNaN_string.f x1).bind fun t159 => (some (x7, t159))) else (some (x7, false))))) else (none)) else (none)) else (some (x7, false)))
def slices_BinarySearch_string_string.f (k : Nat) (l0 : List ByteArray) (a1 : ByteArray) : Option (Int × Bool) := slices_BinarySearch_string_string.l0 k l0 a1 (l0.length : Int) 0 (l0.length : Int)
theorem slices_BinarySearch_string_string.mono_l : ∀ k, (∀ y0 y1 y2 y3 y4, LeO (slices_BinarySearch_string_string.l0 k y0 y1 y2 y3 y4) (slices_BinarySearch_string_string.l0 (k + 1) y0 y1 y2 y3 y4))
  | 0 => fun _ _ _ _ _ r h => by simp [slices_BinarySearch_string_string.l0] at h
  | k + 1 => by
    have ih0 := slices_BinarySearch_string_string.mono_l k
    · intro y0 y1 y2 y3 y4
      unfold slices_BinarySearch_string_string.l0
      repeat' first
      | (with_reducible exact ih0 _ _ _ _ _)
      | (with_reducible exact LeO.refl _)
      | (with_reducible exact LeO.none _)
      | (with_reducible refine LeO.ite ?_ ?_)
      | (with_reducible refine LeO.bind ?_ (fun _ => ?_))
      | exact ih0 _ _ _ _ _
      | exact LeO.none _
      | refine LeO.ite ?_ ?_
      | refine LeO.bind ?_ (fun _ => ?_)
theorem slices_BinarySearch_string_string.mono : ∀ a0 a1 k, LeO (slices_BinarySearch_string_string.f k a0 a1) (slices_BinarySearch_string_string.f (k + 1) a0 a1) := by
  intro a0 a1 k
  have ih0 := slices_BinarySearch_string_string.mono_l k
  unfold slices_BinarySearch_string_string.f
  repeat' first
      | (with_reducible exact ih0 _ _ _ _ _)
      | (with_reducible exact LeO.refl _)
      | (with_reducible exact LeO.none _)
      | (with_reducible refine LeO.ite ?_ ?_)
      | (with_reducible refine LeO.bind ?_ (fun _ => ?_))
      | exact ih0 _ _ _ _ _
      | exact LeO.none _
      | refine LeO.ite ?_ ?_
      | refine LeO.bind ?_ (fun _ => ?_)
set_option maxHeartbeats 8000000 in
set_option maxRecDepth 100000 in
theorem slices_BinarySearch_string_string.calls (k : Nat) (A0 : Option Addr) (c0 : Nat) (l0 : List ByteArray) (a1 : ByteArray) (r1 : Int) (r2 : Bool) (w : World) (hr0 : Kd.C Kd.string w A0 l0.length l0) (hc0 : l0.length ≤ c0) (h : slices_BinarySearch_string_string.f k l0 a1 = some (r1, r2)) :
    Calls Try.prog 53 #[.slice A0 l0.length c0, .string a1] w fun e w' => e = .returned (.tuple #[.int .i64 r1, .bool r2]) ∧ Drawn0 w w' := by
  have HR0 := Aside0.mk hr0
  have HC0 := Aside0.mk hc0
  clear hr0 hc0
  have H : (slices_BinarySearch_string_string.l0 k l0 a1 (l0.length : Int) 0 (l0.length : Int)) = some (r1, r2) := h
  clear h
  have H' := Aside0.mk H
  clear H
  go_enter Try.func53, Try.ntmps53
  go_wp2
  go_loopg [7, 8] k (fun kq v7 v8 w' => ∃ (x7_1 : Int) (x8_1 : Int), v7 = .int .i64 x7_1 ∧ v8 = .int .i64 x8_1 ∧ Aside0 (slices_BinarySearch_string_string.l0 kq l0 a1 (l0.length : Int) x7_1 x8_1 = some (r1, r2)) ∧ Aside0 (kq ≤ k) ∧ Drawn0 w w')
  case atStart => exact ⟨(0), ((l0.length : Int)), (by first | rfl | (simp; done) | (simp [*]; done)), (by first | rfl | (simp; done) | (simp [*]; done)), H', ⟨Nat.le_refl _⟩, by repeat (first | exact Drawn0.refl _ | apply Drawn0.step)⟩
  case round =>
    clear H'
    try clear p2
    obtain ⟨x7_1, x8_1, rfl, rfl, HA, HK1, ⟨m1, rfl⟩⟩ := hrel
    cases gk with
    | zero => exact absurd HA.out (by simp [slices_BinarySearch_string_string.l0])
    | succ k1 =>
      have H := HA.out
      clear HA
      simp only [slices_BinarySearch_string_string.l0] at H
      by_cases c3 : x7_1 < x8_1
      · rw [if_pos c3] at H
        have c3b0 : decide (x7_1 < x8_1) = true := decide_eq_true c3
        clear c3
        obtain ⟨ji4, hji4⟩ : ∃ j_ : Int, (wrap64 ((IntKind.u64.wrap (wrap64 (x7_1 + x8_1))) / 2)) = j_ := ⟨_, rfl⟩
        replace H : (if 0 ≤ (ji4) then (if (ji4) < (l0.length : Int) then ((cmp_Less_string.f (rdOf ByteArray.empty l0 (ji4)) a1).bind fun t155 => (if t155 = true then (slices_BinarySearch_string_string.l0 k1 l0 a1 (l0.length : Int) (wrap64 ((ji4) + 1)) x8_1) else (slices_BinarySearch_string_string.l0 k1 l0 a1 (l0.length : Int) x7_1 ji4))) else (none)) else (none)) = some (r1, r2) := by first | (rw [hji4] at H; exact H) | (simp only [hji4] at H ⊢; exact H)
        have hji4w : (IntKind.i64.wrap ((IntKind.u64.wrap (wrap64 (x7_1 + x8_1))) / 2)) = ji4 := (i64_w _).trans hji4
        by_cases c5 : 0 ≤ (ji4)
        · rw [if_pos c5] at H
          have c5b0 : decide (0 ≤ (ji4)) = true := decide_eq_true c5
          clear c5
          by_cases c6 : (ji4) < (l0.length : Int)
          · rw [if_pos c6] at H
            have c6b0 : decide ((ji4) < (l0.length : Int)) = true := decide_eq_true c6
            clear c6
            replace H := Option.bind_eq_some_iff.mp H
            obtain ⟨t155, A70, H⟩ := H
            replace H : (if t155 = true then (slices_BinarySearch_string_string.l0 k1 l0 a1 (l0.length : Int) (wrap64 ((ji4) + 1)) x8_1) else (slices_BinarySearch_string_string.l0 k1 l0 a1 (l0.length : Int) x7_1 ji4)) = some (r1, r2) := H
            have A7 := Aside0.mk A70
            clear A70
            by_cases c8 : t155 = true
            · subst c8
              have H1 : (slices_BinarySearch_string_string.l0 k1 l0 a1 (l0.length : Int) (wrap64 ((ji4) + 1)) x8_1) = some (r1, r2) := by rw [if_pos rfl] at H; exact H
              clear H
              have H := H1
              clear H1
              have H' := Aside0.mk H
              clear H
              have p154 : 0 ≤ ((ji4) : Int) := of_decide_eq_true (by first | (with_reducible assumption) | assumption)
              have q154 : (ji4) < (l0.length : Int) := of_decide_eq_true (by first | (with_reducible assumption) | assumption)
              obtain ⟨ad154, e154, hx154_0⟩ := Kd.at_string HR0.out (ji4) p154 q154
              cases e154
              replace p154 := eq_true p154
              replace q154 := eq_true q154
              go_wp2_with (first | ((with_reducible refine gate_callee (f := 60) rfl ?_); refine goesL_ (some 27) rfl rfl Try.func60 (by kernel_rfl) rfl #[.string (rdOf ByteArray.empty l0 (ji4)), .string a1] rfl (by (try simp only [List.map_toArray, List.map_cons, List.map_nil]); first | done | (simp only [hji4]; rfl) | rfl | (simp only [List.length_drop, List.length_take]; rfl)) ?_; (with_reducible refine (cmp_Less_string.calls (rdOf ByteArray.empty l0 (ji4)) a1 true _ A7.out).mono ?_); rintro e w' ⟨rfl, ⟨nd, rfl⟩⟩; refine ⟨_, rfl, ?_⟩))
              go_roundg k1
              case measure => have := HK1.out; omega
              case rel => exact ⟨(wrap64 ((ji4) + 1)), (x8_1), (by first | rfl | (simp; done) | (simp only [← hji4] <;> (first | rfl | simp)) | (simp [*]; done)), (by first | rfl | (simp; done) | (simp [*]; done)), H', ⟨by have := HK1.out; omega⟩, by repeat (first | exact Drawn0.refl _ | apply Drawn0.step)⟩
            · replace c8 := Bool.eq_false_iff.mpr c8
              subst c8
              have H1 : (slices_BinarySearch_string_string.l0 k1 l0 a1 (l0.length : Int) x7_1 ji4) = some (r1, r2) := by rw [if_neg (show ¬ (false = true) by decide)] at H; exact H
              clear H
              have H := H1
              clear H1
              have H' := Aside0.mk H
              clear H
              have p154 : 0 ≤ ((ji4) : Int) := of_decide_eq_true (by first | (with_reducible assumption) | assumption)
              have q154 : (ji4) < (l0.length : Int) := of_decide_eq_true (by first | (with_reducible assumption) | assumption)
              obtain ⟨ad154, e154, hx154_0⟩ := Kd.at_string HR0.out (ji4) p154 q154
              cases e154
              replace p154 := eq_true p154
              replace q154 := eq_true q154
              go_wp2_with (first | ((with_reducible refine gate_callee (f := 60) rfl ?_); refine goesL_ (some 27) rfl rfl Try.func60 (by kernel_rfl) rfl #[.string (rdOf ByteArray.empty l0 (ji4)), .string a1] rfl (by (try simp only [List.map_toArray, List.map_cons, List.map_nil]); first | done | (simp only [hji4]; rfl) | rfl | (simp only [List.length_drop, List.length_take]; rfl)) ?_; (with_reducible refine (cmp_Less_string.calls (rdOf ByteArray.empty l0 (ji4)) a1 false _ A7.out).mono ?_); rintro e w' ⟨rfl, ⟨nd, rfl⟩⟩; refine ⟨_, rfl, ?_⟩))
              go_roundg k1
              case measure => have := HK1.out; omega
              case rel => exact ⟨(x7_1), (ji4), (by first | rfl | (simp; done) | (simp [*]; done)), (by first | rfl | (simp; done) | (simp only [← hji4] <;> (first | rfl | simp)) | (simp [*]; done)), H', ⟨by have := HK1.out; omega⟩, by repeat (first | exact Drawn0.refl _ | apply Drawn0.step)⟩
          · rw [if_neg c6] at H
            exact absurd H (by simp)
        · rw [if_neg c5] at H
          exact absurd H (by simp)
      · rw [if_neg c3] at H
        have c3b0 : decide (x7_1 < x8_1) = false := decide_eq_false c3
        clear c3
        by_cases c9 : x7_1 < (l0.length : Int)
        · rw [if_pos c9] at H
          have c9b0 : decide (x7_1 < (l0.length : Int)) = true := decide_eq_true c9
          clear c9
          by_cases c10 : 0 ≤ x7_1
          · rw [if_pos c10] at H
            have c10b0 : decide (0 ≤ x7_1) = true := decide_eq_true c10
            clear c10
            by_cases c11 : x7_1 < (l0.length : Int)
            · rw [if_pos c11] at H
              have c11b0 : decide (x7_1 < (l0.length : Int)) = true := decide_eq_true c11
              clear c11
              by_cases c12 : (rdOf ByteArray.empty l0 x7_1).toList = a1.toList
              · rw [if_pos c12] at H
                have c12b0 : ((rdOf ByteArray.empty l0 x7_1).toList == a1.toList) = true := beq_iff_eq.mpr c12
                have c12b1 : ((rdOf ByteArray.empty l0 x7_1).toList != a1.toList) = false := bne_eq_false_iff_eq.mpr c12
                clear c12
                simp only [Option.some.injEq, Prod.mk.injEq] at H
                obtain ⟨rfl, rfl⟩ := H
                have p156 : 0 ≤ (x7_1 : Int) := of_decide_eq_true (by first | (with_reducible assumption) | assumption)
                have q156 : x7_1 < (l0.length : Int) := of_decide_eq_true (by first | (with_reducible assumption) | assumption)
                obtain ⟨ad156, e156, hx156_0⟩ := Kd.at_string HR0.out x7_1 p156 q156
                cases e156
                replace p156 := eq_true p156
                replace q156 := eq_true q156
                go_wp2
                go_ret2
                exact ⟨by first | rfl | (simp; done) | (simp [*]; done), by repeat (first | exact Drawn0.refl _ | apply Drawn0.step)⟩
              · rw [if_neg c12] at H
                have c12b0 : ((rdOf ByteArray.empty l0 x7_1).toList == a1.toList) = false := beq_eq_false_iff_ne.mpr c12
                have c12b1 : ((rdOf ByteArray.empty l0 x7_1).toList != a1.toList) = true := bne_iff_ne.mpr c12
                replace H := Option.bind_eq_some_iff.mp H
                obtain ⟨t158, A130, H⟩ := H
                replace H : (if t158 = true then ((slices_isNaN_string.f a1).bind fun t159 => (some (x7_1, t159))) else (some (x7_1, false))) = some (r1, r2) := H
                have A13 := Aside0.mk A130
                clear A130
                by_cases c14 : t158 = true
                · subst c14
                  have H1 : ((slices_isNaN_string.f a1).bind fun t159 => (some (x7_1, t159))) = some (r1, r2) := by rw [if_pos rfl] at H; exact H
                  clear H
                  have H := H1
                  clear H1
                  replace H := Option.bind_eq_some_iff.mp H
                  obtain ⟨t159, A150, H⟩ := H
                  replace H : (some (x7_1, t159)) = some (r1, r2) := H
                  have A15 := Aside0.mk A150
                  clear A150
                  simp only [Option.some.injEq, Prod.mk.injEq] at H
                  obtain ⟨rfl, rfl⟩ := H
                  have p156 : 0 ≤ (x7_1 : Int) := of_decide_eq_true (by first | (with_reducible assumption) | assumption)
                  have q156 : x7_1 < (l0.length : Int) := of_decide_eq_true (by first | (with_reducible assumption) | assumption)
                  obtain ⟨ad156, e156, hx156_0⟩ := Kd.at_string HR0.out x7_1 p156 q156
                  cases e156
                  replace p156 := eq_true p156
                  replace q156 := eq_true q156
                  have p157 : 0 ≤ (x7_1 : Int) := of_decide_eq_true (by first | (with_reducible assumption) | assumption)
                  have q157 : x7_1 < (l0.length : Int) := of_decide_eq_true (by first | (with_reducible assumption) | assumption)
                  obtain ⟨ad157, e157, hx157_0⟩ := Kd.at_string HR0.out x7_1 p157 q157
                  obtain rfl : ad156 = ad157 := (by injection e157)
                  replace p157 := eq_true p157
                  replace q157 := eq_true q157
                  go_wp2_with (first | (go_at_call 61; (with_reducible refine (slices_isNaN_string.calls (rdOf ByteArray.empty l0 x7_1) true _ A13.out).mono ?_); rintro e w' ⟨rfl, ⟨nd, rfl⟩⟩) | (go_at_call 61; (with_reducible refine (slices_isNaN_string.calls a1 t159 _ A15.out).mono ?_); rintro e w' ⟨rfl, ⟨nd, rfl⟩⟩))
                  go_ret2
                  exact ⟨by first | rfl | (simp; done) | (simp [*]; done), by repeat (first | exact Drawn0.refl _ | apply Drawn0.step)⟩
                · replace c14 := Bool.eq_false_iff.mpr c14
                  subst c14
                  have H1 : (some (x7_1, false)) = some (r1, r2) := by rw [if_neg (show ¬ (false = true) by decide)] at H; exact H
                  clear H
                  have H := H1
                  clear H1
                  simp only [Option.some.injEq, Prod.mk.injEq] at H
                  obtain ⟨rfl, rfl⟩ := H
                  have p156 : 0 ≤ (x7_1 : Int) := of_decide_eq_true (by first | (with_reducible assumption) | assumption)
                  have q156 : x7_1 < (l0.length : Int) := of_decide_eq_true (by first | (with_reducible assumption) | assumption)
                  obtain ⟨ad156, e156, hx156_0⟩ := Kd.at_string HR0.out x7_1 p156 q156
                  cases e156
                  replace p156 := eq_true p156
                  replace q156 := eq_true q156
                  have p157 : 0 ≤ (x7_1 : Int) := of_decide_eq_true (by first | (with_reducible assumption) | assumption)
                  have q157 : x7_1 < (l0.length : Int) := of_decide_eq_true (by first | (with_reducible assumption) | assumption)
                  obtain ⟨ad157, e157, hx157_0⟩ := Kd.at_string HR0.out x7_1 p157 q157
                  obtain rfl : ad156 = ad157 := (by injection e157)
                  replace p157 := eq_true p157
                  replace q157 := eq_true q157
                  go_wp2_with (first | (go_at_call 61; (with_reducible refine (slices_isNaN_string.calls (rdOf ByteArray.empty l0 x7_1) false _ A13.out).mono ?_); rintro e w' ⟨rfl, ⟨nd, rfl⟩⟩))
                  go_ret2
                  exact ⟨by first | rfl | (simp; done) | (simp [*]; done), by repeat (first | exact Drawn0.refl _ | apply Drawn0.step)⟩
            · rw [if_neg c11] at H
              exact absurd H (by simp)
          · rw [if_neg c10] at H
            exact absurd H (by simp)
        · rw [if_neg c9] at H
          have c9b0 : decide (x7_1 < (l0.length : Int)) = false := decide_eq_false c9
          clear c9
          simp only [Option.some.injEq, Prod.mk.injEq] at H
          obtain ⟨rfl, rfl⟩ := H
          go_wp2
          go_ret2
          exact ⟨by first | rfl | (simp; done) | (simp [*]; done), by repeat (first | exact Drawn0.refl _ | apply Drawn0.step)⟩

/-! ### keys_has: function 38 -/
def keys_has.f (k : Nat) (l0 : List ByteArray) (a1 : ByteArray) : Option (Bool) := (slices_BinarySearch_string_string.f k l0 a1).bind fun bt160 => (some bt160.2)
theorem keys_has.mono : ∀ a0 a1 k, LeO (keys_has.f k a0 a1) (keys_has.f (k + 1) a0 a1) := by
  intro a0 a1 k
  unfold keys_has.f
  repeat' first
      | (with_reducible exact slices_BinarySearch_string_string.mono _ _ _)
      | (with_reducible exact LeO.refl _)
      | (with_reducible exact LeO.none _)
      | (with_reducible refine LeO.ite ?_ ?_)
      | (with_reducible refine LeO.bind ?_ (fun _ => ?_))
      | exact slices_BinarySearch_string_string.mono _ _ _
      | exact LeO.none _
      | refine LeO.ite ?_ ?_
      | refine LeO.bind ?_ (fun _ => ?_)
set_option maxHeartbeats 8000000 in
set_option maxRecDepth 100000 in
theorem keys_has.calls (k : Nat) (A0 : Option Addr) (c0 : Nat) (l0 : List ByteArray) (a1 : ByteArray) (r : Bool) (w : World) (hr0 : Kd.C Kd.string w A0 l0.length l0) (hc0 : l0.length ≤ c0) (h : keys_has.f k l0 a1 = some r) :
    Calls Try.prog 38 #[.slice A0 l0.length c0, .string a1] w fun e w' => e = .returned (.bool r) ∧ Drawn0 w w' := by
  have HR0 := Aside0.mk hr0
  have HC0 := Aside0.mk hc0
  clear hr0 hc0
  have H : ((slices_BinarySearch_string_string.f k l0 a1).bind fun bt160 => (some bt160.2)) = some r := h
  clear h
  replace H := Option.bind_eq_some_iff.mp H
  obtain ⟨⟨t160, t161⟩, A30, H⟩ := H
  replace H : (some t161) = some r := H
  have A3 := Aside0.mk A30
  clear A30
  obtain rfl := Option.some.inj H
  go_enter Try.func38, Try.ntmps38
  go_wp2_with (first | ((with_reducible refine gate_callee (f := 53) rfl ?_); refine goesL_ (some 10) rfl rfl Try.func53 (by kernel_rfl) rfl #[.slice A0 l0.length c0, .string a1] rfl (by (try simp only [List.map_toArray, List.map_cons, List.map_nil]); first | done | rfl | (simp only [List.length_drop, List.length_take]; rfl)) ?_; (with_reducible refine (slices_BinarySearch_string_string.calls k _ _ l0 a1 t160 t161 _ ?side1 ?side2 A3.out).mono ?_); (case side1 => repeat (first | exact HR0.out | (with_reducible refine Kd.C_alloc ?_ _) | (with_reducible refine Kd.C_drewN ?_ _) | (with_reducible refine Kd.C_drew ?_))); (case side2 => exact HC0.out); rintro e w' ⟨rfl, ⟨nd, rfl⟩⟩; refine ⟨_, rfl, ?_⟩))
  go_ret
  exact ⟨by first | rfl | (simp; done) | (simp [*]; done), by repeat (first | exact Drawn0.refl _ | apply Drawn0.step)⟩

/-! ### keys_Has: function 17 -/
def keys_Has.f (k : Nat) (l0 : List ByteArray) (a1 : ByteArray) : Option (Bool) := (keys_Rising.f k l0).bind fun t162 => (if t162 = true then ((keys_has.f k l0 a1).bind fun t163 => (some t163)) else (some false))
theorem keys_Has.mono : ∀ a0 a1 k, LeO (keys_Has.f k a0 a1) (keys_Has.f (k + 1) a0 a1) := by
  intro a0 a1 k
  unfold keys_Has.f
  repeat' first
      | (with_reducible exact keys_Rising.mono _ _)
      | (with_reducible exact keys_has.mono _ _ _)
      | (with_reducible exact LeO.refl _)
      | (with_reducible exact LeO.none _)
      | (with_reducible refine LeO.ite ?_ ?_)
      | (with_reducible refine LeO.bind ?_ (fun _ => ?_))
      | exact keys_Rising.mono _ _
      | exact keys_has.mono _ _ _
      | exact LeO.none _
      | refine LeO.ite ?_ ?_
      | refine LeO.bind ?_ (fun _ => ?_)
set_option maxHeartbeats 8000000 in
set_option maxRecDepth 100000 in
theorem keys_Has.calls (k : Nat) (A0 : Option Addr) (c0 : Nat) (l0 : List ByteArray) (a1 : ByteArray) (r : Bool) (w : World) (hr0 : Kd.C Kd.string w A0 l0.length l0) (hc0 : l0.length ≤ c0) (h : keys_Has.f k l0 a1 = some r) :
    Calls Try.prog 17 #[.slice A0 l0.length c0, .string a1] w fun e w' => e = .returned (.bool r) ∧ Drawn0 w w' := by
  have HR0 := Aside0.mk hr0
  have HC0 := Aside0.mk hc0
  clear hr0 hc0
  have H : ((keys_Rising.f k l0).bind fun t162 => (if t162 = true then ((keys_has.f k l0 a1).bind fun t163 => (some t163)) else (some false))) = some r := h
  clear h
  replace H := Option.bind_eq_some_iff.mp H
  obtain ⟨t162, A30, H⟩ := H
  replace H : (if t162 = true then ((keys_has.f k l0 a1).bind fun t163 => (some t163)) else (some false)) = some r := H
  have A3 := Aside0.mk A30
  clear A30
  by_cases c4 : t162 = true
  · subst c4
    have H1 : ((keys_has.f k l0 a1).bind fun t163 => (some t163)) = some r := by rw [if_pos rfl] at H; exact H
    clear H
    have H := H1
    clear H1
    replace H := Option.bind_eq_some_iff.mp H
    obtain ⟨t163, A50, H⟩ := H
    replace H : (some t163) = some r := H
    have A5 := Aside0.mk A50
    clear A50
    obtain rfl := Option.some.inj H
    go_enter Try.func17, Try.ntmps17
    go_wp2_with (first | ((with_reducible refine gate_callee (f := 15) rfl ?_); refine goesL_ (some 6) rfl rfl Try.func15 (by kernel_rfl) rfl #[.slice A0 l0.length c0] rfl (by (try simp only [List.map_toArray, List.map_cons, List.map_nil]); first | done | rfl | (simp only [List.length_drop, List.length_take]; rfl)) ?_; (with_reducible refine (keys_Rising.calls k _ _ l0 true _ ?side1 ?side2 A3.out).mono ?_); (case side1 => repeat (first | exact HR0.out | (with_reducible refine Kd.C_alloc ?_ _) | (with_reducible refine Kd.C_drewN ?_ _) | (with_reducible refine Kd.C_drew ?_))); (case side2 => exact HC0.out); rintro e w' ⟨rfl, ⟨nd, rfl⟩⟩; refine ⟨_, rfl, ?_⟩) | (go_at_call 38; (with_reducible refine (keys_has.calls k _ _ l0 a1 t163 _ ?side1 ?side2 A5.out).mono ?_); (case side1 => repeat (first | exact HR0.out | (with_reducible refine Kd.C_alloc ?_ _) | (with_reducible refine Kd.C_drewN ?_ _) | (with_reducible refine Kd.C_drew ?_))); (case side2 => exact HC0.out); rintro e w' ⟨rfl, ⟨nd, rfl⟩⟩))
    go_ret
    exact ⟨by first | rfl | (simp; done) | (simp [*]; done), by repeat (first | exact Drawn0.refl _ | apply Drawn0.step)⟩
  · replace c4 := Bool.eq_false_iff.mpr c4
    subst c4
    have H1 : (some false) = some r := by rw [if_neg (show ¬ (false = true) by decide)] at H; exact H
    clear H
    have H := H1
    clear H1
    obtain rfl := Option.some.inj H
    go_enter Try.func17, Try.ntmps17
    go_wp2_with (first | ((with_reducible refine gate_callee (f := 15) rfl ?_); refine goesL_ (some 6) rfl rfl Try.func15 (by kernel_rfl) rfl #[.slice A0 l0.length c0] rfl (by (try simp only [List.map_toArray, List.map_cons, List.map_nil]); first | done | rfl | (simp only [List.length_drop, List.length_take]; rfl)) ?_; (with_reducible refine (keys_Rising.calls k _ _ l0 false _ ?side1 ?side2 A3.out).mono ?_); (case side1 => repeat (first | exact HR0.out | (with_reducible refine Kd.C_alloc ?_ _) | (with_reducible refine Kd.C_drewN ?_ _) | (with_reducible refine Kd.C_drew ?_))); (case side2 => exact HC0.out); rintro e w' ⟨rfl, ⟨nd, rfl⟩⟩; refine ⟨_, rfl, ?_⟩))
    go_ret
    exact ⟨by first | rfl | (simp; done) | (simp [*]; done), by repeat (first | exact Drawn0.refl _ | apply Drawn0.step)⟩

/-! ### keys_some: function 42 -/
mutual
def keys_some.j0 : Nat → List ByteArray → List ByteArray → Bool → Bool → Option (List ByteArray × Int)
  | 0, _, _, _, _ => none
  | k + 1, x0, x1, x2, x18 => if x18 = true then (some (([] : List ByteArray), 40)) else (keys_some.l0 k x1 x2 ([] : List ByteArray) x0 (x0.length : Int) 0)
def keys_some.l0 : Nat → List ByteArray → Bool → List ByteArray → List ByteArray → Int → Int → Option (List ByteArray × Int)
  | 0, _, _, _, _, _, _ => none
  | k + 1, x1, x2, x8, x19, x20, x21 => if x21 < x20 then (if 0 ≤ x21 then (if x21 < (x19.length : Int) then ((keys_has.f k x1 (rdOf ByteArray.empty x19 x21)).bind fun t179 => (if (t179 == x2) = true then (if x8.length < 8796093022208 then (keys_some.l0 k x1 x2 (x8 ++ [rdOf ByteArray.empty x19 x21]) x19 x20 (wrap64 (x21 + 1))) else (none)) else (keys_some.l0 k x1 x2 x8 x19 x20 (wrap64 (x21 + 1))))) else (none)) else (none)) else (some (x8, 0))
end
def keys_some.f (k : Nat) (l0 : List ByteArray) (l1 : List ByteArray) (a2 : Bool) : Option (List ByteArray × Int) := (keys_Rising.f k l0).bind fun t176 => (if t176 = true then ((keys_Rising.f k l1).bind fun t177 => (keys_some.j0 k l0 l1 a2 (!t177))) else (keys_some.j0 k l0 l1 a2 true))
theorem keys_some.mono_l : ∀ k, (∀ y0 y1 y2 y3, LeO (keys_some.j0 k y0 y1 y2 y3) (keys_some.j0 (k + 1) y0 y1 y2 y3)) ∧ (∀ y0 y1 y2 y3 y4 y5, LeO (keys_some.l0 k y0 y1 y2 y3 y4 y5) (keys_some.l0 (k + 1) y0 y1 y2 y3 y4 y5))
  | 0 => ⟨fun _ _ _ _ r h => by simp [keys_some.j0] at h, fun _ _ _ _ _ _ r h => by simp [keys_some.l0] at h⟩
  | k + 1 => by
    obtain ⟨ih0, ih1⟩ := keys_some.mono_l k
    refine ⟨?_, ?_⟩
    · intro y0 y1 y2 y3
      unfold keys_some.j0
      repeat' first
      | (with_reducible exact ih0 _ _ _ _)
      | (with_reducible exact ih1 _ _ _ _ _ _)
      | (with_reducible exact keys_Rising.mono _ _)
      | (with_reducible exact keys_has.mono _ _ _)
      | (with_reducible exact LeO.refl _)
      | (with_reducible exact LeO.none _)
      | (with_reducible refine LeO.ite ?_ ?_)
      | (with_reducible refine LeO.bind ?_ (fun _ => ?_))
      | exact ih0 _ _ _ _
      | exact ih1 _ _ _ _ _ _
      | exact keys_Rising.mono _ _
      | exact keys_has.mono _ _ _
      | exact LeO.none _
      | refine LeO.ite ?_ ?_
      | refine LeO.bind ?_ (fun _ => ?_)
    · intro y0 y1 y2 y3 y4 y5
      unfold keys_some.l0
      repeat' first
      | (with_reducible exact ih0 _ _ _ _)
      | (with_reducible exact ih1 _ _ _ _ _ _)
      | (with_reducible exact keys_Rising.mono _ _)
      | (with_reducible exact keys_has.mono _ _ _)
      | (with_reducible exact LeO.refl _)
      | (with_reducible exact LeO.none _)
      | (with_reducible refine LeO.ite ?_ ?_)
      | (with_reducible refine LeO.bind ?_ (fun _ => ?_))
      | exact ih0 _ _ _ _
      | exact ih1 _ _ _ _ _ _
      | exact keys_Rising.mono _ _
      | exact keys_has.mono _ _ _
      | exact LeO.none _
      | refine LeO.ite ?_ ?_
      | refine LeO.bind ?_ (fun _ => ?_)
theorem keys_some.mono : ∀ a0 a1 a2 k, LeO (keys_some.f k a0 a1 a2) (keys_some.f (k + 1) a0 a1 a2) := by
  intro a0 a1 a2 k
  obtain ⟨ih0, ih1⟩ := keys_some.mono_l k
  unfold keys_some.f
  repeat' first
      | (with_reducible exact ih0 _ _ _ _)
      | (with_reducible exact ih1 _ _ _ _ _ _)
      | (with_reducible exact keys_Rising.mono _ _)
      | (with_reducible exact keys_has.mono _ _ _)
      | (with_reducible exact LeO.refl _)
      | (with_reducible exact LeO.none _)
      | (with_reducible refine LeO.ite ?_ ?_)
      | (with_reducible refine LeO.bind ?_ (fun _ => ?_))
      | exact ih0 _ _ _ _
      | exact ih1 _ _ _ _ _ _
      | exact keys_Rising.mono _ _
      | exact keys_has.mono _ _ _
      | exact LeO.none _
      | refine LeO.ite ?_ ?_
      | refine LeO.bind ?_ (fun _ => ?_)
set_option maxHeartbeats 8000000 in
set_option maxRecDepth 100000 in
theorem keys_some.calls (k : Nat) (A0 : Option Addr) (c0 : Nat) (l0 : List ByteArray) (A1 : Option Addr) (c1 : Nat) (l1 : List ByteArray) (a2 : Bool) (r1 : List ByteArray) (r2 : Int) (w : World) (hr0 : Kd.C Kd.string w A0 l0.length l0) (hc0 : l0.length ≤ c0) (hr1 : Kd.C Kd.string w A1 l1.length l1) (hc1 : l1.length ≤ c1) (h : keys_some.f k l0 l1 a2 = some (r1, r2)) :
    Calls Try.prog 42 #[.slice A0 l0.length c0, .slice A1 l1.length c1, .bool a2] w fun e w' => ∃ v0_ : Value, e = .returned (.tuple #[v0_, .int .i64 r2]) ∧ Kd.R Kd.string 9 w' w.heap.size (fun _ => True) v0_ r1 ∧ Below w.heap.size w w' := by
  have HR0 := Aside0.mk hr0
  have HC0 := Aside0.mk hc0
  clear hr0 hc0
  have HR1 := Aside0.mk hr1
  have HC1 := Aside0.mk hc1
  clear hr1 hc1
  have HB := Aside0.mk (Below.refl w.heap.size w)
  have H : ((keys_Rising.f k l0).bind fun t176 => (if t176 = true then ((keys_Rising.f k l1).bind fun t177 => (keys_some.j0 k l0 l1 a2 (!t177))) else (keys_some.j0 k l0 l1 a2 true))) = some (r1, r2) := h
  clear h
  have HC4 := Aside0.mk H
  clear H
  go_enter Try.func42, Try.ntmps42
  go_upto_region 1 with (fail)
  go_cut [18] (fun v18 wc => ∃ (kq : Nat) (x18_3 : Bool), v18 = .bool x18_3 ∧ Aside0 (keys_some.j0 kq l0 l1 a2 x18_3 = some (r1, r2)) ∧ Aside0 (kq ≤ k) ∧ Aside0 (Below w.heap.size w wc))
  case first =>
    have H := HC4.out
    clear HC4
    replace H := Option.bind_eq_some_iff.mp H
    obtain ⟨t176, A50, H⟩ := H
    replace H : (if t176 = true then ((keys_Rising.f k l1).bind fun t177 => (keys_some.j0 k l0 l1 a2 (!t177))) else (keys_some.j0 k l0 l1 a2 true)) = some (r1, r2) := H
    have A5 := Aside0.mk A50
    clear A50
    by_cases c6 : t176 = true
    · subst c6
      have H1 : ((keys_Rising.f k l1).bind fun t177 => (keys_some.j0 k l0 l1 a2 (!t177))) = some (r1, r2) := by rw [if_pos rfl] at H; exact H
      clear H
      have H := H1
      clear H1
      replace H := Option.bind_eq_some_iff.mp H
      obtain ⟨t177, A70, H⟩ := H
      replace H : (keys_some.j0 k l0 l1 a2 (!t177)) = some (r1, r2) := H
      have A7 := Aside0.mk A70
      clear A70
      have H' := Aside0.mk H
      clear H
      go_wp2_with (first | ((with_reducible refine gate_callee (f := 15) rfl ?_); refine goesL_ (some 12) rfl rfl Try.func15 (by kernel_rfl) rfl #[.slice A0 l0.length c0] rfl (by (try simp only [List.map_toArray, List.map_cons, List.map_nil]); first | done | rfl | (simp only [List.length_drop, List.length_take]; rfl)) ?_; (with_reducible refine (keys_Rising.calls k _ _ l0 true _ ?side1 ?side2 A5.out).mono ?_); (case side1 => repeat (first | exact (Kd.C_below HR0.out HB.out) | (with_reducible refine Kd.C_alloc ?_ _) | (with_reducible refine Kd.C_drewN ?_ _) | (with_reducible refine Kd.C_drew ?_))); (case side2 => exact HC0.out); rintro e w' ⟨rfl, ⟨nd, rfl⟩⟩; refine ⟨_, rfl, ?_⟩) | (go_at_call 15; (with_reducible refine (keys_Rising.calls k _ _ l1 t177 _ ?side1 ?side2 A7.out).mono ?_); (case side1 => repeat (first | exact (Kd.C_below HR1.out (by repeat (first | (with_reducible first | exact HB.out | apply below_alloc | apply pw_below_drewN | apply below_drew1) | exact HB.out))) | (with_reducible refine Kd.C_alloc ?_ _) | (with_reducible refine Kd.C_drewN ?_ _) | (with_reducible refine Kd.C_drew ?_))); (case side2 => exact HC1.out); rintro e w' ⟨rfl, ⟨nd, rfl⟩⟩))
      go_meet
      case rel => exact ⟨_, (!t177), (by first | rfl | (simp; done) | (simp [*]; done)), H', ⟨by first | omega | exact Nat.le_refl _⟩, ⟨by repeat (first | (with_reducible first | exact HB.out | apply below_alloc | apply pw_below_drewN | apply below_drew1) | exact HB.out)⟩⟩
    · replace c6 := Bool.eq_false_iff.mpr c6
      subst c6
      have H1 : (keys_some.j0 k l0 l1 a2 true) = some (r1, r2) := by rw [if_neg (show ¬ (false = true) by decide)] at H; exact H
      clear H
      have H := H1
      clear H1
      have H' := Aside0.mk H
      clear H
      go_wp2_with (first | ((with_reducible refine gate_callee (f := 15) rfl ?_); refine goesL_ (some 12) rfl rfl Try.func15 (by kernel_rfl) rfl #[.slice A0 l0.length c0] rfl (by (try simp only [List.map_toArray, List.map_cons, List.map_nil]); first | done | rfl | (simp only [List.length_drop, List.length_take]; rfl)) ?_; (with_reducible refine (keys_Rising.calls k _ _ l0 false _ ?side1 ?side2 A5.out).mono ?_); (case side1 => repeat (first | exact (Kd.C_below HR0.out HB.out) | (with_reducible refine Kd.C_alloc ?_ _) | (with_reducible refine Kd.C_drewN ?_ _) | (with_reducible refine Kd.C_drew ?_))); (case side2 => exact HC0.out); rintro e w' ⟨rfl, ⟨nd, rfl⟩⟩; refine ⟨_, rfl, ?_⟩))
      go_meet
      case rel => exact ⟨_, (true), (by first | rfl | (simp; done) | (simp [*]; done)), H', ⟨by first | omega | exact Nat.le_refl _⟩, ⟨by repeat (first | (with_reducible first | exact HB.out | apply below_alloc | apply pw_below_drewN | apply below_drew1) | exact HB.out)⟩⟩
  case rest =>
    clear HC4
    try clear c1
    try clear p2
    try clear c4
    try clear c6
    obtain ⟨kq, x18_3, rfl, HA, HJ3, HB⟩ := hcut
    cases kq with
    | zero => exact absurd HA.out (by simp [keys_some.j0])
    | succ kj3 =>
      have H := HA.out
      clear HA
      simp only [keys_some.j0] at H
      by_cases c8 : x18_3 = true
      · subst c8
        have H1 : (some (([] : List ByteArray), 40)) = some (r1, r2) := by rw [if_pos rfl] at H; exact H
        clear H
        have H := H1
        clear H1
        simp only [Option.some.injEq, Prod.mk.injEq] at H
        obtain ⟨rfl, rfl⟩ := H
        go_wp2
        go_ret2
        exact ⟨_, by first | rfl | (simp [errW_none, errW_some] <;> rfl) | (simp [*, errW_none, errW_some] <;> rfl), by first | exact Kd.R_nil _ _ _ _ _ | exact Kd.N_nil _ _ _ _ _ | exact Kd.V_nil _ _ _ _ _ | exact Kd.Q_nil _ _ _ _ _ | exact Kd.S_nil _ _ _ _ _, by repeat (first | (with_reducible first | exact HB.out | apply below_alloc | apply pw_below_drewN | apply below_drew1) | exact HB.out)⟩
      · replace c8 := Bool.eq_false_iff.mpr c8
        subst c8
        have H1 : (keys_some.l0 kj3 l1 a2 ([] : List ByteArray) l0 (l0.length : Int) 0) = some (r1, r2) := by rw [if_neg (show ¬ (false = true) by decide)] at H; exact H
        clear H
        have H := H1
        clear H1
        have H' := Aside0.mk H
        clear H
        go_wp2
        go_loopg [8, 21] kj3 (fun kq v8 v21 w' => ∃ (x8_2 : List ByteArray) (x21_2 : Int), v21 = .int .i64 x21_2 ∧ Aside0 (keys_some.l0 kq l1 a2 x8_2 l0 (l0.length : Int) x21_2 = some (r1, r2)) ∧ Aside0 (kq ≤ kj3) ∧ Aside0 (Kd.R Kd.string 9 w' w.heap.size (fun _ => True) v8 x8_2) ∧ Aside0 (Below w.heap.size w w'))
        case atStart => exact ⟨(([] : List ByteArray)), (0), (by first | rfl | (simp; done) | (simp [*]; done)), H', ⟨Nat.le_refl _⟩, ⟨by first | exact Kd.R_nil _ _ _ _ _ | exact Kd.N_nil _ _ _ _ _ | exact Kd.V_nil _ _ _ _ _ | exact Kd.Q_nil _ _ _ _ _ | exact Kd.S_nil _ _ _ _ _⟩, ⟨by repeat (first | (with_reducible first | exact HB.out | apply below_alloc | apply pw_below_drewN | apply below_drew1) | exact HB.out)⟩⟩
        case round =>
          clear H'
          try clear c1
          try clear p2
          try clear c4
          try clear c6
          try clear c8
          try clear p2
          obtain ⟨x8_2, x21_2, rfl, HA, HK2, HO_8, HB⟩ := hrel
          cases gk with
          | zero => exact absurd HA.out (by simp [keys_some.l0])
          | succ k2 =>
            have H := HA.out
            clear HA
            simp only [keys_some.l0] at H
            by_cases c9 : x21_2 < (l0.length : Int)
            · rw [if_pos c9] at H
              have c9b0 : decide (x21_2 < (l0.length : Int)) = true := decide_eq_true c9
              clear c9
              by_cases c10 : 0 ≤ x21_2
              · rw [if_pos c10] at H
                have c10b0 : decide (0 ≤ x21_2) = true := decide_eq_true c10
                clear c10
                by_cases c11 : x21_2 < (l0.length : Int)
                · rw [if_pos c11] at H
                  have c11b0 : decide (x21_2 < (l0.length : Int)) = true := decide_eq_true c11
                  clear c11
                  replace H := Option.bind_eq_some_iff.mp H
                  obtain ⟨t179, A120, H⟩ := H
                  replace H : (if (t179 == a2) = true then (if x8_2.length < 8796093022208 then (keys_some.l0 k2 l1 a2 (x8_2 ++ [rdOf ByteArray.empty l0 x21_2]) l0 (l0.length : Int) (wrap64 (x21_2 + 1))) else (none)) else (keys_some.l0 k2 l1 a2 x8_2 l0 (l0.length : Int) (wrap64 (x21_2 + 1)))) = some (r1, r2) := H
                  have A12 := Aside0.mk A120
                  clear A120
                  by_cases c13 : (t179 == a2) = true
                  · rw [if_pos c13] at H
                    have c13b0 : (t179 == a2) = true := c13
                    (try (have c13b1 : decide (t179 = a2) = true := by simpa using c13))
                    (try (have c13b2 : (t179 == a2) = true := by simpa using c13))
                    clear c13
                    by_cases c14 : x8_2.length < 8796093022208
                    · rw [if_pos c14] at H
                      have LMc14 := Aside0.mk c14
                      clear c14
                      obtain ⟨y180, hy180⟩ : ∃ y_ : List ByteArray, y_ = (x8_2 ++ [rdOf ByteArray.empty l0 x21_2]) := ⟨_, rfl⟩
                      replace H : (keys_some.l0 k2 l1 a2 y180 l0 (l0.length : Int) (wrap64 (x21_2 + 1))) = some (r1, r2) := by first | (rw [hy180]; with_reducible exact H) | (have H2_ := (Option.bind_some _ _).symm.trans H; rw [hy180]; with_reducible exact H2_) | (have H2_ := (Option.bind_some _ _).symm.trans H; with_reducible exact H2_) | with_reducible exact H | (rw [hy180]; exact H) | exact H
                      have Ny180 := Aside0.mk hy180
                      clear hy180
                      have H' := Aside0.mk H
                      clear H
                      have p178 : 0 ≤ (x21_2 : Int) := of_decide_eq_true (by first | (with_reducible assumption) | assumption)
                      have q178 : x21_2 < (l0.length : Int) := of_decide_eq_true (by first | (with_reducible assumption) | assumption)
                      obtain ⟨ad178, e178, hx178_0⟩ := Kd.at_string HR0.out x21_2 p178 q178
                      cases e178
                      replace hx178_0 := (HB.out.cell (World.block_lt_of_cell? w _ hx178_0)).trans hx178_0
                      replace p178 := eq_true p178
                      replace q178 := eq_true q178
                      go_wp2_with (first | ((with_reducible refine gate_callee (f := 38) rfl ?_); refine goesL_ (some 27) rfl rfl Try.func38 (by kernel_rfl) rfl #[.slice A1 l1.length c1, .string (rdOf ByteArray.empty l0 x21_2)] rfl (by (try simp only [List.map_toArray, List.map_cons, List.map_nil]); first | done | rfl | (simp only [List.length_drop, List.length_take]; rfl)) ?_; (with_reducible refine (keys_has.calls k2 _ _ l1 (rdOf ByteArray.empty l0 x21_2) t179 _ ?side1 ?side2 A12.out).mono ?_); (case side1 => repeat (first | exact (Kd.C_below HR1.out HB.out) | (with_reducible refine Kd.C_alloc ?_ _) | (with_reducible refine Kd.C_drewN ?_ _) | (with_reducible refine Kd.C_drew ?_))); (case side2 => exact HC1.out); rintro e w' ⟨rfl, ⟨nd, rfl⟩⟩; refine ⟨_, rfl, ?_⟩) | ((with_reducible refine gate_builtin (b := .append) (xs := #[.tmp 30, .tmp 32]) rfl ?_); at_builtin; refine Kd.R_append Kd.string (w0 := w) w.heap.size rfl (.tmp 30) (.tmp 32) 22 9 (.string ⟨#[]⟩) 16 rfl Try.underlying22 info9 rfl (by decide) (by omega) u8 x8_2 (rdOf ByteArray.empty l0 x21_2) [.string (rdOf ByteArray.empty l0 x21_2)] (fun _ => True) (fun _ => False) rfl rfl ?aP (fun _ hk => hk.elim) ?aF ?aO ?aB ?aS ?aL ?_; (case aP => exact rfl); (case aB => exact (by repeat (first | (with_reducible first | exact HB.out | apply below_alloc | apply pw_below_drewN | apply below_drew1) | exact HB.out))); (case aF => exact (fun _ _ => trivial)); (case aO => exact (by (with_reducible repeat (first | apply Kd.R_alloc | apply Kd.R_drewN | apply Kd.R_drew)); exact HO_8.out)); (case aS => exact (below_size (by repeat (first | (with_reducible first | exact HB.out | apply below_alloc | apply pw_below_drewN | apply below_drew1) | exact HB.out)))); (case aL => have := LMc14.out; omega); intro v181 w15 ho hb hg hat; rw [← Ny180.out] at ho; have n0_ := Aside0.mk (hb); have n1_ := Aside0.mk (ho); clear HB; clear HO_8; have HB := n0_; have HO182 := n1_; clear n0_ n1_; clear ho hb hg hat))
                      go_roundg k2
                      case measure => have := HJ3.out; have := HK2.out; omega
                      case rel => exact ⟨(y180), (wrap64 (x21_2 + 1)), (by first | rfl | (simp; done) | (simp [*]; done)), H', ⟨by have := HJ3.out; have := HK2.out; omega⟩, ⟨by (with_reducible repeat (first | apply Kd.R_alloc | apply Kd.R_drewN | apply Kd.R_drew)); exact HO182.out⟩, ⟨by repeat (first | (with_reducible first | exact HB.out | apply below_alloc | apply pw_below_drewN | apply below_drew1) | exact HB.out)⟩⟩
                    · rw [if_neg c14] at H
                      exact absurd H (by simp)
                  · rw [if_neg c13] at H
                    have c13b0 : (t179 == a2) = false := by simpa using c13
                    (try (have c13b1 : decide (t179 = a2) = false := by simpa using c13))
                    (try (have c13b2 : (t179 == a2) = false := by simpa using c13))
                    (try (have c13b3 : ¬ (t179 = a2) := by simpa using c13))
                    clear c13
                    have H' := Aside0.mk H
                    clear H
                    have p178 : 0 ≤ (x21_2 : Int) := of_decide_eq_true (by first | (with_reducible assumption) | assumption)
                    have q178 : x21_2 < (l0.length : Int) := of_decide_eq_true (by first | (with_reducible assumption) | assumption)
                    obtain ⟨ad178, e178, hx178_0⟩ := Kd.at_string HR0.out x21_2 p178 q178
                    cases e178
                    replace hx178_0 := (HB.out.cell (World.block_lt_of_cell? w _ hx178_0)).trans hx178_0
                    replace p178 := eq_true p178
                    replace q178 := eq_true q178
                    go_wp2_with (first | ((with_reducible refine gate_callee (f := 38) rfl ?_); refine goesL_ (some 27) rfl rfl Try.func38 (by kernel_rfl) rfl #[.slice A1 l1.length c1, .string (rdOf ByteArray.empty l0 x21_2)] rfl (by (try simp only [List.map_toArray, List.map_cons, List.map_nil]); first | done | rfl | (simp only [List.length_drop, List.length_take]; rfl)) ?_; (with_reducible refine (keys_has.calls k2 _ _ l1 (rdOf ByteArray.empty l0 x21_2) t179 _ ?side1 ?side2 A12.out).mono ?_); (case side1 => repeat (first | exact (Kd.C_below HR1.out HB.out) | (with_reducible refine Kd.C_alloc ?_ _) | (with_reducible refine Kd.C_drewN ?_ _) | (with_reducible refine Kd.C_drew ?_))); (case side2 => exact HC1.out); rintro e w' ⟨rfl, ⟨nd, rfl⟩⟩; refine ⟨_, rfl, ?_⟩))
                    go_roundg k2
                    case measure => have := HJ3.out; have := HK2.out; omega
                    case rel => exact ⟨(x8_2), (wrap64 (x21_2 + 1)), (by first | rfl | (simp; done) | (simp [*]; done)), H', ⟨by have := HJ3.out; have := HK2.out; omega⟩, ⟨by (with_reducible repeat (first | apply Kd.R_alloc | apply Kd.R_drewN | apply Kd.R_drew)); exact HO_8.out⟩, ⟨by repeat (first | (with_reducible first | exact HB.out | apply below_alloc | apply pw_below_drewN | apply below_drew1) | exact HB.out)⟩⟩
                · rw [if_neg c11] at H
                  exact absurd H (by simp)
              · rw [if_neg c10] at H
                exact absurd H (by simp)
            · rw [if_neg c9] at H
              have c9b0 : decide (x21_2 < (l0.length : Int)) = false := decide_eq_false c9
              clear c9
              simp only [Option.some.injEq, Prod.mk.injEq] at H
              obtain ⟨rfl, rfl⟩ := H
              go_wp2
              go_ret2
              exact ⟨_, by first | rfl | (simp [errW_none, errW_some] <;> rfl) | (simp [*, errW_none, errW_some] <;> rfl), by (with_reducible repeat (first | apply Kd.R_alloc | apply Kd.R_drewN | apply Kd.R_drew)); exact HO_8.out, by repeat (first | (with_reducible first | exact HB.out | apply below_alloc | apply pw_below_drewN | apply below_drew1) | exact HB.out)⟩

/-! ### keys_Minus: function 23 -/
def keys_Minus.f (k : Nat) (l0 : List ByteArray) (l1 : List ByteArray) : Option (List ByteArray × Int) := (keys_some.f k l0 l1 false).bind fun bt183 => (some (bt183.1, bt183.2))
theorem keys_Minus.mono : ∀ a0 a1 k, LeO (keys_Minus.f k a0 a1) (keys_Minus.f (k + 1) a0 a1) := by
  intro a0 a1 k
  unfold keys_Minus.f
  repeat' first
      | (with_reducible exact keys_some.mono _ _ _ _)
      | (with_reducible exact LeO.refl _)
      | (with_reducible exact LeO.none _)
      | (with_reducible refine LeO.ite ?_ ?_)
      | (with_reducible refine LeO.bind ?_ (fun _ => ?_))
      | exact keys_some.mono _ _ _ _
      | exact LeO.none _
      | refine LeO.ite ?_ ?_
      | refine LeO.bind ?_ (fun _ => ?_)
set_option maxHeartbeats 8000000 in
set_option maxRecDepth 100000 in
theorem keys_Minus.calls (k : Nat) (A0 : Option Addr) (c0 : Nat) (l0 : List ByteArray) (A1 : Option Addr) (c1 : Nat) (l1 : List ByteArray) (r1 : List ByteArray) (r2 : Int) (w : World) (hr0 : Kd.C Kd.string w A0 l0.length l0) (hc0 : l0.length ≤ c0) (hr1 : Kd.C Kd.string w A1 l1.length l1) (hc1 : l1.length ≤ c1) (h : keys_Minus.f k l0 l1 = some (r1, r2)) :
    Calls Try.prog 23 #[.slice A0 l0.length c0, .slice A1 l1.length c1] w fun e w' => ∃ v0_ : Value, e = .returned (.tuple #[v0_, .int .i64 r2]) ∧ Kd.R Kd.string 9 w' w.heap.size (fun _ => True) v0_ r1 ∧ Below w.heap.size w w' := by
  have HR0 := Aside0.mk hr0
  have HC0 := Aside0.mk hc0
  clear hr0 hc0
  have HR1 := Aside0.mk hr1
  have HC1 := Aside0.mk hc1
  clear hr1 hc1
  have HB := Aside0.mk (Below.refl w.heap.size w)
  have H : ((keys_some.f k l0 l1 false).bind fun bt183 => (some (bt183.1, bt183.2))) = some (r1, r2) := h
  clear h
  replace H := Option.bind_eq_some_iff.mp H
  obtain ⟨⟨t183, t184⟩, A30, H⟩ := H
  replace H : (some (t183, t184)) = some (r1, r2) := H
  have A3 := Aside0.mk A30
  clear A30
  simp only [Option.some.injEq, Prod.mk.injEq] at H
  obtain ⟨rfl, rfl⟩ := H
  go_enter Try.func23, Try.ntmps23
  go_wp2_with (first | ((with_reducible refine gate_callee (f := 42) rfl ?_); refine goesL_ (some 8) rfl rfl Try.func42 (by kernel_rfl) rfl #[.slice A0 l0.length c0, .slice A1 l1.length c1, .bool false] rfl (by (try simp only [List.map_toArray, List.map_cons, List.map_nil]); first | done | rfl | (simp only [List.length_drop, List.length_take]; rfl)) ?_; (with_reducible refine (keys_some.calls k _ _ l0 _ _ l1 false t183 t184 _ ?side1 ?side2 ?side3 ?side4 A3.out).mono ?_); (case side1 => repeat (first | exact HR0.out | (with_reducible refine Kd.C_alloc ?_ _) | (with_reducible refine Kd.C_drewN ?_ _) | (with_reducible refine Kd.C_drew ?_))); (case side2 => exact HC0.out); (case side3 => repeat (first | exact HR1.out | (with_reducible refine Kd.C_alloc ?_ _) | (with_reducible refine Kd.C_drewN ?_ _) | (with_reducible refine Kd.C_drew ?_))); (case side4 => exact HC1.out); rintro e w4 ⟨v185, rfl, ho0, hb⟩; refine ⟨_, rfl, ?_⟩; have n0_ := Aside0.mk (Kd.R_lower ho0 (below_size (by repeat (first | (with_reducible first | exact HB.out | apply below_alloc | apply pw_below_drewN | apply below_drew1) | exact HB.out)))); have n1_ := Aside0.mk (below_step (by repeat (first | (with_reducible first | exact HB.out | apply below_alloc | apply pw_below_drewN | apply below_drew1) | exact HB.out)) hb); clear HB; have HO186 := n0_; have HB := n1_; clear n0_ n1_; (try clear hb); (try clear hb2); (try clear hk); (try clear hi); (try clear ho0)))
  go_ret2
  exact ⟨_, by first | rfl | (simp [errW_none, errW_some] <;> rfl) | (simp [*, errW_none, errW_some] <;> rfl), by (with_reducible repeat (first | apply Kd.R_alloc | apply Kd.R_drewN | apply Kd.R_drew)); exact HO186.out, by repeat (first | (with_reducible first | exact HB.out | apply below_alloc | apply pw_below_drewN | apply below_drew1) | exact HB.out)⟩


/-! ### keys_Union: function 19: given by this session -/
-- NEEDS rampart/keys.Minus
def keys_Union.f (k : Nat) (l0 l1 : List ByteArray) : Option (List ByteArray × Int) := (keys_Minus.f k l1 l0).bind fun p => if p.2 = 0 then (if l0.length + p.1.length ≤ 1048576 then some (Hand.sorted (l0 ++ p.1), 0) else none) else some ([], p.2)
theorem keys_Union.mono : ∀ a0 a1 k, LeO (keys_Union.f k a0 a1) (keys_Union.f (k + 1) a0 a1) := fun a0 a1 k => LeO.bind (keys_Minus.mono a1 a0 k) (fun _ => LeO.refl _)
set_option maxHeartbeats 2000000 in
theorem keys_Union.calls (k : Nat) (A0 : Option Addr) (c0 : Nat) (l0 : List ByteArray) (A1 : Option Addr) (c1 : Nat) (l1 : List ByteArray) (r1 : List ByteArray) (r2 : Int) (w : World) (hr0 : Kd.C Kd.string w A0 l0.length l0) (hc0 : l0.length ≤ c0) (hr1 : Kd.C Kd.string w A1 l1.length l1) (hc1 : l1.length ≤ c1) (h : keys_Union.f k l0 l1 = some (r1, r2)) :
    Calls Try.prog 19 #[.slice A0 l0.length c0, .slice A1 l1.length c1] w fun e w' => ∃ v0_ : Value, e = .returned (.tuple #[v0_, .int .i64 r2]) ∧ Kd.R Kd.string 9 w' w.heap.size (fun _ => True) v0_ r1 ∧ Below w.heap.size w w' := by
  obtain ⟨⟨s, x⟩, hp, h⟩ : ∃ p, keys_Minus.f k l1 l0 = some p ∧ (if p.2 = 0 then (if l0.length + p.1.length ≤ 1048576 then some (Hand.sorted (l0 ++ p.1), (0 : Int)) else none) else some ([], p.2)) = some (r1, r2) := by
    unfold keys_Union.f at h
    rcases hm : keys_Minus.f k l1 l0 with _ | p
    · rw [hm] at h; cases h
    · rw [hm] at h; exact ⟨p, rfl, h⟩
  have hmin := fun W h0 h1 => keys_Minus.calls k A1 c1 l1 A0 c0 l0 s x W h1 hc1 h0 hc0 hp
  by_cases hx : x = 0
  · subst hx
    simp only [if_true] at h
    have hlen : l0.length + s.length ≤ 1048576 := by
      rcases Nat.lt_or_ge 1048576 (l0.length + s.length) with h' | h'
      · rw [if_neg (by omega)] at h; cases h
      · exact h'
    rw [if_pos hlen] at h
    obtain ⟨rfl, rfl⟩ : Hand.sorted (l0 ++ s) = r1 ∧ 0 = r2 := by injection h with h; injection h with h1 h2; exact ⟨h1, h2⟩
    replace hmin := Lib.hid hmin
    have HR := Lib.hid hr0
    have HS := Lib.hid hr1
    clear h hp hr0 hr1
    go_enter Try.func19, Try.ntmps19
    go_wp2_with fail
    refine (hmin.out _ HR.out HS.out).mono ?_
    rintro e W ⟨v, rfl, hV, hb⟩
    have hR2 : Hid (Kd.C Kd.string W A0 l0.length l0) := Kd.C_below HR.out hb
    replace hb := Lib.hid hb
    obtain ⟨A2, c2, rfl, hl2, hC2⟩ := Kd.R_reads hV
    replace hC2 := Lib.hid hC2
    clear hV
    go_wp2_with fail
    refine (Hand.clone_any _ _ _ _ (by omega) hR2.out).mono ?_
    rintro e W2 ⟨v2, rfl, hR3, hb2⟩
    have hC3 : Hid (Kd.C Kd.string W2 A2 s.length s) := Kd.C_below hC2.out hb2
    replace hR3 := Lib.hid hR3
    replace hb2 := Lib.hid hb2
    clear hC2 hR2
    go_wp2_with (at_builtin; refine Kd.R_append_row (P := Try.prog) Value.string ByteArray.empty (w0 := W2) W.heap.size rfl (.tmp 18) (.tmp 19) 22 9 (.string ByteArray.empty) 16 rfl Try.underlying22 Hand.info9 rfl (by omega) v2 l0 s A2 s.length c2 (fun _ => True) rfl rfl (fun _ _ => trivial) hR3.out hC3.out (Below.refl _ _) hb2.out.size (by omega) ?_; intro v3 W3 hR4 hb3 _ _; obtain ⟨A4, c4, rfl, hl4, hC4⟩ := Kd.R_reads hR4; replace hC4 := Lib.hid hC4; replace hb3 := Lib.hid hb3; clear hR4)
    refine (Hand.values_any _ _ _ _).mono ?_
    rintro e w1 ⟨rfl, rfl⟩
    have hbw : Below W3.heap.size W3 (W3.alloc (.cells #[.slice A4 (l0 ++ s).length c4] 22)) := (Below.refl _ W3).alloc (Nat.le_refl _) _
    have hstr : Hand.Strs (W3.alloc (.cells #[.slice A4 (l0 ++ s).length c4] 22)).heap.size (W3.alloc (.cells #[.slice A4 (l0 ++ s).length c4] 22)) (.slice A4 (l0 ++ s).length c4) (l0 ++ s) := Hand.strs_of_C (Kd.C_below hC4.out hbw)
    have hcb := (Hand.cell_new W3 (.slice A4 (l0 ++ s).length c4) 22)
    go_wp2_with fail
    rw [List.length_append] at hcb hstr hbw
    refine (Hand.sorted_any W3.heap.size _ (l0 ++ s) (by simp; omega) _ (by simp) hcb hstr).mono ?_
    rintro e w2 ⟨v5, rfl, hR, hb4⟩
    replace hR := Lib.hid hR
    replace hb4 := Lib.hid (hbw.trans (hb4.mono (by simp)))
    clear hbw hstr hcb
    go_wp2
    go_ret2
    have z1 := hb.out.size
    have z2 := hb2.out.size
    have z3 := hb3.out.size
    exact ⟨_, rfl, Kd.R_lower hR.out (by simp; omega), hb.out.trans ((hb2.out.mono z1).trans ((hb3.out.mono z1).trans (hb4.out.mono (by omega))))⟩
  · simp only [if_neg hx] at h
    obtain ⟨rfl, rfl⟩ : [] = r1 ∧ x = r2 := by injection h with h; injection h with h1 h2; exact ⟨h1, h2⟩
    have hx' : (x == 0) = false := by simpa using hx
    replace hmin := Lib.hid hmin
    have HR := Lib.hid hr0
    have HS := Lib.hid hr1
    clear h hp hr0 hr1 hx
    go_enter Try.func19, Try.ntmps19
    go_wp2_with fail
    refine (hmin.out _ HR.out HS.out).mono ?_
    rintro e W ⟨v, rfl, hV, hb⟩
    replace hb := Lib.hid hb
    clear hV
    go_wp2
    go_ret2
    exact ⟨_, rfl, Kd.R_nil _ _ _ _ _, hb.out⟩

/-! ### keys_Common: function 21 -/
def keys_Common.f (k : Nat) (l0 : List ByteArray) (l1 : List ByteArray) : Option (List ByteArray × Int) := (keys_some.f k l0 l1 true).bind fun bt198 => (some (bt198.1, bt198.2))
theorem keys_Common.mono : ∀ a0 a1 k, LeO (keys_Common.f k a0 a1) (keys_Common.f (k + 1) a0 a1) := by
  intro a0 a1 k
  unfold keys_Common.f
  repeat' first
      | (with_reducible exact keys_some.mono _ _ _ _)
      | (with_reducible exact LeO.refl _)
      | (with_reducible exact LeO.none _)
      | (with_reducible refine LeO.ite ?_ ?_)
      | (with_reducible refine LeO.bind ?_ (fun _ => ?_))
      | exact keys_some.mono _ _ _ _
      | exact LeO.none _
      | refine LeO.ite ?_ ?_
      | refine LeO.bind ?_ (fun _ => ?_)
set_option maxHeartbeats 8000000 in
set_option maxRecDepth 100000 in
theorem keys_Common.calls (k : Nat) (A0 : Option Addr) (c0 : Nat) (l0 : List ByteArray) (A1 : Option Addr) (c1 : Nat) (l1 : List ByteArray) (r1 : List ByteArray) (r2 : Int) (w : World) (hr0 : Kd.C Kd.string w A0 l0.length l0) (hc0 : l0.length ≤ c0) (hr1 : Kd.C Kd.string w A1 l1.length l1) (hc1 : l1.length ≤ c1) (h : keys_Common.f k l0 l1 = some (r1, r2)) :
    Calls Try.prog 21 #[.slice A0 l0.length c0, .slice A1 l1.length c1] w fun e w' => ∃ v0_ : Value, e = .returned (.tuple #[v0_, .int .i64 r2]) ∧ Kd.R Kd.string 9 w' w.heap.size (fun _ => True) v0_ r1 ∧ Below w.heap.size w w' := by
  have HR0 := Aside0.mk hr0
  have HC0 := Aside0.mk hc0
  clear hr0 hc0
  have HR1 := Aside0.mk hr1
  have HC1 := Aside0.mk hc1
  clear hr1 hc1
  have HB := Aside0.mk (Below.refl w.heap.size w)
  have H : ((keys_some.f k l0 l1 true).bind fun bt198 => (some (bt198.1, bt198.2))) = some (r1, r2) := h
  clear h
  replace H := Option.bind_eq_some_iff.mp H
  obtain ⟨⟨t198, t199⟩, A30, H⟩ := H
  replace H : (some (t198, t199)) = some (r1, r2) := H
  have A3 := Aside0.mk A30
  clear A30
  simp only [Option.some.injEq, Prod.mk.injEq] at H
  obtain ⟨rfl, rfl⟩ := H
  go_enter Try.func21, Try.ntmps21
  go_wp2_with (first | ((with_reducible refine gate_callee (f := 42) rfl ?_); refine goesL_ (some 8) rfl rfl Try.func42 (by kernel_rfl) rfl #[.slice A0 l0.length c0, .slice A1 l1.length c1, .bool true] rfl (by (try simp only [List.map_toArray, List.map_cons, List.map_nil]); first | done | rfl | (simp only [List.length_drop, List.length_take]; rfl)) ?_; (with_reducible refine (keys_some.calls k _ _ l0 _ _ l1 true t198 t199 _ ?side1 ?side2 ?side3 ?side4 A3.out).mono ?_); (case side1 => repeat (first | exact HR0.out | (with_reducible refine Kd.C_alloc ?_ _) | (with_reducible refine Kd.C_drewN ?_ _) | (with_reducible refine Kd.C_drew ?_))); (case side2 => exact HC0.out); (case side3 => repeat (first | exact HR1.out | (with_reducible refine Kd.C_alloc ?_ _) | (with_reducible refine Kd.C_drewN ?_ _) | (with_reducible refine Kd.C_drew ?_))); (case side4 => exact HC1.out); rintro e w4 ⟨v200, rfl, ho0, hb⟩; refine ⟨_, rfl, ?_⟩; have n0_ := Aside0.mk (Kd.R_lower ho0 (below_size (by repeat (first | (with_reducible first | exact HB.out | apply below_alloc | apply pw_below_drewN | apply below_drew1) | exact HB.out)))); have n1_ := Aside0.mk (below_step (by repeat (first | (with_reducible first | exact HB.out | apply below_alloc | apply pw_below_drewN | apply below_drew1) | exact HB.out)) hb); clear HB; have HO201 := n0_; have HB := n1_; clear n0_ n1_; (try clear hb); (try clear hb2); (try clear hk); (try clear hi); (try clear ho0)))
  go_ret2
  exact ⟨_, by first | rfl | (simp [errW_none, errW_some] <;> rfl) | (simp [*, errW_none, errW_some] <;> rfl), by (with_reducible repeat (first | apply Kd.R_alloc | apply Kd.R_drewN | apply Kd.R_drew)); exact HO201.out, by repeat (first | (with_reducible first | exact HB.out | apply below_alloc | apply pw_below_drewN | apply below_drew1) | exact HB.out)⟩

/-! ### keys_Names: function 31 -/
def keys_Names.l0 : Nat → List ByteArray → List (S41) → Int → Int → Option (List ByteArray)
  | 0, _, _, _, _ => none
  | k + 1, x3, x6, x7, x8 => if x8 < x7 then (if 0 ≤ x8 then (if x8 < (x6.length : Int) then (if x3.length < 8796093022208 then (keys_Names.l0 k (x3 ++ [(rd_T41 x6 x8).f0]) x6 x7 (wrap64 (x8 + 1))) else (none)) else (none)) else (none)) else (some x3)
def keys_Names.f (k : Nat) (l0 : List (S41)) : Option (List ByteArray) := keys_Names.l0 k ([] : List ByteArray) l0 (l0.length : Int) 0
theorem keys_Names.mono_l : ∀ k, (∀ y0 y1 y2 y3, LeO (keys_Names.l0 k y0 y1 y2 y3) (keys_Names.l0 (k + 1) y0 y1 y2 y3))
  | 0 => fun _ _ _ _ r h => by simp [keys_Names.l0] at h
  | k + 1 => by
    have ih0 := keys_Names.mono_l k
    · intro y0 y1 y2 y3
      unfold keys_Names.l0
      repeat' first
      | (with_reducible exact ih0 _ _ _ _)
      | (with_reducible exact LeO.refl _)
      | (with_reducible exact LeO.none _)
      | (with_reducible refine LeO.ite ?_ ?_)
      | (with_reducible refine LeO.bind ?_ (fun _ => ?_))
      | exact ih0 _ _ _ _
      | exact LeO.none _
      | refine LeO.ite ?_ ?_
      | refine LeO.bind ?_ (fun _ => ?_)
theorem keys_Names.mono : ∀ a0 k, LeO (keys_Names.f k a0) (keys_Names.f (k + 1) a0) := by
  intro a0 k
  have ih0 := keys_Names.mono_l k
  unfold keys_Names.f
  repeat' first
      | (with_reducible exact ih0 _ _ _ _)
      | (with_reducible exact LeO.refl _)
      | (with_reducible exact LeO.none _)
      | (with_reducible refine LeO.ite ?_ ?_)
      | (with_reducible refine LeO.bind ?_ (fun _ => ?_))
      | exact ih0 _ _ _ _
      | exact LeO.none _
      | refine LeO.ite ?_ ?_
      | refine LeO.bind ?_ (fun _ => ?_)
set_option maxHeartbeats 8000000 in
set_option maxRecDepth 100000 in
theorem keys_Names.calls (k : Nat) (A0 : Option Addr) (c0 : Nat) (l0 : List (S41)) (r : List ByteArray) (w : World) (hr0 : Kd.C k41 w A0 l0.length l0) (hc0 : l0.length ≤ c0) (h : keys_Names.f k l0 = some r) :
    Calls Try.prog 31 #[.slice A0 l0.length c0] w fun e w' => ∃ v0_ : Value, e = .returned (v0_) ∧ Kd.R Kd.string 9 w' w.heap.size (fun _ => True) v0_ r ∧ Below w.heap.size w w' := by
  have hu41 := Try.underlying41
  have HR0 := Aside0.mk hr0
  have HC0 := Aside0.mk hc0
  clear hr0 hc0
  have HB := Aside0.mk (Below.refl w.heap.size w)
  have H : (keys_Names.l0 k ([] : List ByteArray) l0 (l0.length : Int) 0) = some r := h
  clear h
  have H' := Aside0.mk H
  clear H
  go_enter Try.func31, Try.ntmps31
  go_wp2
  go_loopg [3, 8] k (fun kq v3 v8 w' => ∃ (x3_1 : List ByteArray) (x8_1 : Int), v8 = .int .i64 x8_1 ∧ Aside0 (keys_Names.l0 kq x3_1 l0 (l0.length : Int) x8_1 = some r) ∧ Aside0 (kq ≤ k) ∧ Aside0 (Kd.R Kd.string 9 w' w.heap.size (fun _ => True) v3 x3_1) ∧ Aside0 (Below w.heap.size w w'))
  case atStart => exact ⟨(([] : List ByteArray)), (0), (by first | rfl | (simp; done) | (simp [*]; done)), H', ⟨Nat.le_refl _⟩, ⟨by first | exact Kd.R_nil _ _ _ _ _ | exact Kd.N_nil _ _ _ _ _ | exact Kd.V_nil _ _ _ _ _ | exact Kd.Q_nil _ _ _ _ _ | exact Kd.S_nil _ _ _ _ _⟩, ⟨by repeat (first | (with_reducible first | exact HB.out | apply below_alloc | apply pw_below_drewN | apply below_drew1) | exact HB.out)⟩⟩
  case round =>
    clear H'
    obtain ⟨x3_1, x8_1, rfl, HA, HK1, HO_3, HB⟩ := hrel
    cases gk with
    | zero => exact absurd HA.out (by simp [keys_Names.l0])
    | succ k1 =>
      have H := HA.out
      clear HA
      simp only [keys_Names.l0] at H
      by_cases c2 : x8_1 < (l0.length : Int)
      · rw [if_pos c2] at H
        have c2b0 : decide (x8_1 < (l0.length : Int)) = true := decide_eq_true c2
        clear c2
        by_cases c3 : 0 ≤ x8_1
        · rw [if_pos c3] at H
          have c3b0 : decide (0 ≤ x8_1) = true := decide_eq_true c3
          clear c3
          by_cases c4 : x8_1 < (l0.length : Int)
          · rw [if_pos c4] at H
            have c4b0 : decide (x8_1 < (l0.length : Int)) = true := decide_eq_true c4
            clear c4
            by_cases c5 : x3_1.length < 8796093022208
            · rw [if_pos c5] at H
              have LMc5 := Aside0.mk c5
              clear c5
              obtain ⟨y252, hy252⟩ : ∃ y_ : List ByteArray, y_ = (x3_1 ++ [(rd_T41 l0 x8_1).f0]) := ⟨_, rfl⟩
              replace H : (keys_Names.l0 k1 y252 l0 (l0.length : Int) (wrap64 (x8_1 + 1))) = some r := by first | (rw [hy252]; with_reducible exact H) | (have H2_ := (Option.bind_some _ _).symm.trans H; rw [hy252]; with_reducible exact H2_) | (have H2_ := (Option.bind_some _ _).symm.trans H; with_reducible exact H2_) | with_reducible exact H | (rw [hy252]; exact H) | exact H
              have Ny252 := Aside0.mk hy252
              clear hy252
              have H' := Aside0.mk H
              clear H
              have p250 : 0 ≤ (x8_1 : Int) := of_decide_eq_true (by first | (with_reducible assumption) | assumption)
              have q250 : x8_1 < (l0.length : Int) := of_decide_eq_true (by first | (with_reducible assumption) | assumption)
              obtain ⟨ad250, e250, hx250_0, hx250_1⟩ := at_T41 HR0.out x8_1 p250 q250
              cases e250
              replace hx250_0 := (HB.out.cell (World.block_lt_of_cell? w _ hx250_0)).trans hx250_0
              replace hx250_1 := (HB.out.cell (World.block_lt_of_cell? w _ hx250_1)).trans hx250_1
              replace p250 := eq_true p250
              replace q250 := eq_true q250
              go_wp2_with (first | ((with_reducible refine gate_dst (N := 5) rfl ?_); refine box_event ?hg (N := 5) ?hd (cs := #[.string (⟨#[]⟩ : ByteArray), .string (⟨#[]⟩ : ByteArray)]) (t := 41) ?hr ?_; (case hd => rfl); (case hg => rfl); (case hr => first | (go_simp; done) | (go_simp; rfl)); intro gb251 hg w6 hbox hb; have n0_ := Aside0.mk (Kd.R_below (by (with_reducible repeat (first | apply Kd.R_alloc | apply Kd.R_drewN | apply Kd.R_drew)); exact HO_3.out) hb); have n1_ := Aside0.mk (below_step (by repeat (first | (with_reducible first | exact HB.out | apply below_alloc | apply pw_below_drewN | apply below_drew1) | exact HB.out)) hb); have n2_ := Aside0.mk (hbox); have n3_ := Aside0.mk ((by rw [hg]; exact (below_size (by repeat (first | (with_reducible first | exact HB.out | apply below_alloc | apply pw_below_drewN | apply below_drew1) | exact HB.out))) : w.heap.size ≤ gb251)); have n4_ := Aside0.mk ((by rw [hg]; exact (below_size (by repeat (first | (with_reducible first | exact HB.out | apply below_alloc | apply pw_below_drewN | apply below_drew1) | exact HB.out))) : w.heap.size ≤ gb251)); clear HO_3; clear HB; have HO_3 := n0_; have HB := n1_; have BK251 := n2_; have GW251 := n3_; have GE251 := n4_; clear n0_ n1_ n2_ n3_ n4_; clear hb hbox hg; have hcz7_0 : w6.cell? ⟨gb251, 0, none⟩ = some (.string (⟨#[]⟩ : ByteArray)) := (blk_cell BK251.out 0).trans rfl; have hcz7_1 : w6.cell? ⟨gb251, 1, none⟩ = some (.string (⟨#[]⟩ : ByteArray)) := (blk_cell BK251.out 1).trans rfl; have hfz7_0 := blk_frozen BK251.out 0; have hfz7_1 := blk_frozen BK251.out 1) | ((with_reducible refine gate_builtin (b := .append) (xs := #[.tmp 12, .tmp 15]) rfl ?_); at_builtin; refine Kd.R_append Kd.string (w0 := w) w.heap.size rfl (.tmp 12) (.tmp 15) 22 9 (.string ⟨#[]⟩) 16 rfl Try.underlying22 info9 rfl (by decide) (by omega) u3 x3_1 ((rd_T41 l0 x8_1).f0) [.string ((rd_T41 l0 x8_1).f0)] (fun _ => True) (fun _ => False) rfl (by first | (go_simp; done) | (go_simp; rfl)) ?aP (fun _ hk => hk.elim) ?aF ?aO ?aB ?aS ?aL ?_; (case aP => exact rfl); (case aB => exact (by repeat (first | (with_reducible first | exact HB.out | apply below_alloc | apply pw_below_drewN | apply below_drew1 | refine below_set ?_ GE251.out) | exact HB.out))); (case aF => exact (fun _ _ => trivial)); (case aO => exact (by (with_reducible repeat (first | apply Kd.R_alloc | apply Kd.R_drewN | apply Kd.R_drew)); exact Kd.R_mono (Kd.R_far (p := ⟨gb251, 1, none⟩) (Kd.R_far (p := ⟨gb251, 0, none⟩) (Kd.R_types HO_3.out BK251.out (by decide)) (fun _ hk => hk.2) (.string ((rd_T41 l0 x8_1).f0))) (fun _ hk => hk.2) (.string ((rd_T41 l0 x8_1).f1))) (fun _ hk => trivial))); (case aS => exact (below_size (by repeat (first | (with_reducible first | exact HB.out | apply below_alloc | apply pw_below_drewN | apply below_drew1 | refine below_set ?_ GE251.out) | exact HB.out)))); (case aL => have := LMc5.out; omega); intro v253 w8 ho hb hg hat; rw [← Ny252.out] at ho; have n0_ := Aside0.mk (blk_grown (g := gb251) (o := .cells #[.string ((rd_T41 l0 x8_1).f0), .string ((rd_T41 l0 x8_1).f1)] 41 (0, 0)) (by (with_reducible repeat (first | refine blk_drewN ?_ _ | refine blk_drew ?_ | refine blk_alloc ?_ _)); refine blk_put (cs := #[.string ((rd_T41 l0 x8_1).f0), .string (⟨#[]⟩ : ByteArray)]) ?_ 1 _ rfl; (with_reducible repeat (first | refine blk_drewN ?_ _ | refine blk_drew ?_ | refine blk_alloc ?_ _)); refine blk_put (cs := #[.string (⟨#[]⟩ : ByteArray), .string (⟨#[]⟩ : ByteArray)]) ?_ 0 _ rfl; (with_reducible repeat (first | refine blk_drewN ?_ _ | refine blk_drew ?_ | refine blk_alloc ?_ _)); exact BK251.out) hg (Kd.R_ne HO_3.out BK251.out (by decide))); have n1_ := Aside0.mk (hb); have n2_ := Aside0.mk (ho); clear BK251; clear HB; clear HO_3; have BK251 := n0_; have HB := n1_; have HO254 := n2_; clear n0_ n1_ n2_; clear ho hb hg hat))
              go_roundg k1
              case measure => have := HK1.out; omega
              case rel => exact ⟨(y252), (wrap64 (x8_1 + 1)), (by first | rfl | (simp; done) | (simp [*]; done)), H', ⟨by have := HK1.out; omega⟩, ⟨by (with_reducible repeat (first | apply Kd.R_alloc | apply Kd.R_drewN | apply Kd.R_drew)); exact HO254.out⟩, ⟨by repeat (first | (with_reducible first | exact HB.out | apply below_alloc | apply pw_below_drewN | apply below_drew1 | refine below_set ?_ GE251.out) | exact HB.out)⟩⟩
            · rw [if_neg c5] at H
              exact absurd H (by simp)
          · rw [if_neg c4] at H
            exact absurd H (by simp)
        · rw [if_neg c3] at H
          exact absurd H (by simp)
      · rw [if_neg c2] at H
        have c2b0 : decide (x8_1 < (l0.length : Int)) = false := decide_eq_false c2
        clear c2
        obtain rfl := Option.some.inj H
        go_wp2
        go_ret
        exact ⟨_, by first | rfl | (simp [errW_none, errW_some] <;> rfl) | (simp [*, errW_none, errW_some] <;> rfl), by (with_reducible repeat (first | apply Kd.R_alloc | apply Kd.R_drewN | apply Kd.R_drew)); exact HO_3.out, by repeat (first | (with_reducible first | exact HB.out | apply below_alloc | apply pw_below_drewN | apply below_drew1) | exact HB.out)⟩


/-! ### keys_ValidPairs: function 29: given by this session -/
-- NEEDS rampart/keys.Names
-- NEEDS rampart/keys.Valid
def pr41 (x : S41) : Hand.Pr := (x.f0, x.f1)
def un41 (p : Hand.Pr) : S41 := ⟨p.1, p.2⟩
theorem C41 {w : World} {A : Option Addr} {l : List S41} (h : Kd.C k41 w A l.length l) : Kd.C Hand.kp w A (l.map pr41).length (l.map pr41) := by
  obtain ⟨h1, h2, h3⟩ := h
  refine ⟨by simp, by simpa using h2, fun hn => ?_⟩
  obtain ⟨ad, ha, hc⟩ := h3 (by simpa using hn)
  refine ⟨ad, ha, fun j p hj => ?_⟩
  rw [List.getElem?_map] at hj
  obtain ⟨q, hq, rfl⟩ := Option.map_eq_some_iff.1 hj
  exact hc j q hq
theorem R41 {w : World} {base : Nat} {v : Value} {l : List S41} (h : w.ownsRow base 41 2 v l.length (Hand.flat (l.map pr41))) : Kd.R k41 41 w base (fun _ => True) v l :=
  ⟨fun _ _ => trivial, Hand.flat (l.map pr41), h, by rw [Hand.flat_length]; simp; rfl, fun j p hj => by
    have := Hand.flat_drop (l.map pr41) j (pr41 p) (by simp [hj])
    rw [show k41.sz = 2 from rfl, this]
    exact Hand.kp_M _ _ _ _⟩
def keys_ValidPairs.f (k : Nat) (l0 : List (S41)) : Option (Bool) := (keys_Names.f k l0).bind fun t => some (Hand.valid t && !(l0.map pr41).any Hand.big)
theorem keys_ValidPairs.mono : ∀ a0 k, LeO (keys_ValidPairs.f k a0) (keys_ValidPairs.f (k + 1) a0) := fun a0 k => LeO.bind (keys_Names.mono a0 k) (fun _ => LeO.refl _)
set_option maxHeartbeats 2000000 in
theorem keys_ValidPairs.calls (k : Nat) (A0 : Option Addr) (c0 : Nat) (l0 : List (S41)) (r : Bool) (w : World) (hr0 : Kd.C k41 w A0 l0.length l0) (hc0 : l0.length ≤ c0) (h : keys_ValidPairs.f k l0 = some r) :
    Calls Try.prog 29 #[.slice A0 l0.length c0] w fun e w' => e = .returned (.bool r) ∧ Below w.heap.size w w' := by
  obtain ⟨t, ht, hr⟩ : ∃ t, keys_Names.f k l0 = some t ∧ (Hand.valid t && !(l0.map pr41).any Hand.big) = r := by
    unfold keys_ValidPairs.f at h
    rcases hm : keys_Names.f k l0 with _ | p
    · rw [hm] at h; cases h
    · rw [hm] at h
      exact ⟨p, rfl, by injection h⟩
  have hnam := fun W hW => keys_Names.calls k A0 c0 l0 t W hW hc0 ht
  have hval := fun A c W hW hc => keys_Valid.calls k A c t (Hand.valid t) W hW hc rfl
  have hlen : Hand.valid t = true → 0 < l0.length := by
    intro hv
    rcases Nat.eq_zero_or_pos l0.length with h0 | h0
    · have e : l0 = [] := List.eq_nil_of_length_eq_zero h0
      subst e
      unfold keys_Names.f at ht
      cases k with
      | zero => simp [keys_Names.l0] at ht
      | succ k =>
        simp [keys_Names.l0] at ht
        subst ht
        rw [Hand.valid_none (by simp)] at hv
        cases hv
    · exact h0
  replace hnam := Lib.hid hnam
  replace hval := Lib.hid hval
  have HR := Lib.hid hr0
  clear h ht hr0
  by_cases hv : Hand.valid t = true
  · have h0 := hlen hv
    have hcon := fun W hW => Hand.containsPairs_any A0 c0 (l0.map pr41) W (by simpa using h0) hW
    rw [List.length_map] at hcon
    have hr' : Hid ((!(l0.map pr41).any Hand.big) = r) := Lib.hid (by rw [← hr, hv]; rfl)
    generalize (l0.map pr41).any Hand.big = bg at hcon hr'
    replace hcon := Lib.hid hcon
    clear hr hlen
    have hvt := Lib.hid hv
    clear hv
    go_enter Try.func29, Try.ntmps29
    go_wp2_with fail
    refine (hnam.out _ HR.out).mono ?_
    rintro e W ⟨v, rfl, hV, hb⟩
    obtain ⟨A2, c2, rfl, hl2, hC2⟩ := Kd.R_reads hV
    have hR2 : Hid (Kd.C k41 W A0 l0.length l0) := Kd.C_below HR.out hb
    replace hb := Lib.hid hb
    replace hC2 := Lib.hid hC2
    clear hV
    have hvw := fun W hW => hval.out A2 c2 W hW hl2
    rw [hvt.out] at hvw
    replace hvw := Lib.hid hvw
    go_wp2_with fail
    refine (hvw.out _ hC2.out).mono ?_
    rintro e W2 ⟨rfl, hb2⟩
    have hR3 : Hid (Kd.C Hand.kp W2 A0 l0.length (l0.map pr41)) := by
      have h3 := C41 (Kd.C_below hR2.out hb2)
      rw [List.length_map] at h3
      exact h3
    replace hb2 := Lib.hid hb2
    go_wp2_with fail
    refine (hcon.out _ hR3.out).mono ?_
    rintro e W3 ⟨rfl, hb3⟩
    replace hb3 := Lib.hid hb3
    go_wp2
    go_ret
    exact ⟨by first | (rw [← hr'.out]; done) | (rw [← hr'.out]; rfl), hb.out.trans ((hb2.out.mono hb.out.size).trans (hb3.out.mono (by have := hb.out.size; have := hb2.out.size; omega)))⟩
  · have hv' : Hand.valid t = false := by simpa using hv
    have hr' : Hid (false = r) := Lib.hid (by rw [← hr, hv']; rfl)
    have hvt := Lib.hid hv'
    clear hr hlen hv hv'
    go_enter Try.func29, Try.ntmps29
    go_wp2_with fail
    refine (hnam.out _ HR.out).mono ?_
    rintro e W ⟨v, rfl, hV, hb⟩
    obtain ⟨A2, c2, rfl, hl2, hC2⟩ := Kd.R_reads hV
    replace hb := Lib.hid hb
    replace hC2 := Lib.hid hC2
    clear hV
    have hvw := fun W hW => hval.out A2 c2 W hW hl2
    rw [hvt.out] at hvw
    replace hvw := Lib.hid hvw
    go_wp2_with fail
    refine (hvw.out _ hC2.out).mono ?_
    rintro e W2 ⟨rfl, hb2⟩
    replace hb2 := Lib.hid hb2
    go_wp2
    go_ret
    exact ⟨by first | (rw [← hr'.out]; done) | (rw [← hr'.out]; rfl), hb.out.trans (hb2.out.mono hb.out.size)⟩


/-! ### keys_Norm: function 25: given by this session -/
-- NEEDS rampart/keys.ValidPairs
theorem names_of (l : List S41) (hl : l.length ≤ 9223372036854775807) : ∀ (k i : Nat) (out t : List ByteArray), i ≤ l.length → keys_Names.l0 k out l (l.length : Int) (i : Int) = some t → t = out ++ (l.drop i).map (·.f0) := by
  intro k
  induction k with
  | zero => intro i out t _ h; simp [keys_Names.l0] at h
  | succ k ih =>
    intro i out t hi h
    simp only [keys_Names.l0] at h
    rcases Nat.lt_or_ge i l.length with h1 | h1
    · have w1 : wrap64 ((i : Int) + 1) = ((i + 1 : Nat) : Int) := by unfold wrap64; omega
      rw [if_pos (by omega), if_pos (by omega), if_pos (by omega), w1] at h
      split at h
      · have := ih (i + 1) _ t (by omega) h
        rw [this, List.drop_eq_getElem_cons h1]
        have e : rd_T41 l (i : Int) = l[i] := by simp [rd_T41, h1]
        rw [e, List.map_cons, List.append_assoc]
        rfl
      · cases h
    · rw [if_neg (by omega)] at h
      rw [List.drop_eq_nil_of_le (by omega)]
      simpa using h.symm
def norm41 (l : List S41) : List S41 := (Hand.sortedPairs (l.map pr41)).map un41
theorem norm41_length (l : List S41) : (norm41 l).length = l.length := by simp [norm41, Hand.sortedPairs_length]
theorem norm41_pr (l : List S41) : (norm41 l).map pr41 = Hand.sortedPairs (l.map pr41) := by
  unfold norm41
  rw [List.map_map, show pr41 ∘ un41 = id from rfl, List.map_id]
theorem validPairs_of {k : Nat} {l : List S41} (hl : l.length ≤ 9223372036854775807) (h : keys_ValidPairs.f k l = some true) : Hand.valid (l.map (·.f0)) = true := by
  unfold keys_ValidPairs.f at h
  rcases hm : keys_Names.f k l with _ | t
  · rw [hm] at h; cases h
  · rw [hm] at h
    have ht := names_of l hl k 0 [] t (Nat.zero_le _) (by unfold keys_Names.f at hm; exact hm)
    simp at ht
    subst ht
    simp at h
    exact h.1
def keys_Norm.f (k : Nat) (l0 : List (S41)) : Option ((List (S41)) × Int) := (keys_ValidPairs.f k l0).bind fun t => some (if t = true then (norm41 l0, 0) else ([], 40))
theorem keys_Norm.mono : ∀ a0 k, LeO (keys_Norm.f k a0) (keys_Norm.f (k + 1) a0) := fun a0 k => LeO.bind (keys_ValidPairs.mono a0 k) (fun _ => LeO.refl _)
set_option maxHeartbeats 2000000 in
theorem keys_Norm.calls (k : Nat) (A0 : Option Addr) (c0 : Nat) (l0 : List (S41)) (r1 : List (S41)) (r2 : Int) (w : World) (hr0 : Kd.C k41 w A0 l0.length l0) (hc0 : l0.length ≤ c0) (h : keys_Norm.f k l0 = some (r1, r2)) :
    Calls Try.prog 25 #[.slice A0 l0.length c0] w fun e w' => ∃ v0_ : Value, e = .returned (.tuple #[v0_, .int .i64 r2]) ∧ Kd.R k41 41 w' w.heap.size (fun _ => True) v0_ r1 ∧ Below w.heap.size w w' := by
  have hm : l0.length ≤ 9223372036854775807 := hr0.2.1
  obtain ⟨t, ht, hr⟩ : ∃ t, keys_ValidPairs.f k l0 = some t ∧ (if t = true then (norm41 l0, (0 : Int)) else ([], 40)) = (r1, r2) := by
    unfold keys_Norm.f at h
    rcases hv : keys_ValidPairs.f k l0 with _ | p
    · rw [hv] at h; cases h
    · rw [hv] at h
      exact ⟨p, rfl, by injection h⟩
  have hval := fun W hW => keys_ValidPairs.calls k A0 c0 l0 t W hW hc0 ht
  replace hval := Lib.hid hval
  have HR := Lib.hid hr0
  clear h hr0
  cases t with
  | true =>
    obtain ⟨rfl, rfl⟩ : norm41 l0 = r1 ∧ 0 = r2 := by injection hr with h1 h2; exact ⟨h1, h2⟩
    have hv := validPairs_of hm ht
    have hi := Hand.valid_iff.1 hv
    have h0 : 0 < l0.length := by have := hi.1; simp at this; omega
    have h1 : l0.length ≤ 1024 := by have := hi.2.1; simpa using this
    have hn : ((l0.map pr41).map (·.1)).Nodup := by rw [List.map_map]; exact hi.2.2.2
    have hcl := fun W hW => Hand.clonePairs_any A0 c0 (l0.map pr41) W (by simpa using h0) (by simp; omega) hW
    have hso := fun W W' v ho hb => Hand.sortPairs_any (w := W) (W := W') (v := v) (l := l0.map pr41) (by simpa using h0) (by simp; omega) ho hb hn
    simp only [List.length_map] at hcl hso
    replace hcl := Lib.hid hcl
    replace hso := Lib.hid hso
    clear hr hv hi hn ht
    go_enter Try.func25, Try.ntmps25
    go_wp2_with fail
    refine (hval.out _ HR.out).mono ?_
    rintro e W ⟨rfl, hb⟩
    have hR2 : Hid (Kd.C Hand.kp W A0 (l0.map pr41).length (l0.map pr41)) := C41 (Kd.C_below HR.out hb)
    replace hb := Lib.hid hb
    go_wp2_with fail
    refine (hcl.out _ (by simpa using hR2.out)).mono ?_
    rintro e W2 ⟨v, rfl, hown, hnn, hb2⟩
    replace hown := Lib.hid hown
    replace hb2 := Lib.hid hb2
    clear hnn
    go_wp2_with fail
    refine (hso.out W W2 v hown.out hb2.out).mono ?_
    rintro e W3 ⟨rfl, hown3, hb3⟩
    replace hown3 := Lib.hid hown3
    replace hb3 := Lib.hid hb3
    go_wp2
    go_ret2
    refine ⟨v, rfl, Kd.R_lower (R41 ?_) hb.out.size, hb.out.trans (hb3.out.mono hb.out.size)⟩
    rw [norm41_pr, norm41_length]
    exact hown3.out
  | false =>
    obtain ⟨rfl, rfl⟩ : [] = r1 ∧ 40 = r2 := by injection hr with h1 h2; exact ⟨h1, h2⟩
    clear hr ht
    go_enter Try.func25, Try.ntmps25
    go_wp2_with fail
    refine (hval.out _ HR.out).mono ?_
    rintro e W ⟨rfl, hb⟩
    replace hb := Lib.hid hb
    go_wp2
    go_ret2
    exact ⟨_, rfl, Kd.R_nil _ _ _ _ _, hb.out⟩

/-! ### rampartlaw04_samePairs: function 28 -/
def rampartlaw04_samePairs.l0 : Nat → List (S41) → List (S41) → Int → Option (Bool)
  | 0, _, _, _ => none
  | k + 1, x0, x1, x5 => if x5 < (x0.length : Int) then (if 0 ≤ x5 then (if x5 < (x1.length : Int) then (if (!((((rd_T41 x0 x5).f0).toList) == (((rd_T41 x1 x5).f0).toList)) || (!((((rd_T41 x0 x5).f1).toList) == (((rd_T41 x1 x5).f1).toList)))) = true then (some false) else (rampartlaw04_samePairs.l0 k x0 x1 (wrap64 (x5 + 1)))) else (none)) else (none)) else (some true)
def rampartlaw04_samePairs.f (k : Nat) (l0 : List (S41)) (l1 : List (S41)) : Option (Bool) := if (l0.length : Int) = (l1.length : Int) then (rampartlaw04_samePairs.l0 k l0 l1 0) else (some false)
theorem rampartlaw04_samePairs.mono_l : ∀ k, (∀ y0 y1 y2, LeO (rampartlaw04_samePairs.l0 k y0 y1 y2) (rampartlaw04_samePairs.l0 (k + 1) y0 y1 y2))
  | 0 => fun _ _ _ r h => by simp [rampartlaw04_samePairs.l0] at h
  | k + 1 => by
    have ih0 := rampartlaw04_samePairs.mono_l k
    · intro y0 y1 y2
      unfold rampartlaw04_samePairs.l0
      repeat' first
      | (with_reducible exact ih0 _ _ _)
      | (with_reducible exact LeO.refl _)
      | (with_reducible exact LeO.none _)
      | (with_reducible refine LeO.ite ?_ ?_)
      | (with_reducible refine LeO.bind ?_ (fun _ => ?_))
      | exact ih0 _ _ _
      | exact LeO.none _
      | refine LeO.ite ?_ ?_
      | refine LeO.bind ?_ (fun _ => ?_)
theorem rampartlaw04_samePairs.mono : ∀ a0 a1 k, LeO (rampartlaw04_samePairs.f k a0 a1) (rampartlaw04_samePairs.f (k + 1) a0 a1) := by
  intro a0 a1 k
  have ih0 := rampartlaw04_samePairs.mono_l k
  unfold rampartlaw04_samePairs.f
  repeat' first
      | (with_reducible exact ih0 _ _ _)
      | (with_reducible exact LeO.refl _)
      | (with_reducible exact LeO.none _)
      | (with_reducible refine LeO.ite ?_ ?_)
      | (with_reducible refine LeO.bind ?_ (fun _ => ?_))
      | exact ih0 _ _ _
      | exact LeO.none _
      | refine LeO.ite ?_ ?_
      | refine LeO.bind ?_ (fun _ => ?_)
set_option maxHeartbeats 8000000 in
set_option maxRecDepth 100000 in
theorem rampartlaw04_samePairs.calls (k : Nat) (A0 : Option Addr) (c0 : Nat) (l0 : List (S41)) (A1 : Option Addr) (c1 : Nat) (l1 : List (S41)) (r : Bool) (w : World) (hr0 : Kd.C k41 w A0 l0.length l0) (hc0 : l0.length ≤ c0) (hr1 : Kd.C k41 w A1 l1.length l1) (hc1 : l1.length ≤ c1) (h : rampartlaw04_samePairs.f k l0 l1 = some r) :
    Calls Try.prog 28 #[.slice A0 l0.length c0, .slice A1 l1.length c1] w fun e w' => e = .returned (.bool r) ∧ Drawn0 w w' := by
  have hu41 := Try.underlying41
  have HR0 := Aside0.mk hr0
  have HC0 := Aside0.mk hc0
  clear hr0 hc0
  have HR1 := Aside0.mk hr1
  have HC1 := Aside0.mk hc1
  clear hr1 hc1
  have H : (if (l0.length : Int) = (l1.length : Int) then (rampartlaw04_samePairs.l0 k l0 l1 0) else (some false)) = some r := h
  clear h
  by_cases c3 : (l0.length : Int) = (l1.length : Int)
  · rw [if_pos c3] at H
    have c3b0 : ((l0.length : Int) == (l1.length : Int)) = true := beq_iff_eq.mpr c3
    have c3b1 : ((l0.length : Int) != (l1.length : Int)) = false := bne_eq_false_iff_eq.mpr c3
    have c3b2 : (l0.length == l1.length) = true := by first | simpa using c3 | (simp at c3 ⊢; omega)
    clear c3
    have H' := Aside0.mk H
    clear H
    go_enter Try.func28, Try.ntmps28
    go_wp2
    repeat (go_quiet (fail); try go_wp2)
    go_loopg [5] k (fun kq v5 w' => ∃ (x5_1 : Int), v5 = .int .i64 x5_1 ∧ Aside0 (rampartlaw04_samePairs.l0 kq l0 l1 x5_1 = some r) ∧ Aside0 (kq ≤ k) ∧ Drawn0 w w')
    case atStart => exact ⟨(0), (by first | rfl | (simp; done) | (simp [*]; done)), H', ⟨Nat.le_refl _⟩, by repeat (first | exact Drawn0.refl _ | apply Drawn0.step)⟩
    case round =>
      clear H'
      try clear c1
      try clear c2
      try clear p2
      try clear c3
      try clear c3b0
      try clear c3b1
      try clear c3b2
      obtain ⟨x5_1, rfl, HA, HK1, ⟨m1, rfl⟩⟩ := hrel
      cases gk with
      | zero => exact absurd HA.out (by simp [rampartlaw04_samePairs.l0])
      | succ k1 =>
        have H := HA.out
        clear HA
        simp only [rampartlaw04_samePairs.l0] at H
        by_cases c4 : x5_1 < (l0.length : Int)
        · rw [if_pos c4] at H
          have c4b0 : decide (x5_1 < (l0.length : Int)) = true := decide_eq_true c4
          clear c4
          by_cases c5 : 0 ≤ x5_1
          · rw [if_pos c5] at H
            have c5b0 : decide (0 ≤ x5_1) = true := decide_eq_true c5
            clear c5
            by_cases c6 : x5_1 < (l1.length : Int)
            · rw [if_pos c6] at H
              have c6b0 : decide (x5_1 < (l1.length : Int)) = true := decide_eq_true c6
              clear c6
              by_cases c7 : (!((((rd_T41 l0 x5_1).f0).toList) == (((rd_T41 l1 x5_1).f0).toList)) || (!((((rd_T41 l0 x5_1).f1).toList) == (((rd_T41 l1 x5_1).f1).toList)))) = true
              · rw [if_pos c7] at H
                have c7b0 : (!((((rd_T41 l0 x5_1).f0).toList) == (((rd_T41 l1 x5_1).f0).toList)) || (!((((rd_T41 l0 x5_1).f1).toList) == (((rd_T41 l1 x5_1).f1).toList)))) = true := c7
                clear c7
                obtain rfl := Option.some.inj H
                have p299 : 0 ≤ (x5_1 : Int) := of_decide_eq_true (by first | (with_reducible assumption) | assumption)
                have q299 : x5_1 < (l0.length : Int) := of_decide_eq_true (by first | (with_reducible assumption) | assumption)
                obtain ⟨ad299, e299, hx299_0, hx299_1⟩ := at_T41 HR0.out x5_1 p299 q299
                cases e299
                replace p299 := eq_true p299
                replace q299 := eq_true q299
                have p300 : 0 ≤ (x5_1 : Int) := of_decide_eq_true (by first | (with_reducible assumption) | assumption)
                have q300 : x5_1 < (l1.length : Int) := of_decide_eq_true (by first | (with_reducible assumption) | assumption)
                obtain ⟨ad300, e300, hx300_0, hx300_1⟩ := at_T41 HR1.out x5_1 p300 q300
                cases e300
                replace p300 := eq_true p300
                replace q300 := eq_true q300
                go_wp2
                repeat (go_quiet (fail); try go_wp2)
                go_ret
                exact ⟨by first | rfl | (simp; done) | (simp [*]; done), by repeat (first | exact Drawn0.refl _ | apply Drawn0.step)⟩
              · rw [if_neg c7] at H
                have c7b0 : (!((((rd_T41 l0 x5_1).f0).toList) == (((rd_T41 l1 x5_1).f0).toList)) || (!((((rd_T41 l0 x5_1).f1).toList) == (((rd_T41 l1 x5_1).f1).toList)))) = false := by simpa using c7
                clear c7
                have H' := Aside0.mk H
                clear H
                have p299 : 0 ≤ (x5_1 : Int) := of_decide_eq_true (by first | (with_reducible assumption) | assumption)
                have q299 : x5_1 < (l0.length : Int) := of_decide_eq_true (by first | (with_reducible assumption) | assumption)
                obtain ⟨ad299, e299, hx299_0, hx299_1⟩ := at_T41 HR0.out x5_1 p299 q299
                cases e299
                replace p299 := eq_true p299
                replace q299 := eq_true q299
                have p300 : 0 ≤ (x5_1 : Int) := of_decide_eq_true (by first | (with_reducible assumption) | assumption)
                have q300 : x5_1 < (l1.length : Int) := of_decide_eq_true (by first | (with_reducible assumption) | assumption)
                obtain ⟨ad300, e300, hx300_0, hx300_1⟩ := at_T41 HR1.out x5_1 p300 q300
                cases e300
                replace p300 := eq_true p300
                replace q300 := eq_true q300
                go_wp2
                repeat (go_quiet (fail); try go_wp2)
                go_roundg k1
                case measure => have := HK1.out; omega
                case rel => exact ⟨(wrap64 (x5_1 + 1)), (by first | rfl | (simp; done) | (simp [*]; done)), H', ⟨by have := HK1.out; omega⟩, by repeat (first | exact Drawn0.refl _ | apply Drawn0.step)⟩
            · rw [if_neg c6] at H
              exact absurd H (by simp)
          · rw [if_neg c5] at H
            exact absurd H (by simp)
        · rw [if_neg c4] at H
          have c4b0 : decide (x5_1 < (l0.length : Int)) = false := decide_eq_false c4
          clear c4
          obtain rfl := Option.some.inj H
          go_wp2
          repeat (go_quiet (fail); try go_wp2)
          go_ret
          exact ⟨by first | rfl | (simp; done) | (simp [*]; done), by repeat (first | exact Drawn0.refl _ | apply Drawn0.step)⟩
  · rw [if_neg c3] at H
    have c3b0 : ((l0.length : Int) == (l1.length : Int)) = false := beq_eq_false_iff_ne.mpr c3
    have c3b1 : ((l0.length : Int) != (l1.length : Int)) = true := bne_iff_ne.mpr c3
    have c3b2 : (l0.length == l1.length) = false := by first | simpa using c3 | (simp at c3 ⊢; omega)
    obtain rfl := Option.some.inj H
    go_enter Try.func28, Try.ntmps28
    go_wp2
    repeat (go_quiet (fail); try go_wp2)
    go_ret
    exact ⟨by first | rfl | (simp; done) | (simp [*]; done), by repeat (first | exact Drawn0.refl _ | apply Drawn0.step)⟩

/-! ### rampartlaw04_own: function 10 -/
def rampartlaw04_own.f (l0 : List ByteArray) : Option (List ByteArray) := (some (([] : List ByteArray) : List ByteArray)).bind fun y384 => (if y384.length + l0.length < 8796093022208 then (some (y384 ++ l0)) else (none))
set_option maxHeartbeats 8000000 in
set_option maxRecDepth 100000 in
theorem rampartlaw04_own.calls (A0 : Option Addr) (c0 : Nat) (l0 : List ByteArray) (r : List ByteArray) (w : World) (hr0 : Kd.C Kd.string w A0 l0.length l0) (hc0 : l0.length ≤ c0) (h : rampartlaw04_own.f l0 = some r) :
    Calls Try.prog 10 #[.slice A0 l0.length c0] w fun e w' => ∃ v0_ : Value, e = .returned (v0_) ∧ Kd.R Kd.string 9 w' w.heap.size (fun _ => True) v0_ r ∧ Below w.heap.size w w' := by
  have HR0 := Aside0.mk hr0
  have HC0 := Aside0.mk hc0
  clear hr0 hc0
  have HB := Aside0.mk (Below.refl w.heap.size w)
  have H : ((some (([] : List ByteArray) : List ByteArray)).bind fun y384 => (if y384.length + l0.length < 8796093022208 then (some (y384 ++ l0)) else (none))) = some r := h
  clear h
  obtain ⟨y384, hy384⟩ : ∃ y_ : List ByteArray, y_ = (([] : List ByteArray)) := ⟨_, rfl⟩
  replace H : (if y384.length + l0.length < 8796093022208 then (some (y384 ++ l0)) else (none)) = some r := by first | (rw [hy384]; with_reducible exact H) | (have H2_ := (Option.bind_some _ _).symm.trans H; rw [hy384]; with_reducible exact H2_) | (have H2_ := (Option.bind_some _ _).symm.trans H; with_reducible exact H2_) | with_reducible exact H | (rw [hy384]; exact H) | exact H
  have Ny384 := Aside0.mk hy384
  clear hy384
  by_cases c2 : y384.length + l0.length < 8796093022208
  · rw [if_pos c2] at H
    have LMc2 := Aside0.mk c2
    clear c2
    obtain ⟨y387, hy387⟩ : ∃ y_ : List ByteArray, y_ = (y384 ++ l0) := ⟨_, rfl⟩
    replace H : (some y387) = some r := by first | (rw [hy387]; with_reducible exact H) | (have H2_ := (Option.bind_some _ _).symm.trans H; rw [hy387]; with_reducible exact H2_) | (have H2_ := (Option.bind_some _ _).symm.trans H; with_reducible exact H2_) | with_reducible exact H | (rw [hy387]; exact H) | exact H
    have Ny387 := Aside0.mk hy387
    clear hy387
    obtain rfl := Option.some.inj H
    go_enter Try.func10, Try.ntmps10
    go_wp2_with (first | ((with_reducible refine gate_dst (N := 3) rfl ?_); refine Kd.R_lit Kd.string _ 9 ?hg (N := 3) ?hd (xs := ([] : List ByteArray)) (inner := []) (ok := fun _ => True) (okp := fun _ => True) ?hr ?hp (fun _ hk => hk) trivial (Below.refl _ _) (Nat.le_refl _) (by simp) ?_; (case hd => rfl); (case hg => rfl); (case hr => first | (go_simp; done) | (go_simp; rfl)); (case hp => exact (Reps.none _ _)); intro v385 w3 ho4 hb hg_ hnew_; clear hg_ hnew_; (first | rw [← Ny384.out] at ho4 | (simp only [Int.reduceToNat] at ho4; rw [← Ny384.out] at ho4)); have n0_ := Aside0.mk (Kd.R_lower ho4 (below_size (by repeat (first | (with_reducible first | exact HB.out | apply below_alloc | apply pw_below_drewN | apply below_drew1) | exact HB.out)))); have n1_ := Aside0.mk (below_step (by repeat (first | (with_reducible first | exact HB.out | apply below_alloc | apply pw_below_drewN | apply below_drew1) | exact HB.out)) hb); clear HB; have HO386 := n0_; have HB := n1_; clear n0_ n1_; clear hb ho4) | ((with_reducible refine gate_builtin (b := .append) (xs := #[.tmp 3, .tmp 4]) rfl ?_); at_builtin; refine Kd.R_append_rows Kd.string (w0 := w) w.heap.size rfl (.tmp 3) (.tmp 4) 22 9 (.string ⟨#[]⟩) 16 rfl Try.underlying22 info9 rfl (by decide) (by omega) v385 y384 l0 _ _ _ (fun _ => True) (fun _ => False) rfl rfl ?aO ?aR (fun _ _ h => h) (fun _ h => h.elim) ?aF ?aB ?aS ?aL ?_; (case aR => repeat (first | exact (Kd.C_below HR0.out HB.out) | (with_reducible refine Kd.C_alloc ?_ _) | (with_reducible refine Kd.C_drewN ?_ _) | (with_reducible refine Kd.C_drew ?_))); (case aB => exact (by repeat (first | (with_reducible first | exact HB.out | apply below_alloc | apply pw_below_drewN | apply below_drew1) | exact HB.out))); (case aF => exact (fun _ _ => trivial)); (case aO => exact (by (with_reducible repeat (first | apply Kd.R_alloc | apply Kd.R_drewN | apply Kd.R_drew)); exact HO386.out)); (case aS => exact (below_size (by repeat (first | (with_reducible first | exact HB.out | apply below_alloc | apply pw_below_drewN | apply below_drew1) | exact HB.out)))); (case aL => have := LMc2.out; omega); intro v388 w5 ho hb hg hat; rw [← Ny387.out] at ho; have n0_ := Aside0.mk (hb); have n1_ := Aside0.mk (ho); clear HB; clear HO386; have HB := n0_; have HO389 := n1_; clear n0_ n1_; clear ho hb hg hat))
    go_ret
    exact ⟨_, by first | rfl | (simp [errW_none, errW_some] <;> rfl) | (simp [*, errW_none, errW_some] <;> rfl), by (with_reducible repeat (first | apply Kd.R_alloc | apply Kd.R_drewN | apply Kd.R_drew)); exact HO389.out, by repeat (first | (with_reducible first | exact HB.out | apply below_alloc | apply pw_below_drewN | apply below_drew1) | exact HB.out)⟩
  · rw [if_neg c2] at H
    exact absurd H (by simp)

/-! ### rampartlaw04_ownPairs: function 26 -/
def rampartlaw04_ownPairs.f (l0 : List (S41)) : Option ((List (S41))) := (some (([] : List (S41)) : List (S41))).bind fun y481 => (if y481.length + l0.length < 4398046511104 then (some (y481 ++ l0)) else (none))
set_option maxHeartbeats 8000000 in
set_option maxRecDepth 100000 in
theorem rampartlaw04_ownPairs.calls (A0 : Option Addr) (c0 : Nat) (l0 : List (S41)) (r : List (S41)) (w : World) (hr0 : Kd.C k41 w A0 l0.length l0) (hc0 : l0.length ≤ c0) (h : rampartlaw04_ownPairs.f l0 = some r) :
    Calls Try.prog 26 #[.slice A0 l0.length c0] w fun e w' => ∃ v0_ : Value, e = .returned (v0_) ∧ Kd.R k41 41 w' w.heap.size (fun _ => True) v0_ r ∧ Below w.heap.size w w' := by
  have HR0 := Aside0.mk hr0
  have HC0 := Aside0.mk hc0
  clear hr0 hc0
  have HB := Aside0.mk (Below.refl w.heap.size w)
  have H : ((some (([] : List (S41)) : List (S41))).bind fun y481 => (if y481.length + l0.length < 4398046511104 then (some (y481 ++ l0)) else (none))) = some r := h
  clear h
  obtain ⟨y481, hy481⟩ : ∃ y_ : List (S41), y_ = (([] : List (S41))) := ⟨_, rfl⟩
  replace H : (if y481.length + l0.length < 4398046511104 then (some (y481 ++ l0)) else (none)) = some r := by first | (rw [hy481]; with_reducible exact H) | (have H2_ := (Option.bind_some _ _).symm.trans H; rw [hy481]; with_reducible exact H2_) | (have H2_ := (Option.bind_some _ _).symm.trans H; with_reducible exact H2_) | with_reducible exact H | (rw [hy481]; exact H) | exact H
  have Ny481 := Aside0.mk hy481
  clear hy481
  by_cases c2 : y481.length + l0.length < 4398046511104
  · rw [if_pos c2] at H
    have LMc2 := Aside0.mk c2
    clear c2
    obtain ⟨y484, hy484⟩ : ∃ y_ : List (S41), y_ = (y481 ++ l0) := ⟨_, rfl⟩
    replace H : (some y484) = some r := by first | (rw [hy484]; with_reducible exact H) | (have H2_ := (Option.bind_some _ _).symm.trans H; rw [hy484]; with_reducible exact H2_) | (have H2_ := (Option.bind_some _ _).symm.trans H; with_reducible exact H2_) | with_reducible exact H | (rw [hy484]; exact H) | exact H
    have Ny484 := Aside0.mk hy484
    clear hy484
    obtain rfl := Option.some.inj H
    go_enter Try.func26, Try.ntmps26
    go_wp2_with (first | ((with_reducible refine gate_dst (N := 3) rfl ?_); refine Kd.R_lit k41 _ 41 ?hg (N := 3) ?hd (xs := ([] : List (S41))) (inner := []) (ok := fun _ => True) (okp := fun _ => True) ?hr ?hp (fun _ hk => hk) trivial (Below.refl _ _) (Nat.le_refl _) (by simp) ?_; (case hd => rfl); (case hg => rfl); (case hr => first | (go_simp; done) | (go_simp; rfl)); (case hp => exact (Reps.none _ _)); intro v482 w3 ho4 hb hg_ hnew_; clear hg_ hnew_; (first | rw [← Ny481.out] at ho4 | (simp only [Int.reduceToNat] at ho4; rw [← Ny481.out] at ho4)); have n0_ := Aside0.mk (Kd.R_lower ho4 (below_size (by repeat (first | (with_reducible first | exact HB.out | apply below_alloc | apply pw_below_drewN | apply below_drew1) | exact HB.out)))); have n1_ := Aside0.mk (below_step (by repeat (first | (with_reducible first | exact HB.out | apply below_alloc | apply pw_below_drewN | apply below_drew1) | exact HB.out)) hb); clear HB; have HO483 := n0_; have HB := n1_; clear n0_ n1_; clear hb ho4) | ((with_reducible refine gate_builtin (b := .append) (xs := #[.tmp 3, .tmp 4]) rfl ?_); at_builtin; refine Kd.R_append_rows k41 (w0 := w) w.heap.size rfl (.tmp 3) (.tmp 4) 33 41 (.agg #[(.string ⟨#[]⟩), (.string ⟨#[]⟩)]) 32 rfl Try.underlying33 info41 rfl (by decide) (by omega) v482 y481 l0 _ _ _ (fun _ => True) (fun _ => False) rfl rfl ?aO ?aR (fun _ _ h => h) (fun _ h => h.elim) ?aF ?aB ?aS ?aL ?_; (case aR => repeat (first | exact (Kd.C_below HR0.out HB.out) | (with_reducible refine Kd.C_alloc ?_ _) | (with_reducible refine Kd.C_drewN ?_ _) | (with_reducible refine Kd.C_drew ?_))); (case aB => exact (by repeat (first | (with_reducible first | exact HB.out | apply below_alloc | apply pw_below_drewN | apply below_drew1) | exact HB.out))); (case aF => exact (fun _ _ => trivial)); (case aO => exact (by (with_reducible repeat (first | apply Kd.R_alloc | apply Kd.R_drewN | apply Kd.R_drew)); exact HO483.out)); (case aS => exact (below_size (by repeat (first | (with_reducible first | exact HB.out | apply below_alloc | apply pw_below_drewN | apply below_drew1) | exact HB.out)))); (case aL => have := LMc2.out; omega); intro v485 w5 ho hb hg hat; rw [← Ny484.out] at ho; have n0_ := Aside0.mk (hb); have n1_ := Aside0.mk (ho); clear HB; clear HO483; have HB := n0_; have HO486 := n1_; clear n0_ n1_; clear ho hb hg hat))
    go_ret
    exact ⟨_, by first | rfl | (simp [errW_none, errW_some] <;> rfl) | (simp [*, errW_none, errW_some] <;> rfl), by (with_reducible repeat (first | apply Kd.R_alloc | apply Kd.R_drewN | apply Kd.R_drew)); exact HO486.out, by repeat (first | (with_reducible first | exact HB.out | apply below_alloc | apply pw_below_drewN | apply below_drew1) | exact HB.out)⟩
  · rw [if_neg c2] at H
    exact absurd H (by simp)

end Go.Proofs.Ytjahalkgjnnapaa.G
