/- spec: judged, walked. -/
import Derived.Test.YtiibjgnmdieicaaGreatQf
import Derived.Lib.SliceRun
import Derived.Test.YtiibjgnmdieicaaGreatPw
namespace Go.Proofs.YtiibjgnmdieicaaGreat.Hist
open Go.RowKit Go.Proofs.YtiibjgnmdieicaaGreatW.PrintWords Go.Sort
def kFnd : Kd Fnd where
  sz := 5
  E := []
  K _ f cs := FR f cs
  M _ _ _ _ _ := False
  K_len := by rintro w x cs rfl; rfl
  K_one := by rintro w x cs rfl; exact oneF x
  K_below _ h := h
  K_of_M h := h.elim
  M_mono _ h := h
  M_bound h := h.elim
  M_move _ h := h
  M_lower _ h := h
theorem fnd_at {W : World} {A : Option Addr} {l : List Fnd} (h : Kd.C kFnd W A l.length l) {j : Nat} (hj : j < l.length) : ∃ ad, A = some ad ∧ W.cell? (ad.add (j * 5)) = some (.int .i64 l[j].place) ∧ W.cell? ⟨(ad.add (j * 5)).block, (ad.add (j * 5)).off + 1, none⟩ = some (.int .i64 l[j].rule) ∧ W.cell? ⟨(ad.add (j * 5)).block, (ad.add (j * 5)).off + 2, none⟩ = some (.string l[j].key) ∧ W.cell? ⟨(ad.add (j * 5)).block, (ad.add (j * 5)).off + 3, none⟩ = some (.int .u64 l[j].id) ∧ W.cell? ⟨(ad.add (j * 5)).block, (ad.add (j * 5)).off + 4, none⟩ = some (.int .u64 l[j].other) := by
  obtain ⟨ad, c, e, _, hK, hc0⟩ := Kd.C_get h ⟨0, 0, ByteArray.empty, 0, 0⟩ (j : Int) (by omega) (by omega)
  have hc : ∀ i u, c[i]? = some u → W.cell? (ad.add ((j : Int).toNat * 5 + i)) = some u := hc0
  have hK : FR (l.getD (j : Int).toNat ⟨0, 0, ByteArray.empty, 0, 0⟩) c := hK
  rw [Int.toNat_natCast] at hK hc
  rw [show l.getD j ⟨0, 0, ByteArray.empty, 0, 0⟩ = l[j] from by simp [hj]] at hK
  unfold FR at hK
  subst hK
  exact ⟨ad, e, hc 0 _ rfl, by rw [← add_field _ _ 1 (by omega)]; exact hc 1 _ rfl, by rw [← add_field _ _ 2 (by omega)]; exact hc 2 _ rfl, by rw [← add_field _ _ 3 (by omega)]; exact hc 3 _ rfl, by rw [← add_field _ _ 4 (by omega)]; exact hc 4 _ rfl⟩
def leastS (m : Int) (f : Fnd) : Int := if m == 0 || decide (f.rule < m) then f.rule else m
def leastR (L : List Fnd) : Int := L.foldl leastS 0
def reasonB (r : Int) : Int := if r = 1 then 2 else if r = 2 then 3 else if r = 3 then 4 else if r = 4 then 5 else 1
/-- why a list may not be -/
def judgedB (l : List Evt) : Int := if properB l = true then (if leastR (judgeL l) = 0 then 0 else reasonB (leastR (judgeL l))) else 1
set_option maxHeartbeats 1000000 in
theorem reason_any (r : Int) (w : World) : Calls Tryz.prog 42 #[.int .i64 r] w fun e w' => e = .returned (.int .i64 (reasonB r)) ∧ w = w' := by
  unfold reasonB
  by_cases h1 : r = 1
  · have b1 : (r == 1) = true := beq_iff_eq.2 h1
    rw [if_pos h1]
    clear h1
    go_enter Tryz.func42, Tryz.ntmps42
    go_wp2
    go_ret
    exact ⟨rfl, rfl⟩
  · have b1 : (r == 1) = false := beq_eq_false_iff_ne.2 h1
    rw [if_neg h1]
    clear h1
    by_cases h2 : r = 2
    · have b2 : (r == 2) = true := beq_iff_eq.2 h2
      rw [if_pos h2]
      clear h2
      go_enter Tryz.func42, Tryz.ntmps42
      go_wp2
      go_ret
      exact ⟨rfl, rfl⟩
    · have b2 : (r == 2) = false := beq_eq_false_iff_ne.2 h2
      rw [if_neg h2]
      clear h2
      by_cases h3 : r = 3
      · have b3 : (r == 3) = true := beq_iff_eq.2 h3
        rw [if_pos h3]
        clear h3
        go_enter Tryz.func42, Tryz.ntmps42
        go_wp2
        go_ret
        exact ⟨rfl, rfl⟩
      · have b3 : (r == 3) = false := beq_eq_false_iff_ne.2 h3
        rw [if_neg h3]
        clear h3
        by_cases h4 : r = 4
        · have b4 : (r == 4) = true := beq_iff_eq.2 h4
          rw [if_pos h4]
          clear h4
          go_enter Tryz.func42, Tryz.ntmps42
          go_wp2
          go_ret
          exact ⟨rfl, rfl⟩
        · have b4 : (r == 4) = false := beq_eq_false_iff_ne.2 h4
          rw [if_neg h4]
          clear h4
          go_enter Tryz.func42, Tryz.ntmps42
          go_wp2
          go_ret
          exact ⟨rfl, rfl⟩
def RelL (w1 : World) (L : List Fnd) (s5 s17 : Value) (wr : World) : Prop := ∃ j : Nat, j ≤ L.length ∧ s17 = .int .i64 j ∧ s5 = .int .i64 ((L.take j).foldl leastS 0) ∧ Below w1.heap.size w1 wr
set_option maxHeartbeats 8000000 in
set_option maxRecDepth 100000 in
theorem judged_any (A : Option Addr) (c : Nat) (l : List Evt) (w : World) (hC : kEvt.C w A l.length l) (hI : JudgeIn l) :
    Calls Tryz.prog 24 #[.slice A l.length c] w fun e w' => e = .returned (.int .i64 (judgedB l)) ∧ Below w.heap.size w w' := by
  obtain ⟨r, hr⟩ : ∃ r, r = judgedB l := ⟨_, rfl⟩
  rw [← hr]
  unfold judgedB at hr
  cases hp : properB l
  · rw [hp, if_neg (by decide)] at hr
    have h := judge_no A c l w hC hI hp
    replace h := Lib.hid h
    replace hr := Lib.hid hr
    clear hC hI hp
    go_enter Tryz.func24, Tryz.ntmps24
    go_wp2_with fail
    refine h.out.mono ?_
    rintro e W ⟨rfl, hb⟩
    replace hb := Lib.hid hb
    go_wp2
    go_ret
    exact ⟨by rw [hr.out]; rfl, hb.out⟩
  · rw [hp, if_pos rfl] at hr
    have h := judge_yes A c l w hC hI hp
    unfold Judged at h
    generalize judgeL l = L at *
    have hrL : leastR L = L.foldl leastS 0 := rfl
    replace hrL := Lib.hid hrL
    replace h := Lib.hid h
    replace hr := Lib.hid hr
    clear hC hI hp
    go_enter Tryz.func24, Tryz.ntmps24
    go_wp2_with fail
    refine h.out.mono ?_
    rintro e w1 ⟨fA, fc, rfl, hrow, hb⟩
    have hF : Kd.C kFnd w1 fA L.length L := by
      obtain ⟨A1, c1, e1, _, hr1⟩ := hrow.reads
      injection e1 with e1 _ _
      subst e1
      exact hr1
    have hm : L.length ≤ 9223372036854775807 := hF.2.1
    replace hF := Lib.hid hF
    replace hb := Lib.hid hb
    clear hrow h
    go_wp2
    go_loopw [5, 17] (fun s5 s17 wr => RelL w1 L s5 s17 wr) (fun _ s17 _ => L.length - (intOf s17).toNat)
    case atStart => exact ⟨0, Nat.zero_le _, rfl, rfl, Below.refl _ _⟩
    case round =>
      obtain ⟨j, hj, rfl, rfl, hB⟩ := hrel
      generalize hls : (L.take j).foldl leastS 0 = ls at *
      by_cases hlt : j < L.length
      · obtain ⟨ad, rfl, q0, q1, q2, q3, q4⟩ := fnd_at (Kd.C_below hF.out hB) hlt
        have hst : (L.take (j + 1)).foldl leastS 0 = leastS ls L[j] := by rw [fold_take _ _ hlt, hls]
        generalize L[j] = f at *
        have hlf : leastS ls f = if ls == 0 || decide (f.rule < ls) then f.rule else ls := rfl
        have hbv : Below w1.heap.size w1 (wr.alloc (.cells #[.int .i64 f.place, .int .i64 f.rule, .string f.key, .int .u64 f.id, .int .u64 f.other] 91)) := below_then hB hB.size (below_alloc (Below.refl _ _) _)
        replace hbv := Lib.hid hbv
        replace hB := Lib.hid hB
        replace hls := Lib.hid hls
        replace hst := Lib.hid hst
        cases d1 : (ls == 0)
        · cases d2 : decide (f.rule < ls)
          · rw [d1, d2] at hlf
            replace hlf := Lib.hid hlf
            go_wp2
            go_roundw
            case rel => exact ⟨j + 1, by omega, by go_num, by rw [hst.out, hlf.out]; rfl, hbv.out⟩
            case measure => simp [intOf]; omega
          · rw [d1, d2] at hlf
            replace hlf := Lib.hid hlf
            go_wp2
            go_roundw
            case rel => exact ⟨j + 1, by omega, by go_num, by rw [hst.out, hlf.out]; rfl, hbv.out⟩
            case measure => simp [intOf]; omega
        · rw [d1] at hlf
          replace hlf := Lib.hid hlf
          go_wp2
          go_roundw
          case rel => exact ⟨j + 1, by omega, by go_num, by rw [hst.out, hlf.out]; rfl, hbv.out⟩
          case measure => simp [intOf]; omega
      · rw [List.take_of_length_le (by omega)] at hls
        have hrr : r = if ls = 0 then 0 else reasonB ls := by rw [hr.out, hrL.out, hls]
        have hfin := below_then hb.out hb.out.size hB
        replace hfin := Lib.hid hfin
        have hre := reason_any ls wr
        replace hre := Lib.hid hre
        replace hls := Lib.hid hls
        clear hB
        by_cases d : ls = 0
        · rw [if_pos d] at hrr
          have b : (ls == 0) = true := beq_iff_eq.2 d
          replace hrr := Lib.hid hrr
          replace d := Lib.hid d
          go_wp2
          go_ret
          exact ⟨by rw [hrr.out]; rfl, hfin.out⟩
        · rw [if_neg d] at hrr
          have b : (ls == 0) = false := beq_eq_false_iff_ne.2 d
          replace hrr := Lib.hid hrr
          replace d := Lib.hid d
          go_wp2_with fail
          refine hre.out.mono ?_
          rintro e w2 ⟨rfl, rfl⟩
          go_wp2
          go_ret
          exact ⟨by rw [hrr.out]; rfl, hfin.out⟩
end Go.Proofs.YtiibjgnmdieicaaGreat.Hist
/- spec: slices.Clone of pairs, texts and versions, walked. -/
namespace Go.Proofs.YtiibjgnmdieicaaGreat.Hist
open Go.RowKit Go.Proofs.YtiibjgnmdieicaaGreatW.PrintWords Go.Sort
abbrev tV : TypeId := 49
abbrev tPr : TypeId := 75
theorem infoV : (Tryz.prog.info? 49).map (fun i => (i.zero, i.size, i.bytes)) = some (some (.agg #[.string ByteArray.empty, .int .u64 0, .string ByteArray.empty, .slice none 0 0]), 4, 64) := by kernel_rfl
theorem infoPr : (Tryz.prog.info? 75).map (fun i => (i.zero, i.size, i.bytes)) = some (some (.agg #[.string ByteArray.empty, .string ByteArray.empty]), 2, 32) := by kernel_rfl
set_option maxHeartbeats 1000000 in
theorem cloneStr_any (A : Option Addr) (c : Nat) (l : List ByteArray) (w : World) (hC : Kd.C Kd.string w A l.length l) (hlen : l.length ≤ 1073741824) :
    Calls Tryz.prog 36 #[.slice A l.length c] w fun e w' => ∃ v, e = .returned v ∧ OwnRow (RS) 9 1 w' w.heap.size v l ∧ Below w.heap.size w w' := by
  have q : ∀ (w : World) (a : Option Addr) (n c n' c' : Nat), (binOp .eql 33 (.slice a n c) (.slice none n' c')).run Tryz.prog w = .ok (.bool a.isNone) w := fun w a n c n' c' => Lib.run_eql_slice_nil w _ _ a n c n' c' Tryz.underlying33
  cases A with
  | none =>
    have hl : l = [] := by
      cases l with
      | nil => rfl
      | cons x r =>
        obtain ⟨ad, e, _⟩ := hC.2.2 (by simp)
        cases e
    subst hl
    clear hC hlen
    go_enter Tryz.func36, Tryz.ntmps36
    go_wp2
    go_ret
    exact ⟨_, rfl, OwnRow.none_ _ _ _ _ _, Below.refl _ _⟩
  | some ad =>
    obtain ⟨inner, hrep, hcell⟩ := ReadsRow.inner_ hC
    obtain ⟨i0, hi, hz0, hz1, hz2⟩ := info_parts infoStr
    have hil : inner.length = l.length * 1 := hrep.1
    have hone : ∀ u ∈ inner, u.oneCell' = true := Kd.reps_one hrep (by decide) (fun _ _ h => Kd.string.K_one h)
    replace hcell := Lib.hid hcell
    replace hone := Lib.hid hone
    replace hrep := Lib.hid hrep
    replace hC := Lib.hid hC
    replace hil := Lib.hid hil
    go_enter Tryz.func36, Tryz.ntmps36
    go_wp2_with (first | (at_builtin; refine wpList_append_own _ rfl _ _ 33 rfl w.heap.size 9 i0 (.string ByteArray.empty) 1 16 Tryz.underlying33 hi hz0 hz1 hz2 rfl (by decide) _ _ _ rfl (World.ownsRow_made w #[] 0 (Nat.le_refl _) (Nat.zero_le _) (by simp)) ad l.length c inner rfl ?qc1 ?qc2 ?qc3 ?qc4 ?qc5 ?qc6 ?_) | go_in)
    case qc1 => exact hil.out
    case qc2 =>
      intro j u hj
      exact pw_cell_below (below_alloc (Below.refl _ _) _) (hcell.out j u hj)
    case qc3 => exact hone.out
    case qc4 => unfold maxLen; omega
    case qc5 => omega
    case qc6 => simp
    intro v' w1 hown hgrow hnil
    have hfin : Below w.heap.size w w1 := ((Below.refl _ w).alloc (Nat.le_refl _) _).grown hgrow (by simp) (by intro k hk; simp [Value.ownBlock] at hk; omega)
    replace hfin := Lib.hid hfin
    replace hown := Lib.hid hown
    clear hgrow hnil
    go_wp2
    go_ret
    exact ⟨v', rfl, ⟨inner, by simpa using hown.out, hrep.out.imp_ (fun _ _ h => h)⟩, hfin.out⟩
set_option maxHeartbeats 1000000 in
theorem clonePai_any (A : Option Addr) (c : Nat) (l : List Pai) (w : World) (hC : Kd.C kPai w A l.length l) (hlen : l.length ≤ 1073741824) :
    Calls Tryz.prog 35 #[.slice A l.length c] w fun e w' => ∃ v, e = .returned v ∧ OwnRow (kPai.K w) 75 2 w' w.heap.size v l ∧ Below w.heap.size w w' := by
  have q : ∀ (w : World) (a : Option Addr) (n c n' c' : Nat), (binOp .eql 32 (.slice a n c) (.slice none n' c')).run Tryz.prog w = .ok (.bool a.isNone) w := fun w a n c n' c' => Lib.run_eql_slice_nil w _ _ a n c n' c' Tryz.underlying32
  cases A with
  | none =>
    have hl : l = [] := by
      cases l with
      | nil => rfl
      | cons x r =>
        obtain ⟨ad, e, _⟩ := hC.2.2 (by simp)
        cases e
    subst hl
    clear hC hlen
    go_enter Tryz.func35, Tryz.ntmps35
    go_wp2
    go_ret
    exact ⟨_, rfl, OwnRow.none_ _ _ _ _ _, Below.refl _ _⟩
  | some ad =>
    obtain ⟨inner, hrep, hcell⟩ := ReadsRow.inner_ hC
    obtain ⟨i0, hi, hz0, hz1, hz2⟩ := info_parts infoPr
    have hil : inner.length = l.length * 2 := hrep.1
    have hone : ∀ u ∈ inner, u.oneCell' = true := Kd.reps_one hrep (by decide) (fun _ _ h => kPai.K_one h)
    replace hcell := Lib.hid hcell
    replace hone := Lib.hid hone
    replace hrep := Lib.hid hrep
    replace hC := Lib.hid hC
    replace hil := Lib.hid hil
    go_enter Tryz.func35, Tryz.ntmps35
    go_wp2_with (first | (at_builtin; refine wpList_append_own _ rfl _ _ 32 rfl w.heap.size 75 i0 (.agg #[.string ByteArray.empty, .string ByteArray.empty]) 2 32 Tryz.underlying32 hi hz0 hz1 hz2 rfl (by decide) _ _ _ rfl (World.ownsRow_made w #[] 0 (Nat.le_refl _) (Nat.zero_le _) (by simp)) ad l.length c inner rfl ?qc1 ?qc2 ?qc3 ?qc4 ?qc5 ?qc6 ?_) | go_in)
    case qc1 => exact hil.out
    case qc2 =>
      intro j u hj
      exact pw_cell_below (below_alloc (Below.refl _ _) _) (hcell.out j u hj)
    case qc3 => exact hone.out
    case qc4 => unfold maxLen; omega
    case qc5 => omega
    case qc6 => simp
    intro v' w1 hown hgrow hnil
    have hfin : Below w.heap.size w w1 := ((Below.refl _ w).alloc (Nat.le_refl _) _).grown hgrow (by simp) (by intro k hk; simp [Value.ownBlock] at hk; omega)
    replace hfin := Lib.hid hfin
    replace hown := Lib.hid hown
    clear hgrow hnil
    go_wp2
    go_ret
    exact ⟨v', rfl, ⟨inner, by simpa using hown.out, hrep.out⟩, hfin.out⟩
end Go.Proofs.YtiibjgnmdieicaaGreat.Hist
/- spec: copied, walked. -/
namespace Go.Proofs.YtiibjgnmdieicaaGreat.Hist
open Go.RowKit Go.Proofs.YtiibjgnmdieicaaGreatW.PrintWords Go.Sort
theorem cutn_set_ne {α : Type} (s : Nat) (l : List α) (j k m : Nat) (x : α) (hm : m < s) (h : j ≠ k) : ((l.set (k * s + m) x).drop (j * s)).take s = (l.drop (j * s)).take s := by
  apply cut_ext
  intro i
  rw [List.getElem?_take, List.getElem?_take]
  split
  · rw [List.getElem?_drop, List.getElem?_drop, List.getElem?_set_ne]
    intro e
    rcases Nat.lt_or_gt_of_ne h with h | h
    · have : (j + 1) * s ≤ k * s := Nat.mul_le_mul_right _ h
      rw [Nat.succ_mul] at this
      omega
    · have : (k + 1) * s ≤ j * s := Nat.mul_le_mul_right _ h
      rw [Nat.succ_mul] at this
      omega
  · rfl
theorem cutn_set {α : Type} (s : Nat) (l : List α) (k m : Nat) (x : α) (hm : m < s) : ((l.set (k * s + m) x).drop (k * s)).take s = ((l.drop (k * s)).take s).set m x := by
  apply cut_ext
  intro i
  rw [List.getElem?_take, List.getElem?_set, List.getElem?_take]
  by_cases e : m = i
  · subst e
    rw [if_pos hm, List.getElem?_drop, List.getElem?_set, if_pos rfl, if_pos rfl]
    simp only [List.length_take, List.length_drop]
    split <;> split <;> first | rfl | omega
  · rw [if_neg e]
    split
    · rw [List.getElem?_drop, List.getElem?_drop, List.getElem?_set_ne (by omega)]
    · rfl
/-- a cell of an element of an own row is written -/
theorem own_set {α : Type} {R R' : α → List Value → Prop} {W : World} {base s : Nat} {e : TypeId} {v : Value} {l : List α} (h : OwnRow R e s W base v l) (k : Nat) (hk : k < l.length) (m : Nat) (hm : m < s) :
    ∃ g c cs, v = .slice (some ⟨g, 0, none⟩) l.length c ∧ base ≤ g ∧ (∃ cur, W.heap[g]? = some (.cells cur e (0, 0))) ∧ cs.length = s ∧ R l[k] cs ∧ (∀ i u, cs[i]? = some u → W.cell? ⟨g, k * s + i, none⟩ = some u) ∧
      ∀ u, (R' l[k] (cs.set m u)) → (∀ p cs, R p cs → R' p cs) → OwnRow R' e s (W.setCell ⟨g, k * s + m, none⟩ u) base v l := by
  obtain ⟨inner, ⟨hl, hor⟩, hrep⟩ := h
  rcases hor with ⟨_, h0⟩ | ⟨g, cap, cur, rfl, hg, hh, hnc, hcm, hcs, htk⟩
  · omega
  have hfit : k * s + s ≤ l.length * s := by rw [← Nat.succ_mul]; exact Nat.mul_le_mul_right _ hk
  have hlen : ((inner.drop (k * s)).take s).length = s := by
    rw [List.length_take, List.length_drop, hl]
    omega
  have hR := hrep.2 k _ (List.getElem?_eq_getElem hk)
  refine ⟨g, cap, (inner.drop (k * s)).take s, rfl, hg, ⟨cur, hh⟩, hlen, hR, fun i u hu => ?_, fun u hnew hoth => ?_⟩
  · rw [List.getElem?_take] at hu
    split at hu
    · rw [List.getElem?_drop] at hu
      rw [blk_cell hh]
      rw [← htk, List.getElem?_take] at hu
      split at hu
      · rw [← Array.getElem?_toList]; exact hu
      · cases hu
    · cases hu
  · refine ⟨inner.set (k * s + m) u, ⟨by rw [List.length_set, hl], .inr ⟨g, cap, _, rfl, hg, blk_set hh _ _, hnc, hcm, by rw [Array.size_setIfInBounds]; exact hcs, ?_⟩⟩, ?_, fun j p hj => ?_⟩
    · rw [Array.toList_setIfInBounds, List.take_set, htk]
    · rw [List.length_set, hl]
    · by_cases e : k = j
      · subst e
        rw [List.getElem?_eq_getElem hk] at hj
        injection hj with hj
        subst hj
        rw [cutn_set _ _ _ _ _ hm]
        exact hnew
      · rw [cutn_set_ne _ _ _ _ _ _ hm (Ne.symm e)]
        exact hoth _ _ (hrep.2 j p hj)
/-- where keys lie: as they came, or in a row of their own -/
def KB (w W : World) (ad : Addr) : Prop := ad.block < w.heap.size ∨ ∃ cur, W.heap[ad.block]? = some (.cells cur 9 (0, 0))
theorem KB.below {w W W1 : World} {ad : Addr} (h : KB w W ad) (hb : Below W.heap.size W W1) : KB w W1 ad := by
  rcases h with h | ⟨cur, h⟩
  · exact .inl h
  · exact .inr ⟨cur, blk_below h hb⟩
theorem KB.ne {w W : World} {ad : Addr} (h : KB w W ad) {g : Nat} {c : Array Value} {t : TypeId} (hg : W.heap[g]? = some (.cells c t (0, 0))) (ht : 9 ≠ t) (hw : w.heap.size ≤ g) : ad.block ≠ g := by
  rcases h with h | ⟨cur, h⟩
  · omega
  · exact blk_ne h hg ht
theorem KB.set_ {w W : World} {ad : Addr} (h : KB w W ad) {g : Nat} {c : Array Value} {t : TypeId} (hg : W.heap[g]? = some (.cells c t (0, 0))) (ht : 9 ≠ t) (hw : w.heap.size ≤ g) (j : Nat) (u : Value) : KB w (W.setCell ⟨g, j, none⟩ u) ad := by
  have hne := h.ne hg ht hw
  rcases h with h | ⟨cur, h⟩
  · exact .inl h
  · exact .inr ⟨cur, blk_far h hne u⟩
/-- keys are read also behind a store elsewhere -/
theorem keys_set {W : World} {A : Option Addr} {l : List ByteArray} (hC : Kd.C Kd.string W A l.length l) {g : Nat} (hn : 0 < l.length → ∀ ad, A = some ad → ad.block ≠ g) (j : Nat) (u : Value) : Kd.C Kd.string (W.setCell ⟨g, j, none⟩ u) A l.length l := by
  refine ⟨hC.1, hC.2.1, fun h0 => ?_⟩
  obtain ⟨ad, ea, hc⟩ := hC.2.2 h0
  refine ⟨ad, ea, fun t q hq => ?_⟩
  obtain ⟨c1, h1, h2, h3⟩ := hc t q hq
  refine ⟨c1, h1, h2, fun i u' hu => ?_⟩
  rw [World.cell?_setCell_other]
  · exact h3 i u' hu
  · intro e2
    have : (ad.add (t * Kd.string.sz + i)).block = ad.block := by unfold Addr.add; split <;> rfl
    rw [← e2] at this
    exact hn h0 ad ea this.symm
/-- a version, and where its keys lie -/
def VR (w W : World) (p : Ver) (cs : List Value) : Prop := ∃ A c, cs = [.string p.f0, .int .u64 p.f1, .string p.f2, .slice A p.f3.length c] ∧ p.f3.length ≤ c ∧ Kd.C Kd.string W A p.f3.length p.f3 ∧ (0 < p.f3.length → ∀ ad, A = some ad → KB w W ad)
theorem VR.below {w W W1 : World} {p : Ver} {cs : List Value} (h : VR w W p cs) (hb : Below W.heap.size W W1) : VR w W1 p cs := by
  obtain ⟨A, c, e, hl, hC, hn⟩ := h
  exact ⟨A, c, e, hl, Kd.C_below hC hb, fun h0 ad ea => (hn h0 ad ea).below hb⟩
theorem VR.set_ {w W : World} {p : Ver} {cs : List Value} (h : VR w W p cs) {g : Nat} {c0 : Array Value} {t : TypeId} (hg : W.heap[g]? = some (.cells c0 t (0, 0))) (ht : 9 ≠ t) (hw : w.heap.size ≤ g) (j : Nat) (u : Value) : VR w (W.setCell ⟨g, j, none⟩ u) p cs := by
  obtain ⟨A, c, e, hl, hC, hn⟩ := h
  exact ⟨A, c, e, hl, keys_set hC (fun h0 ad ea => (hn h0 ad ea).ne hg ht hw) _ _, fun h0 ad ea => (hn h0 ad ea).set_ hg ht hw _ _⟩
theorem VR.ver {w W : World} {p : Ver} {cs : List Value} (h : VR w W p cs) : kVer.K W p cs := by
  obtain ⟨A, c, rfl, hl, hC, _⟩ := h
  exact G.k49_mk W p hl hC
/-- keys that are read lie below the heap's end -/
theorem C_block {W : World} {A : Option Addr} {l : List ByteArray} (h : Kd.C Kd.string W A l.length l) (h0 : 0 < l.length) (ad : Addr) (e : A = some ad) : ad.block < W.heap.size := by
  obtain ⟨bd, e2, hc⟩ := text_at h h0
  rw [e] at e2
  injection e2 with e2
  subst e2
  have := World.block_lt_of_cell? W _ hc
  unfold Addr.add at this
  split at this <;> exact this
/-- versions, read where their keys may be the program's own -/
def kVR (b : World) : Kd Ver where
  sz := 4
  E := []
  K w x cs := VR b w x cs
  M _ _ _ _ _ := False
  K_len := by rintro w x cs ⟨A, c, rfl, _⟩; rfl
  K_one := by
    rintro w x cs ⟨A, c, rfl, _⟩ u hu
    simp only [List.mem_cons, List.not_mem_nil, or_false] at hu
    rcases hu with rfl | rfl | rfl | rfl <;> rfl
  K_below hb h := VR.below h hb
  K_of_M h := h.elim
  M_mono _ h := h
  M_bound h := h.elim
  M_move _ h := h
  M_lower _ h := h
/-- what came in is read so -/
theorem kVR_of {w0 w : World} {A : Option Addr} {l : List Ver} (h : Kd.C kVer w0 A l.length l) (hb : Below w0.heap.size w0 w) : Kd.C (kVR w0) w A l.length l := by
  refine ⟨h.1, h.2.1, fun h0 => ?_⟩
  obtain ⟨ad, ea, hc⟩ := h.2.2 h0
  refine ⟨ad, ea, fun t q hq => ?_⟩
  obtain ⟨cs, h1, h2, h3⟩ := hc t q hq
  refine ⟨cs, h1, ?_, fun i u hu => pw_cell_below hb (h3 i u hu)⟩
  obtain ⟨A', c, rfl, hl, hC⟩ := G.k49_open h2
  exact ⟨A', c, rfl, hl, Kd.C_below hC hb, fun h0 ad ea => .inl (C_block hC h0 ad ea)⟩
set_option maxHeartbeats 1000000 in
theorem cloneVR_any (A : Option Addr) (c : Nat) (l : List Ver) (w0 w : World) (hC : Kd.C (kVR w0) w A l.length l) (hlen : l.length ≤ 1073741824) :
    Calls Tryz.prog 37 #[.slice A l.length c] w fun e w' => ∃ v, e = .returned v ∧ OwnRow (VR w0 w) 49 4 w' w.heap.size v l ∧ Below w.heap.size w w' := by
  have q : ∀ (w : World) (a : Option Addr) (n c n' c' : Nat), (binOp .eql 34 (.slice a n c) (.slice none n' c')).run Tryz.prog w = .ok (.bool a.isNone) w := fun w a n c n' c' => Lib.run_eql_slice_nil w _ _ a n c n' c' Tryz.underlying34
  cases A with
  | none =>
    have hl : l = [] := by
      cases l with
      | nil => rfl
      | cons x r =>
        obtain ⟨ad, e, _⟩ := hC.2.2 (by simp)
        cases e
    subst hl
    clear hC hlen
    go_enter Tryz.func37, Tryz.ntmps37
    go_wp2
    go_ret
    exact ⟨_, rfl, OwnRow.none_ _ _ _ _ _, Below.refl _ _⟩
  | some ad =>
    obtain ⟨inner, hrep, hcell⟩ := ReadsRow.inner_ (R := VR w0 w) (size := 4) hC
    obtain ⟨i0, hi, hz0, hz1, hz2⟩ := info_parts infoV
    have hil : inner.length = l.length * 4 := hrep.1
    have hone : ∀ u ∈ inner, u.oneCell' = true := Kd.reps_one hrep (by decide) (fun _ _ h => (kVR w0).K_one h)
    replace hcell := Lib.hid hcell
    replace hone := Lib.hid hone
    replace hrep := Lib.hid hrep
    replace hC := Lib.hid hC
    replace hil := Lib.hid hil
    go_enter Tryz.func37, Tryz.ntmps37
    go_wp2_with (first | (at_builtin; refine wpList_append_own _ rfl _ _ 34 rfl w.heap.size 49 i0 (.agg #[.string ByteArray.empty, .int .u64 0, .string ByteArray.empty, .slice none 0 0]) 4 64 Tryz.underlying34 hi hz0 hz1 hz2 rfl (by decide) _ _ _ rfl (World.ownsRow_made w #[] 0 (Nat.le_refl _) (Nat.zero_le _) (by simp)) ad l.length c inner rfl ?qc1 ?qc2 ?qc3 ?qc4 ?qc5 ?qc6 ?_) | go_in)
    case qc1 => exact hil.out
    case qc2 =>
      intro j u hj
      exact pw_cell_below (below_alloc (Below.refl _ _) _) (hcell.out j u hj)
    case qc3 => exact hone.out
    case qc4 => unfold maxLen; omega
    case qc5 => omega
    case qc6 => simp
    intro v' w1 hown hgrow hnil
    have hfin : Below w.heap.size w w1 := ((Below.refl _ w).alloc (Nat.le_refl _) _).grown hgrow (by simp) (by intro k hk; simp [Value.ownBlock] at hk; omega)
    replace hfin := Lib.hid hfin
    replace hown := Lib.hid hown
    clear hgrow hnil
    go_wp2
    go_ret
    exact ⟨v', rfl, ⟨inner, by simpa using hown.out, hrep.out⟩, hfin.out⟩
/-- what is cloned of versions -/
theorem ver_own {w0 w3 w4 : World} {v9 : Value} {l : List Ver} {b : Nat} (own9 : OwnRow (VR w0 w3) tV 4 w4 w3.heap.size v9 l) (hb3 : b ≤ w3.heap.size) (hb : Below w3.heap.size w3 w4) : OwnRow (VR w0 w4) tV 4 w4 b v9 l :=
  (own9.imp_ fun _ _ h => h.below hb).lower hb3
def RP (p : Pai) (cs : List Value) : Prop := cs = [.string p.f0, .string p.f1]
/-- the copy in the making -/
structure CP (w W : World) (x : Evt) (B4 : Option Addr) (d4 : Nat) (B5 : Option Addr) (d5 : Nat) (v9 : Value) : Prop where
  bel : Below w.heap.size w W
  blk : W.heap[w.heap.size]? = some (.cells #[.int .i64 x.f0, .int .i64 x.f1, .int .i64 x.f2, .int .u64 x.f3, .slice B4 x.f4.length d4, .slice B5 x.f5.length d5, .int .i64 x.f6.f0, .int .i64 x.f6.f1, .int .u64 x.f6.f2, v9] 38 (0, 0))
  res : W.heap[w.heap.size + 1]? = some (.cells #[.int .i64 0, .int .i64 0, .int .i64 0, .int .u64 0, .slice none 0 0, .slice none 0 0, .int .i64 0, .int .i64 0, .int .u64 0, .slice none 0 0] 38 (0, 0))
  p4 : OwnRow RP tPr 2 W w.heap.size (.slice B4 x.f4.length d4) x.f4
  p5 : OwnRow RS 9 1 W w.heap.size (.slice B5 x.f5.length d5) x.f5
theorem CP.below {w W W1 : World} {x : Evt} {B4 : Option Addr} {d4 : Nat} {B5 : Option Addr} {d5 : Nat} {v9 : Value} (h : CP w W x B4 d4 B5 d5 v9) (hb : Below W.heap.size W W1) : CP w W1 x B4 d4 B5 d5 v9 :=
  ⟨below_then h.bel h.bel.size hb, blk_below h.blk hb, blk_below h.res hb, h.p4.below hb, h.p5.below hb⟩
theorem CP.set9 {w W : World} {x : Evt} {B4 : Option Addr} {d4 : Nat} {B5 : Option Addr} {d5 : Nat} {v9 : Value} (h : CP w W x B4 d4 B5 d5 v9) (u : Value) : CP w (W.setCell ⟨w.heap.size, 9, none⟩ u) x B4 d4 B5 d5 u :=
  ⟨below_set_ h.bel (Nat.le_refl _) _, by simpa using blk_set h.blk 9 u, blk_far h.res (by simp) u, h.p4.set_ h.blk (by decide) _ _, h.p5.set_ h.blk (by decide) _ _⟩
/-- a version of the copy is written -/
theorem CP.setV {w W : World} {x : Evt} {B4 : Option Addr} {d4 : Nat} {B5 : Option Addr} {d5 : Nat} {v9 : Value} (h : CP w W x B4 d4 B5 d5 v9) {g : Nat} {cur : Array Value} (hg : W.heap[g]? = some (.cells cur tV (0, 0))) (hw : w.heap.size ≤ g) (j : Nat) (u : Value) : CP w (W.setCell ⟨g, j, none⟩ u) x B4 d4 B5 d5 v9 :=
  ⟨below_set_ h.bel hw _, blk_far h.blk (blk_ne h.blk hg (by decide)) u, blk_far h.res (blk_ne h.res hg (by decide)) u, h.p4.set_ hg (by decide) _ _, h.p5.set_ hg (by decide) _ _⟩
theorem CP.start {w V W : World} {x : Evt} {A4 : Option Addr} {c4 : Nat} {A5 : Option Addr} {c5 : Nat} {B4 : Option Addr} {d4 : Nat} {B5 : Option Addr} {d5 : Nat} {v9 : Value} {b4 b5 : Nat} (hB : Below w.heap.size w W) (hE : W.heap[w.heap.size]? = some (.cells #[.int .i64 x.f0, .int .i64 x.f1, .int .i64 x.f2, .int .u64 x.f3, .slice A4 x.f4.length c4, .slice A5 x.f5.length c5, .int .i64 x.f6.f0, .int .i64 x.f6.f1, .int .u64 x.f6.f2, v9] 38 (0, 0))) (hZ : W.heap[w.heap.size + 1]? = some (.cells #[.int .i64 0, .int .i64 0, .int .i64 0, .int .u64 0, .slice none 0 0, .slice none 0 0, .int .i64 0, .int .i64 0, .int .u64 0, .slice none 0 0] 38 (0, 0)))
    (own4 : OwnRow (kPai.K V) tPr 2 W b4 (.slice B4 x.f4.length d4) x.f4) (h4 : w.heap.size ≤ b4) (own5 : OwnRow RS 9 1 W b5 (.slice B5 x.f5.length d5) x.f5) (h5 : w.heap.size ≤ b5) : CP w ((W.setCell ⟨w.heap.size, 4, none⟩ (.slice B4 x.f4.length d4)).setCell ⟨w.heap.size, 5, none⟩ (.slice B5 x.f5.length d5)) x B4 d4 B5 d5 v9 := by
  have hE1 := blk_set hE 4 (.slice B4 x.f4.length d4)
  have o4 : OwnRow RP tPr 2 W w.heap.size (.slice B4 x.f4.length d4) x.f4 := (own4.imp_ fun p cs h => G.k75_open h).lower h4
  exact ⟨below_set_ (below_set_ hB (Nat.le_refl _) _) (Nat.le_refl _) _, by simpa using blk_set hE1 5 (.slice B5 x.f5.length d5), blk_far (blk_far hZ (by simp) _) (by simp) _, (o4.set_ hE (by decide) _ _).set_ hE1 (by decide) _ _, ((own5.lower h5).set_ hE (by decide) _ _).set_ hE1 (by decide) _ _⟩
theorem keys_own {w W : World} {A : Option Addr} {c n : Nat} {l : List ByteArray} {b : Nat} (h : OwnRow RS 9 1 W b (.slice A n c) l) : l.length ≤ c ∧ Kd.C Kd.string W A l.length l ∧ (0 < l.length → ∀ ad, A = some ad → KB w W ad) := by
  obtain ⟨A1, c1, e1, hl, hr⟩ := h.reads
  injection e1 with e1 e2 e3
  subst e1
  subst e3
  refine ⟨hl, hr, fun h0 ad ea => .inr ?_⟩
  subst ea
  exact own_typed2 h rfl
/-- a version's keys are written anew: what is known behind it -/
theorem copy_step {w0 w wr w6 : World} (hw0 : w0.heap.size ≤ w.heap.size) {x : Evt} {B4 : Option Addr} {d4 : Nat} {B5 : Option Addr} {d5 : Nat} {g d9 : Nat} {i : Nat} (hi : i < x.f6.f3.length) {B6 : Option Addr} {d6 : Nat}
    (hc : CP w wr x B4 d4 B5 d5 (.slice (some ⟨g, 0, none⟩) x.f6.f3.length d9)) (hv : OwnRow (VR w0 wr) tV 4 wr w.heap.size (.slice (some ⟨g, 0, none⟩) x.f6.f3.length d9) x.f6.f3) (hb : Below wr.heap.size wr w6)
    (own6 : OwnRow RS 9 1 w6 wr.heap.size (.slice B6 x.f6.f3[i].f3.length d6) x.f6.f3[i].f3) :
    w6.cell? ⟨w.heap.size, 9, none⟩ = some (.slice (some ⟨g, 0, none⟩) x.f6.f3.length d9) ∧ (∃ u, w6.cell? ⟨g, i * 4 + 3, none⟩ = some u) ∧ w6.frozen? ⟨g, i * 4 + 3, none⟩ = false ∧ (CP w (w6.setCell ⟨g, i * 4 + 3, none⟩ (.slice B6 x.f6.f3[i].f3.length d6)) x B4 d4 B5 d5 (.slice (some ⟨g, 0, none⟩) x.f6.f3.length d9) ∧
      OwnRow (VR w0 (w6.setCell ⟨g, i * 4 + 3, none⟩ (.slice B6 x.f6.f3[i].f3.length d6))) tV 4 (w6.setCell ⟨g, i * 4 + 3, none⟩ (.slice B6 x.f6.f3[i].f3.length d6)) w.heap.size (.slice (some ⟨g, 0, none⟩) x.f6.f3.length d9) x.f6.f3) := by
  have hc6 := hc.below hb
  have hv6 : OwnRow (VR w0 w6) tV 4 w6 w.heap.size (.slice (some ⟨g, 0, none⟩) x.f6.f3.length d9) x.f6.f3 := (hv.below hb).imp_ fun p cs h => h.below hb
  obtain ⟨g', gc, cs, ev, hg, ⟨cur, hcur⟩, hl, hR, hcell, hset⟩ := own_set (R' := VR w0 (w6.setCell ⟨g, i * 4 + 3, none⟩ (.slice B6 x.f6.f3[i].f3.length d6))) hv6 i hi 3 (by decide)
  injection ev with e1 _ e3
  injection e1 with e1
  injection e1 with e1
  subst e1
  obtain ⟨KA, kc, rfl, hkl, hkC, hkB⟩ := hR
  obtain ⟨h1, h2, h3⟩ := keys_own own6
  refine ⟨blk_cell hc6.blk 9, ⟨_, hcell 3 _ rfl⟩, blk_frozen hcur _, hc6.setV hcur hg _ _, hset _ ?_ fun p cs h => h.set_ hcur (by decide) (Nat.le_trans hw0 hg) _ _⟩
  exact ⟨B6, d6, rfl, h1, keys_set h2 (fun h0 ad ea => (h3 h0 ad ea).ne hcur (by decide) (Nat.le_trans hw0 hg)) _ _, fun h0 ad ea => (h3 h0 ad ea).set_ hcur (by decide) (Nat.le_trans hw0 hg) _ _⟩
end Go.Proofs.YtiibjgnmdieicaaGreat.Hist
/- spec: copied, walked. -/
namespace Go.Proofs.YtiibjgnmdieicaaGreat.Hist
open Go.RowKit Go.Proofs.YtiibjgnmdieicaaGreatW.PrintWords Go.Sort
abbrev tE : TypeId := 38
/-- the copy's lists, whatever is written into the result's block -/
structure FN (w0 w W : World) (x : Evt) (B4 : Option Addr) (d4 : Nat) (B5 : Option Addr) (d5 : Nat) (B9 : Option Addr) (d9 : Nat) (cells : Array Value) : Prop where
  low : w0.heap.size ≤ w.heap.size
  bel : Below w.heap.size w W
  res : W.heap[w.heap.size + 1]? = some (.cells cells 38 (0, 0))
  p4 : OwnRow RP tPr 2 W w.heap.size (.slice B4 x.f4.length d4) x.f4
  p5 : OwnRow RS 9 1 W w.heap.size (.slice B5 x.f5.length d5) x.f5
  p9 : OwnRow (VR w0 W) tV 4 W w.heap.size (.slice B9 x.f6.f3.length d9) x.f6.f3
theorem FN.set_ {w0 w W : World} {x : Evt} {B4 : Option Addr} {d4 : Nat} {B5 : Option Addr} {d5 : Nat} {B9 : Option Addr} {d9 : Nat} {cells : Array Value} (h : FN w0 w W x B4 d4 B5 d5 B9 d9 cells) (j : Nat) (u : Value) : FN w0 w (W.setCell ⟨w.heap.size + 1, j, none⟩ u) x B4 d4 B5 d5 B9 d9 (cells.setIfInBounds j u) :=
  ⟨h.low, below_set_ h.bel (Nat.le_succ _) _, blk_set h.res j u, h.p4.set_ h.res (by decide) _ _, h.p5.set_ h.res (by decide) _ _, (h.p9.imp_ fun _ _ hp => hp.set_ h.res (by decide) (Nat.le_succ_of_le h.low) _ _).set_ h.res (by decide) _ _⟩
/-- an event whose lists are the program's own -/
structure EvOwn (w0 W : World) (x : Evt) (B4 : Option Addr) (d4 : Nat) (B5 : Option Addr) (d5 : Nat) (B9 : Option Addr) (d9 : Nat) : Prop where
  p4 : OwnRow RP tPr 2 W w0.heap.size (.slice B4 x.f4.length d4) x.f4
  p5 : OwnRow RS 9 1 W w0.heap.size (.slice B5 x.f5.length d5) x.f5
  p9 : OwnRow (VR w0 W) tV 4 W w0.heap.size (.slice B9 x.f6.f3.length d9) x.f6.f3
theorem FN.own {w0 w W : World} {x : Evt} {B4 : Option Addr} {d4 : Nat} {B5 : Option Addr} {d5 : Nat} {B9 : Option Addr} {d9 : Nat} {cells : Array Value} (h : FN w0 w W x B4 d4 B5 d5 B9 d9 cells) : EvOwn w0 W x B4 d4 B5 d5 B9 d9 := ⟨h.p4.lower h.low, h.p5.lower h.low, h.p9.lower h.low⟩
theorem EvOwn.below {w0 W W1 : World} {x : Evt} {B4 : Option Addr} {d4 : Nat} {B5 : Option Addr} {d5 : Nat} {B9 : Option Addr} {d9 : Nat} (h : EvOwn w0 W x B4 d4 B5 d5 B9 d9) (hb : Below W.heap.size W W1) : EvOwn w0 W1 x B4 d4 B5 d5 B9 d9 := ⟨h.p4.below hb, h.p5.below hb, (h.p9.below hb).imp_ fun _ _ hp => hp.below hb⟩
/-- a cell of another make is written -/
theorem EvOwn.set_ {w0 W : World} {x : Evt} {B4 : Option Addr} {d4 : Nat} {B5 : Option Addr} {d5 : Nat} {B9 : Option Addr} {d9 : Nat} (h : EvOwn w0 W x B4 d4 B5 d5 B9 d9) {g : Nat} {c : Array Value} {t : TypeId} (hg : W.heap[g]? = some (.cells c t (0, 0))) (h4 : tPr ≠ t) (h5 : 9 ≠ t) (h9 : tV ≠ t) (hw : w0.heap.size ≤ g) (j : Nat) (u : Value) : EvOwn w0 (W.setCell ⟨g, j, none⟩ u) x B4 d4 B5 d5 B9 d9 :=
  ⟨h.p4.set_ hg h4 _ _, h.p5.set_ hg h5 _ _, (h.p9.imp_ fun _ _ hp => hp.set_ hg h5 hw _ _).set_ hg h9 _ _⟩
theorem EvOwn.ev {w0 W : World} {x : Evt} {B4 : Option Addr} {d4 : Nat} {B5 : Option Addr} {d5 : Nat} {B9 : Option Addr} {d9 : Nat} (h : EvOwn w0 W x B4 d4 B5 d5 B9 d9) : kEvt.K W x [.int .i64 x.f0, .int .i64 x.f1, .int .i64 x.f2, .int .u64 x.f3, .slice B4 x.f4.length d4, .slice B5 x.f5.length d5, .int .i64 x.f6.f0, .int .i64 x.f6.f1, .int .u64 x.f6.f2, .slice B9 x.f6.f3.length d9] := by
  obtain ⟨P4, p4c, ep, pl, pr⟩ := h.p4.reads
  injection ep with ep1 _ ep3
  subst ep1
  subst ep3
  obtain ⟨h5l, h5C, _⟩ := keys_own (w := w0) h.p5
  obtain ⟨V9, v9c, e9, vl, vr⟩ := h.p9.reads
  injection e9 with e91 _ e93
  subst e91
  subst e93
  exact G.k38_mk W x pl ⟨pr.1, pr.2.1, fun h0 => by
      obtain ⟨ad, ea, hcl⟩ := pr.2.2 h0
      exact ⟨ad, ea, fun j q hq => by
        obtain ⟨cc, c1, c2, c3⟩ := hcl j q hq
        exact ⟨cc, c1, by rw [show cc = _ from c2]; exact G.k75_mk W q, c3⟩⟩⟩ h5l h5C vl ⟨vr.1, vr.2.1, fun h0 => by
      obtain ⟨ad, ea, hcl⟩ := vr.2.2 h0
      exact ⟨ad, ea, fun j q hq => by
        obtain ⟨cc, c1, c2, c3⟩ := hcl j q hq
        exact ⟨cc, c1, c2.ver, c3⟩⟩⟩
theorem results_cell {fn : Func} {p : Tmp} {ty : TypeId} (h : fn.results = #[.cell p ty]) (tmps : Array Value) (P : Program) (w : World) :
    (results fn tmps).run P w = ((asAddr (tmps.getD p undef)).run P w).andThen fun a w₁ => (loadVar ty a).run P w₁ := by
  simp only [results, h]
  simp [Sem.run_bind, Result.andThen]
theorem load_ev (W : World) (b : Nat) (v0 v1 v2 v3 v4 v5 v6 v7 v8 v9 : Value) (h : W.heap[b]? = some (.cells #[v0, v1, v2, v3, v4, v5, v6, v7, v8, v9] 38 (0, 0))) : (loadVar 38 ⟨b, 0, none⟩).run Tryz.prog W = .ok (.agg #[v0, v1, v2, v3, v4, v5, v6, v7, v8, v9]) W := by
  have c0 := blk_cell h 0
  have c1 := blk_cell h 1
  have c2 := blk_cell h 2
  have c3 := blk_cell h 3
  have c4 := blk_cell h 4
  have c5 := blk_cell h 5
  have c6 := blk_cell h 6
  have c7 := blk_cell h 7
  have c8 := blk_cell h 8
  have c9 := blk_cell h 9
  simp only [List.getElem?_toArray, List.getElem?_cons_zero, List.getElem?_cons_succ] at c0 c1 c2 c3 c4 c5 c6 c7 c8 c9
  clear h
  unfold loadVar
  simp [go_sem, Tryz.isAgg38, Tryz.sizeOf38, c0, c1, c2, c3, c4, c5, c6, c7, c8, c9]
/-- left at the end, and by no exit -/
def QN (R : Act → World → Prop) : Exit → Act → World → Prop
  | .normal, a, w => R a w
  | _, _, _ => False
def RelCp (w0 w : World) (x : Evt) (B4 : Option Addr) (d4 : Nat) (B5 : Option Addr) (d5 : Nat) (B9 : Option Addr) (d9 : Nat) (s22 : Value) (wr : World) : Prop := ∃ i : Nat, i ≤ x.f6.f3.length ∧ s22 = .int .i64 i ∧ CP w wr x B4 d4 B5 d5 (.slice B9 x.f6.f3.length d9) ∧ OwnRow (VR w0 wr) tV 4 wr w.heap.size (.slice B9 x.f6.f3.length d9) x.f6.f3
/-- an event whose lists are of bounded length -/
structure EvIn (x : Evt) : Prop where
  p : x.f4.length ≤ 1048576
  k : x.f5.length ≤ 1073741824
  v : x.f6.f3.length ≤ 65536
  vk : ∀ j (h : j < x.f6.f3.length), x.f6.f3[j].f3.length ≤ 1073741824
/-- an event that is read: its lists may be the program's own -/
structure EvRd (w0 w : World) (x : Evt) (A4 : Option Addr) (c4 : Nat) (A5 : Option Addr) (c5 : Nat) (A9 : Option Addr) (c9 : Nat) : Prop where
  l4 : x.f4.length ≤ c4
  g4 : Kd.C kPai w A4 x.f4.length x.f4
  l5 : x.f5.length ≤ c5
  g5 : Kd.C Kd.string w A5 x.f5.length x.f5
  l9 : x.f6.f3.length ≤ c9
  g9 : Kd.C (kVR w0) w A9 x.f6.f3.length x.f6.f3
theorem EvRd.of {w0 w : World} {x : Evt} {A4 : Option Addr} {c4 : Nat} {A5 : Option Addr} {c5 : Nat} {A9 : Option Addr} {c9 : Nat} (hK : kEvt.K w0 x [.int .i64 x.f0, .int .i64 x.f1, .int .i64 x.f2, .int .u64 x.f3, .slice A4 x.f4.length c4, .slice A5 x.f5.length c5, .int .i64 x.f6.f0, .int .i64 x.f6.f1, .int .u64 x.f6.f2, .slice A9 x.f6.f3.length c9]) (hb : Below w0.heap.size w0 w) : EvRd w0 w x A4 c4 A5 c5 A9 c9 := by
  obtain ⟨l4, g4, l5, g5, l9, g9⟩ := evt_open hK
  exact ⟨l4, Kd.C_below g4 hb, l5, Kd.C_below g5 hb, l9, kVR_of g9 hb⟩
theorem EvRd.below {w0 w w1 : World} {x : Evt} {A4 : Option Addr} {c4 : Nat} {A5 : Option Addr} {c5 : Nat} {A9 : Option Addr} {c9 : Nat} (h : EvRd w0 w x A4 c4 A5 c5 A9 c9) (hb : Below w.heap.size w w1) : EvRd w0 w1 x A4 c4 A5 c5 A9 c9 :=
  ⟨h.l4, Kd.C_below h.g4 hb, h.l5, Kd.C_below h.g5 hb, h.l9, Kd.C_below h.g9 hb⟩
set_option maxHeartbeats 16000000 in
set_option maxRecDepth 100000 in
theorem copied_any (x : Evt) (A4 : Option Addr) (c4 : Nat) (A5 : Option Addr) (c5 : Nat) (A9 : Option Addr) (c9 : Nat) (w0 w : World) (hs0 : w0.heap.size ≤ w.heap.size) (hK : EvRd w0 w x A4 c4 A5 c5 A9 c9) (hI : EvIn x) :
    Calls Tryz.prog 22 #[.agg #[.int .i64 x.f0, .int .i64 x.f1, .int .i64 x.f2, .int .u64 x.f3, .slice A4 x.f4.length c4, .slice A5 x.f5.length c5, .int .i64 x.f6.f0, .int .i64 x.f6.f1, .int .u64 x.f6.f2, .slice A9 x.f6.f3.length c9]] w fun e w' => ∃ B4 d4 B5 d5 B9 d9, e = .returned (.agg #[.int .i64 x.f0, .int .i64 x.f1, .int .i64 x.f2, .int .u64 x.f3, .slice B4 x.f4.length d4, .slice B5 x.f5.length d5, .int .i64 x.f6.f0, .int .i64 x.f6.f1, .int .u64 x.f6.f2, .slice B9 x.f6.f3.length d9]) ∧ EvOwn w0 w' x B4 d4 B5 d5 B9 d9 ∧ Below w.heap.size w w' := by
  obtain ⟨l4, g4, l5, g5, l9, g9⟩ := hK
  have hE := blk_below (heap_alloc_new w (.cells #[.int .i64 x.f0, .int .i64 x.f1, .int .i64 x.f2, .int .u64 x.f3, .slice A4 x.f4.length c4, .slice A5 x.f5.length c5, .int .i64 x.f6.f0, .int .i64 x.f6.f1, .int .u64 x.f6.f2, .slice A9 x.f6.f3.length c9] 38)) (below_alloc (Below.refl _ _) (.cells #[.int .i64 0, .int .i64 0, .int .i64 0, .int .u64 0, .slice none 0 0, .slice none 0 0, .int .i64 0, .int .i64 0, .int .u64 0, .slice none 0 0] 38))
  have hZ := heap_alloc_new (w.alloc (.cells #[.int .i64 x.f0, .int .i64 x.f1, .int .i64 x.f2, .int .u64 x.f3, .slice A4 x.f4.length c4, .slice A5 x.f5.length c5, .int .i64 x.f6.f0, .int .i64 x.f6.f1, .int .u64 x.f6.f2, .slice A9 x.f6.f3.length c9] 38)) (.cells #[.int .i64 0, .int .i64 0, .int .i64 0, .int .u64 0, .slice none 0 0, .slice none 0 0, .int .i64 0, .int .i64 0, .int .u64 0, .slice none 0 0] 38)
  rw [World.size_alloc] at hZ
  have hB0 := below2 w (.cells #[.int .i64 x.f0, .int .i64 x.f1, .int .i64 x.f2, .int .u64 x.f3, .slice A4 x.f4.length c4, .slice A5 x.f5.length c5, .int .i64 x.f6.f0, .int .i64 x.f6.f1, .int .u64 x.f6.f2, .slice A9 x.f6.f3.length c9] 38) (.cells #[.int .i64 0, .int .i64 0, .int .i64 0, .int .u64 0, .slice none 0 0, .slice none 0 0, .int .i64 0, .int .i64 0, .int .u64 0, .slice none 0 0] 38)
  have h37 := fun W (hb : Below w.heap.size w W) => clonePai_any A4 c4 x.f4 W (Kd.C_below g4 hb) (by have := hI.p; omega)
  have h38 := fun W (hb : Below w.heap.size w W) => cloneStr_any A5 c5 x.f5 W (Kd.C_below g5 hb) hI.k
  have h39 := fun W (hb : Below w.heap.size w W) => cloneVR_any A9 c9 x.f6.f3 w0 W (Kd.C_below g9 hb) (by have := hI.v; omega)
  replace hE := Lib.hid hE
  replace hZ := Lib.hid hZ
  replace hB0 := Lib.hid hB0
  replace h37 := Lib.hid h37
  replace h38 := Lib.hid h38
  replace h39 := Lib.hid h39
  replace hI := Lib.hid hI
  replace hs0 := Lib.hid hs0
  clear l4 g4 l5 g5 l9 g9
  go_enter Tryz.func22, Tryz.ntmps22
  go_wp2
  generalize hW0 : (w.alloc (.cells #[.int .i64 x.f0, .int .i64 x.f1, .int .i64 x.f2, .int .u64 x.f3, .slice A4 x.f4.length c4, .slice A5 x.f5.length c5, .int .i64 x.f6.f0, .int .i64 x.f6.f1, .int .u64 x.f6.f2, .slice A9 x.f6.f3.length c9] 38)).alloc (.cells #[.int .i64 0, .int .i64 0, .int .i64 0, .int .u64 0, .slice none 0 0, .slice none 0 0, .int .i64 0, .int .i64 0, .int .u64 0, .slice none 0 0] 38) = W0 at *
  have e4 := blk_cell hE.out 4
  have e5 := blk_cell hE.out 5
  have lE := blk_lt hE.out
  simp only [List.getElem?_toArray, List.getElem?_cons_zero, List.getElem?_cons_succ] at e4 e5
  have hBd := Lib.hid (below_then hB0.out hB0.out.size (below_drew (Below.refl W0.heap.size W0)))
  have hEd := Lib.hid (show W0.drew.heap[w.heap.size]? = _ from hE.out)
  have hZd := Lib.hid (show W0.drew.heap[w.heap.size + 1]? = _ from hZ.out)
  refine Code.wp_mono (Q := QN fun a w3 => ∃ B4 d4 B5 d5, CP w w3 x B4 d4 B5 d5 (.slice A9 x.f6.f3.length c9) ∧ a = ⟨#[.agg #[.int .i64 x.f0, .int .i64 x.f1, .int .i64 x.f2, .int .u64 x.f3, .slice A4 x.f4.length c4, .slice A5 x.f5.length c5, .int .i64 x.f6.f0, .int .i64 x.f6.f1, .int .u64 x.f6.f2, .slice A9 x.f6.f3.length c9], .pointer (some ⟨w.heap.size, 0, none⟩), .pointer (some ⟨w.heap.size + 1, 0, none⟩), undef, .pointer (some ⟨w.heap.size, 4, none⟩), .slice A4 x.f4.length c4, .slice B4 x.f4.length d4, .pointer (some ⟨w.heap.size, 5, none⟩), .slice A5 x.f5.length c5, .slice B5 x.f5.length d5, .pointer (some ⟨w.heap.size, 4, none⟩), .pointer (some ⟨w.heap.size, 5, none⟩), undef, undef, undef, undef, undef, undef, undef, undef, undef, undef, undef, undef, undef, undef, undef, undef, undef, undef, undef, undef, undef, undef, undef, undef, undef, undef, undef, undef, undef], []⟩) ?hq ?h
  case h =>
    go_region_with (first
      | (go_at_call 35; refine (h37.out _ hBd.out).mono ?_; rintro e w1 ⟨v4, rfl, own4, hb4⟩; obtain ⟨B4, d4, rfl⟩ := slice_of own4 rfl; have hE1 := blk_below hEd.out hb4; have hZ1 := Lib.hid (blk_below hZd.out hb4); have f5 := blk_cell hE1 5; simp only [List.getElem?_toArray, List.getElem?_cons_zero, List.getElem?_cons_succ] at f5; replace hE1 := Lib.hid hE1; have hB1 := Lib.hid (below_then hBd.out hBd.out.size hb4); replace own4 := Lib.hid own4; replace hb4 := Lib.hid hb4)
      | (go_at_call 36; refine (h38.out _ hB1.out).mono ?_; rintro e w2 ⟨v5, rfl, own5, hb5⟩; obtain ⟨B5, d5, rfl⟩ := slice_of own5 rfl; have hE2 := blk_below hE1.out hb5; have hZ2 := Lib.hid (blk_below hZ1.out hb5); have k4 := blk_cell hE2 4; have k5 := blk_cell hE2 5; have z4 := blk_frozen hE2 4; have z5 := blk_frozen hE2 5; simp only [List.getElem?_toArray, List.getElem?_cons_zero, List.getElem?_cons_succ] at k4 k5; replace hE2 := Lib.hid hE2; have hB2 := Lib.hid (below_then hB1.out hB1.out.size hb5); have own42 := Lib.hid (own4.out.below hb5); replace own5 := Lib.hid own5))
    all_goals try exact ⟨_, _, _, _, CP.start hB2.out hE2.out hZ2.out own42.out (by have := hBd.out.size; exact this) own5.out hB1.out.size, rfl⟩
  case hq =>
    intro e a w3 h
    cases e with
    | normal =>
      obtain ⟨B4, d4, B5, d5, hc3, rfl⟩ := h
      clear hE hZ hB0 hBd hEd hZd e4 e5 lE h37 h38 hW0 W0
      have k9 := blk_cell hc3.blk 9
      simp only [List.getElem?_toArray, List.getElem?_cons_zero, List.getElem?_cons_succ] at k9
      replace hc3 := Lib.hid hc3
      go_wp2_with fail
      refine (h39.out w3 hc3.out.bel).mono ?_
      rintro e w4 ⟨v9, rfl, own9, hb9⟩
      obtain ⟨B9, d9, rfl⟩ := slice_of own9 rfl
      have hc4 := hc3.out.below hb9
      have hv4 := ver_own (b := w.heap.size) own9 hc3.out.bel.size hb9
      have k9 := blk_cell hc4.blk 9
      have z9 := blk_frozen hc4.blk 9
      simp only [List.getElem?_toArray, List.getElem?_cons_zero, List.getElem?_cons_succ] at k9
      have hc5 := hc4.set9 (.slice B9 x.f6.f3.length d9)
      have hv5 := (hv4.imp_ fun p cs h => h.set_ hc4.blk (by decide) hs0.out 9 (.slice B9 x.f6.f3.length d9)).set_ hc4.blk (by decide) 9 (.slice B9 x.f6.f3.length d9)
      have k59 := blk_cell hc5.blk 9
      simp only [List.getElem?_toArray, List.getElem?_cons_zero, List.getElem?_cons_succ] at k59
      have hv9m : x.f6.f3.length ≤ 65536 := hI.out.v
      replace hc5 := Lib.hid hc5
      replace hv5 := Lib.hid hv5
      clear hc3 own9 hb9 hc4 hv4 h39
      go_wp2
      go_loopw [22] (fun s22 wr => RelCp w0 w x B4 d4 B5 d5 B9 d9 s22 wr) (fun s22 _ => x.f6.f3.length - (intOf s22).toNat)
      case atStart => exact ⟨0, Nat.zero_le _, rfl, hc5.out, hv5.out⟩
      case round =>
        clear hc5 hv5 k9 z9 k59
        obtain ⟨i, hi, rfl, hc, hv⟩ := hrel
        by_cases hlt : i < x.f6.f3.length
        · obtain ⟨g, gc, cs, ev, hg, ⟨cur, hcur⟩, hl, hR, hcell, _⟩ := own_set (R' := VR w0 wr) hv i hlt 3 (by decide)
          injection ev with e1 _ e3
          subst e1
          subst e3
          obtain ⟨KA, kc, rfl, hkl, hkC, hkB⟩ := hR
          have e3 := hcell 3 _ rfl
          have k9 := blk_cell hc.blk 9
          simp only [List.getElem?_toArray, List.getElem?_cons_zero, List.getElem?_cons_succ] at k9
          have hcl := cloneStr_any KA kc x.f6.f3[i].f3 wr.drew (Kd.C_drew hkC) (hI.out.vk i hlt)
          have hbd : Below wr.heap.size wr wr.drew := below_drew (Below.refl _ _)
          replace hbd := Lib.hid hbd
          replace hcl := Lib.hid hcl
          replace hc := Lib.hid hc
          replace hv := Lib.hid hv
          clear hcell hkC hkB hcur hl hkl
          go_wp2
          go_region_with (go_at_call 36; refine hcl.out.mono ?_; rintro e w6 ⟨v6, rfl, own6, hb6⟩; obtain ⟨B6, d6, rfl⟩ := slice_of own6 rfl; obtain ⟨s9, ⟨u3, s3⟩, f3, hfin⟩ := copy_step hs0.out hlt hc.out hv.out (below_then hbd.out hbd.out.size hb6) (own6.lower hbd.out.size); replace hfin := Lib.hid hfin; clear own6 hb6)
          all_goals
            go_wp2
            go_roundw
            case rel => exact ⟨i + 1, by omega, by go_num, hfin.out.1, hfin.out.2⟩
            case measure => simp [intOf]; omega
        · obtain rfl : i = x.f6.f3.length := by omega
          have hf : FN w0 w wr x B4 d4 B5 d5 B9 d9 _ := ⟨hs0.out, hc.bel, hc.res, hc.p4, hc.p5, hv⟩
          have hf2 := ((((((((((hf.set_ 0 (.int .i64 x.f0)).set_ 1 (.int .i64 x.f1)).set_ 2 (.int .i64 x.f2)).set_ 3 (.int .u64 x.f3)).set_ 4 (.slice B4 x.f4.length d4)).set_ 5 (.slice B5 x.f5.length d5)).set_ 6 (.int .i64 x.f6.f0)).set_ 7 (.int .i64 x.f6.f1)).set_ 8 (.int .u64 x.f6.f2)).set_ 9 (.slice B9 x.f6.f3.length d9))
          have b0 := blk_cell hc.blk 0
          have b1 := blk_cell hc.blk 1
          have b2 := blk_cell hc.blk 2
          have b3 := blk_cell hc.blk 3
          have b4 := blk_cell hc.blk 4
          have b5 := blk_cell hc.blk 5
          have b6 := blk_cell hc.blk 6
          have b7 := blk_cell hc.blk 7
          have b8 := blk_cell hc.blk 8
          have b9 := blk_cell hc.blk 9
          simp only [List.getElem?_toArray, List.getElem?_cons_zero, List.getElem?_cons_succ] at b0 b1 b2 b3 b4 b5 b6 b7 b8 b9
          have hZf := hc.res
          have y0 := blk_cell hZf 0
          have y1 := blk_cell hZf 1
          have y2 := blk_cell hZf 2
          have y3 := blk_cell hZf 3
          have y4 := blk_cell hZf 4
          have y5 := blk_cell hZf 5
          have y6 := blk_cell hZf 6
          have y7 := blk_cell hZf 7
          have y8 := blk_cell hZf 8
          have y9 := blk_cell hZf 9
          simp only [List.getElem?_toArray, List.getElem?_cons_zero, List.getElem?_cons_succ] at y0 y1 y2 y3 y4 y5 y6 y7 y8 y9
          have z0 := blk_frozen hZf 0
          have z1 := blk_frozen hZf 1
          have z2 := blk_frozen hZf 2
          have z3 := blk_frozen hZf 3
          have z4 := blk_frozen hZf 4
          have z5 := blk_frozen hZf 5
          have z6 := blk_frozen hZf 6
          have z7 := blk_frozen hZf 7
          have z8 := blk_frozen hZf 8
          have z9 := blk_frozen hZf 9
          replace hf2 := Lib.hid hf2
          clear hc hv hf
          go_wp2
          simp only [List.setIfInBounds_toArray, List.set_cons_zero, List.set_cons_succ] at hf2
          generalize ((((((((((wr.setCell ⟨w.heap.size + 1, 0, none⟩ (.int .i64 x.f0)).setCell ⟨w.heap.size + 1, 1, none⟩ (.int .i64 x.f1)).setCell ⟨w.heap.size + 1, 2, none⟩ (.int .i64 x.f2)).setCell ⟨w.heap.size + 1, 3, none⟩ (.int .u64 x.f3)).setCell ⟨w.heap.size + 1, 4, none⟩ (.slice B4 x.f4.length d4)).setCell ⟨w.heap.size + 1, 5, none⟩ (.slice B5 x.f5.length d5)).setCell ⟨w.heap.size + 1, 6, none⟩ (.int .i64 x.f6.f0)).setCell ⟨w.heap.size + 1, 7, none⟩ (.int .i64 x.f6.f1)).setCell ⟨w.heap.size + 1, 8, none⟩ (.int .u64 x.f6.f2)).setCell ⟨w.heap.size + 1, 9, none⟩ (.slice B9 x.f6.f3.length d9)) = WF at *
          refine bodyPost_ret ((results_cell rfl _ _ _).trans ?_) rfl ⟨_, _, _, _, _, _, rfl, hf2.out.own, hf2.out.bel⟩
          exact load_ev WF (w.heap.size + 1) _ _ _ _ _ _ _ _ _ _ hf2.out.res
    | _ => exact h.elim
end Go.Proofs.YtiibjgnmdieicaaGreat.Hist
