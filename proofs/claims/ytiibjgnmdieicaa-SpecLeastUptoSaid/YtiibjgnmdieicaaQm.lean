/- spec: the chapter's examples, reckoned. -/
import Derived.Test.YtiibjgnmdieicaaQl
namespace Go.Proofs.Ytiibjgnmdieicaa.Hist
open Go.RowKit Go.Proofs.YtiibjgnmdieicaaW.PrintWords Go.Sort
def sa : ByteArray := ⟨#[97]⟩
def sb : ByteArray := ⟨#[98]⟩
def s0 : ByteArray := ⟨#[]⟩
def s1 : ByteArray := ⟨#[49]⟩
def s2 : ByteArray := ⟨#[50]⟩
def s3 : ByteArray := ⟨#[51]⟩
def s9 : ByteArray := ⟨#[57]⟩
def w1E : Evt := ⟨1, 0, 1, 65536, [⟨sa, s1⟩, ⟨sb, s2⟩], [], ⟨0, 0, 0, []⟩⟩
def w2E : Evt := ⟨1, 1, 1, 65537, [⟨sa, s3⟩], [], ⟨0, 0, 0, []⟩⟩
def rE (c : Int) : Evt := ⟨2, c, 1, 0, [], [sa, sb], ⟨0, 0, 0, []⟩⟩
def toldE (c : Int) (vs : List Ver) : Evt := ⟨3, c, 1, 0, [], [], ⟨1, 1, 0, vs⟩⟩
def v1 : Ver := ⟨sa, 65536, s1, [sa, sb]⟩
def v2 : Ver := ⟨sb, 0, s0, []⟩
def v3 : Ver := ⟨sb, 65536, s9, [sa, sb]⟩
def v4 : Ver := ⟨sb, 65536, s2, [sa, sb]⟩
def v5 : Ver := ⟨sa, 65537, s3, [sa]⟩
theorem k1 : stepW [] w1E = 0 := by kernel_rfl
theorem sort_ab : sortS [sa, sb] = [sa, sb] := by
  unfold sortS
  rw [List.mergeSort_of_pairwise (by decide)]
  rfl
theorem norm_w1 : normK w1E = [sa, sb] := by
  show compS (sortS [sa, sb]) = _
  rw [sort_ab]
  kernel_rfl
def hear1 : Hs := ⟨[⟨0, 65536, [⟨sa, s1⟩, ⟨sb, s2⟩], [sa, sb], 0, 0⟩], putF (fun _ => none) (0, 1) 0, putF (fun _ => none) (0, 1) 0⟩
theorem hear_w1 : hearS hs0 0 w1E = hear1 := by
  have h : hearS hs0 0 w1E = ⟨[⟨0, 65536, [⟨sa, s1⟩, ⟨sb, s2⟩], normK w1E, 0, 0⟩], putF (fun _ => none) (0, 1) 0, putF (fun _ => none) (0, 1) 0⟩ := rfl
  rw [h, norm_w1]
  rfl
theorem judged_w1 (r : List Evt) : judgeL (w1E :: r) = fnds (hearAll r 1 hear1) (w1E :: r) := by
  show fnds (hearAll r (0 + 1) (hearS hs0 0 w1E)) _ = _
  rw [hear_w1]
  rfl
theorem k2 : stepW [w1E] (rE 2) = 0 := by kernel_rfl
theorem k3 : stepW [w1E, rE 2] (toldE 2 [v1, v2]) = 4 := by
  have h : stepW [w1E, rE 2] (toldE 2 [v1, v2]) = if properB [w1E, rE 2, toldE 2 [v1, v2]] = true then (if properB [w1E, rE 2, toldE 2 [v1, v2]] = true then (if leastR (judgeL [w1E, rE 2, toldE 2 [v1, v2]]) = 0 then 0 else reasonB (leastR (judgeL [w1E, rE 2, toldE 2 [v1, v2]]))) else 1) else 1 := rfl
  rw [h, judged_w1]
  show _ = (4 : Int)
  kernel_rfl
theorem k4 : stepW [w1E, rE 2] (toldE 2 [v1, v3]) = 2 := by
  have h : stepW [w1E, rE 2] (toldE 2 [v1, v3]) = if properB [w1E, rE 2, toldE 2 [v1, v3]] = true then (if properB [w1E, rE 2, toldE 2 [v1, v3]] = true then (if leastR (judgeL [w1E, rE 2, toldE 2 [v1, v3]]) = 0 then 0 else reasonB (leastR (judgeL [w1E, rE 2, toldE 2 [v1, v3]]))) else 1) else 1 := rfl
  rw [h, judged_w1]
  show _ = (2 : Int)
  kernel_rfl
theorem k5 : stepW [w1E, rE 2] (toldE 2 [v1, v4]) = 0 := by
  have h : stepW [w1E, rE 2] (toldE 2 [v1, v4]) = if properB [w1E, rE 2, toldE 2 [v1, v4]] = true then (if properB [w1E, rE 2, toldE 2 [v1, v4]] = true then (if leastR (judgeL [w1E, rE 2, toldE 2 [v1, v4]]) = 0 then 0 else reasonB (leastR (judgeL [w1E, rE 2, toldE 2 [v1, v4]]))) else 1) else 1 := rfl
  rw [h, judged_w1]
  show _ = (0 : Int)
  kernel_rfl
theorem k6 : stepW [w1E, rE 2, toldE 2 [v1, v4]] (toldE 2 [v1, v4]) = 1 := by kernel_rfl
theorem o1 : orderS [w2E, w1E] = ([65537, 65536], true, 0) := by kernel_rfl
theorem o2 : orderS [w2E, w1E, rE 2, toldE 2 [v5, v4]] = ([65536, 65537], true, 0) := by kernel_rfl
end Go.Proofs.Ytiibjgnmdieicaa.Hist
/- spec's laws: heavy, clean, walked. -/
namespace Go.Proofs.Ytiibjgnmdieicaa.Hist
open Go.RowKit Go.Proofs.YtiibjgnmdieicaaW.PrintWords Go.Sort
def wtE (e : Evt) : Nat := 1 + e.f4.length + e.f6.f3.length
def sumE : List Evt → Nat
  | [] => 0
  | e :: r => wtE e + sumE r
theorem sumE_app (a b : List Evt) : sumE (a ++ b) = sumE a + sumE b := by
  induction a with
  | nil => simp [sumE]
  | cons x r ih => simp only [List.cons_append, sumE, ih]; omega
theorem sumE_take {l : List Evt} {j : Nat} (h : j < l.length) : sumE (l.take (j + 1)) = sumE (l.take j) + wtE l[j] := by
  rw [← List.take_append_getElem h, sumE_app]
  simp [sumE]
theorem sumE_le (l : List Evt) (j : Nat) : sumE (l.take j) ≤ sumE l := by
  have := sumE_app (l.take j) (l.drop j)
  rw [List.take_append_drop] at this
  omega
def heavyB (l : List Evt) : Bool := decide (60 < l.length) || decide (400 < sumE l)
def RelHv (w : World) (l : List Evt) (s3 s4 : Value) (wr : World) : Prop := ∃ j : Nat, j ≤ l.length ∧ s4 = .int .i64 j ∧ s3 = .int .i64 (sumE (l.take j)) ∧ Below w.heap.size w wr
set_option maxHeartbeats 4000000 in
set_option maxRecDepth 100000 in
theorem heavy_any (A : Option Addr) (c : Nat) (l : List Evt) (w : World) (hC : kEvt.C w A l.length l) (hs : sumE l ≤ 1048576) :
    Calls Try.prog 7 #[.slice A l.length c] w fun e w' => e = .returned (.bool (heavyB l)) ∧ Below w.heap.size w w' := by
  have hm : l.length ≤ 9223372036854775807 := hC.2.1
  have hb : ∃ r, r = heavyB l := ⟨_, rfl⟩
  obtain ⟨r, hr⟩ := hb
  rw [← hr]
  replace hr := Lib.hid hr
  replace hC := Lib.hid hC
  go_enter Try.func7, Try.ntmps7
  go_wp2
  go_loopw [3, 4] (fun s3 s4 wr => RelHv w l s3 s4 wr) (fun _ s4 _ => l.length - (intOf s4).toNat)
  case atStart => exact ⟨0, Nat.zero_le _, rfl, rfl, Below.refl _ _⟩
  case round =>
    obtain ⟨j, hj, rfl, rfl, hB⟩ := hrel
    by_cases hlt : j < l.length
    · obtain ⟨ad, A4, c4, A5, c5, A9, c9, rfl, q0, q1, q2, q3, q4, q5, q6, q7, q8, q9, hK, hl9, hk9⟩ := evt_at hC.out hlt
      replace q4 := pw_cell_below hB q4
      replace q9 := pw_cell_below hB q9
      have h1 := sumE_take hlt
      have h2 := sumE_le l (j + 1)
      unfold wtE at h1
      clear q0 q1 q2 q3 q5 q6 q7 q8 hK hl9 hk9
      replace hB := Lib.hid hB
      generalize l[j].f4.length = n4 at *
      generalize l[j].f6.f3.length = n9 at *
      generalize hsm : sumE (l.take j) = sm at *
      generalize hsn : sumE (l.take (j + 1)) = sn at *
      have a1 : IntKind.i64.wrap ((sm : Int) + 1) = (sm : Int) + 1 := IntWalk.i64_in _ (by omega)
      have a2 : IntKind.i64.wrap ((sm : Int) + 1 + n4) = (sm : Int) + 1 + n4 := IntWalk.i64_in _ (by omega)
      have a3 : IntKind.i64.wrap ((sm : Int) + 1 + n4 + n9) = (sm : Int) + 1 + n4 + n9 := IntWalk.i64_in _ (by omega)
      have h3 : (sn : Int) = (sm : Int) + 1 + n4 + n9 := by omega
      replace h3 := Lib.hid h3
      replace h1 := Lib.hid h1
      replace h2 := Lib.hid h2
      replace hsm := Lib.hid hsm
      replace hsn := Lib.hid hsn
      go_wp2
      go_quiet (fail)
      go_wp2
      clear a1 a2 a3
      go_roundw
      case rel => exact ⟨j + 1, by omega, by go_num, by rw [hsn.out, h3.out], below_then hB.out hB.out.size (pw_below_drewN (Below.refl _ _) _)⟩
      case measure => simp [intOf]; omega
    · obtain rfl : j = l.length := by omega
      rw [List.take_of_length_le (Nat.le_refl _)]
      unfold heavyB at hr
      by_cases h6 : 60 < l.length
      · have b6 : decide ((60 : Int) < (l.length : Int)) = true := decide_eq_true (by omega)
        have hr1 : r = true := by rw [hr.out, decide_eq_true h6]; rfl
        subst hr1
        generalize l.length = n at *
        replace h6 := Lib.hid h6
        go_wp2
        go_ret
        exact ⟨rfl, hB⟩
      · have b6 : decide ((60 : Int) < (l.length : Int)) = false := decide_eq_false (by omega)
        by_cases h4 : 400 < sumE l
        · have b4 : decide ((400 : Int) < (sumE l : Int)) = true := decide_eq_true (by omega)
          have hr1 : r = true := by rw [hr.out, decide_eq_true h4]; simp
          subst hr1
          generalize l.length = n at *
          generalize sumE l = m at *
          replace h6 := Lib.hid h6
          replace h4 := Lib.hid h4
          go_wp2
          go_ret
          exact ⟨rfl, hB⟩
        · have b4 : decide ((400 : Int) < (sumE l : Int)) = false := decide_eq_false (by omega)
          have hr1 : r = false := by rw [hr.out, decide_eq_false h6, decide_eq_false h4]; rfl
          subst hr1
          generalize l.length = n at *
          generalize sumE l = m at *
          replace h6 := Lib.hid h6
          replace h4 := Lib.hid h4
          go_wp2
          go_ret
          exact ⟨rfl, hB⟩
def cleanB (l : List Evt) : Bool := properB l && (judgeL l).isEmpty
set_option maxHeartbeats 4000000 in
set_option maxRecDepth 100000 in
theorem clean_any (A : Option Addr) (c : Nat) (l : List Evt) (w : World) (hC : kEvt.C w A l.length l) (hI : JudgeIn l) :
    Calls Try.prog 17 #[.slice A l.length c] w fun e w' => e = .returned (.bool (cleanB l)) ∧ Below w.heap.size w w' := by
  cases hp : properB l with
  | false =>
    have h := Lib.hid (judge_no A c l w hC hI hp)
    have hc : cleanB l = false := by unfold cleanB; rw [hp]; rfl
    rw [hc]
    clear hC hI hp hc
    go_enter Try.func17, Try.ntmps17
    go_wp2_with (first | (go_at_call 36; refine h.out.mono ?_; rintro e W ⟨rfl, hb⟩; replace hb := Lib.hid hb) | go_in)
    go_ret
    exact ⟨rfl, hb.out⟩
  | true =>
    have h := Lib.hid (judge_yes A c l w hC hI hp)
    have hc : cleanB l = (judgeL l).isEmpty := by unfold cleanB; rw [hp]; rfl
    rw [hc]
    clear hC hI hp hc
    unfold Judged at h
    generalize judgeL l = L at *
    cases L with
    | nil =>
      go_enter Try.func17, Try.ntmps17
      go_wp2_with (first | (go_at_call 36; refine h.out.mono ?_; rintro e W ⟨LA, lc, rfl, hrow, hb⟩; replace hb := Lib.hid hb; replace hrow := Lib.hid hrow) | go_in)
      go_ret
      exact ⟨rfl, hb.out⟩
    | cons x r =>
      have b0 : (((x :: r).length : Nat) : Int) = (r.length : Int) + 1 := by simp
      have b1 : (((r.length : Int) + 1) == 0) = false := by
        simp only [beq_eq_false_iff_ne]
        omega
      rw [show ((x :: r).isEmpty) = false from rfl]
      generalize hn : (x :: r).length = n at *
      have b2 : ((n : Int) == 0) = false := by rw [b0]; exact b1
      clear b0 b1
      replace hn := Lib.hid hn
      go_enter Try.func17, Try.ntmps17
      go_wp2_with (first | (go_at_call 36; refine h.out.mono ?_; rintro e W ⟨LA, lc, rfl, hrow, hb⟩; replace hb := Lib.hid hb; replace hrow := Lib.hid hrow) | go_in)
      go_ret
      exact ⟨rfl, hb.out⟩
end Go.Proofs.Ytiibjgnmdieicaa.Hist
/- spec's laws: fine, walked. -/
namespace Go.Proofs.Ytiibjgnmdieicaa.Hist
open Go.RowKit Go.Proofs.YtiibjgnmdieicaaW.PrintWords Go.Sort
section
variable {P : Program} {ops : Array Oper} {Q : Exit → Act → World → Prop} {md : Region.Mode} {S : World → Prop} {n : Nat}
/-- two may come up -/
theorem wpAnyF_two {i j : Nat} {oi oj : Oper} {fuel : Nat} {listed : Array Bool} {a : Act} {w : World} (hr : Region.ready md ops listed = [i, j]) (hoi : ops[i]? = some oi) (hoj : ops[j]? = some oj)
    (h1 : ∀ K' : Act → World → Prop, Shut (∀ a w, S w → (S w → wpAnyF P md ops Q S n fuel (listed.setIfInBounds i true) a w) → K' a w) → if Region.wanted oi (yielded ops a.tmps) = true then Oper.wp P oi a w K' Q else K' (a.put oi.dst undef) w)
    (h2 : ∀ K' : Act → World → Prop, Shut (∀ a w, S w → (S w → wpAnyF P md ops Q S n fuel (listed.setIfInBounds j true) a w) → K' a w) → if Region.wanted oj (yielded ops a.tmps) = true then Oper.wp P oj a w K' Q else K' (a.put oj.dst undef) w) :
    wpAnyF P md ops Q S n (fuel + 1) listed a w :=
  ⟨fun h0 => (by rw [hr] at h0; cases h0), fun k hk => by
    rw [hr] at hk
    rcases List.mem_cons.1 hk with rfl | hk
    · exact wpOp_step hoi (fun K' hK => h1 K' (fun a w hS hW => hK a w ⟨fun _ => hS, hW hS⟩))
    · obtain rfl : k = j := by simpa using hk
      exact wpOp_step hoj (fun K' hK => h2 K' (fun a w hS hW => hK a w ⟨fun _ => hS, hW hS⟩))⟩
end
/-- a slice's beginning -/
theorem C_pre {w : World} {A : Option Addr} {l r : List Evt} (h : kEvt.C w A (l ++ r).length (l ++ r)) : kEvt.C w A l.length l := by
  refine ⟨rfl, ?_, fun h0 => ?_⟩
  · have := h.2.1
    rw [List.length_append] at this
    omega
  · obtain ⟨ad, ea, hc⟩ := h.2.2 (by rw [List.length_append]; omega)
    refine ⟨ad, ea, fun t q hq => hc t q ?_⟩
    rw [List.getElem?_append_left (List.getElem?_eq_some_iff.1 hq).1]
    exact hq
def fineB (evs : List Evt) (x : Evt) : Bool := if x.f0 = 1 ∧ x.f3 = 0 then properB (evs ++ [x] ++ [refusedEv x]) && cleanB evs else properB (evs ++ [x]) && cleanB (evs ++ [x])
theorem infoEv : (Try.prog.info? 36).map (fun i => (i.zero, i.size, i.bytes)) = some (some (.agg #[.int .i64 0, .int .i64 0, .int .i64 0, .int .u64 0, .slice none 0 0, .slice none 0 0, .int .i64 0, .int .i64 0, .int .u64 0, .slice none 0 0]), 10, 128) := by kernel_rfl
/-- events in a row, read from the world they came in -/
theorem own_C {w W : World} {A : Option Addr} {n c b : Nat} {l : List Evt} (h : OwnRow (kEvt.K w) tE 10 W b (.slice A n c) l) (hb : Below w.heap.size w W) : kEvt.C W A l.length l ∧ n = l.length ∧ l.length ≤ c := by
  obtain ⟨A1, c1, e1, hl, hr⟩ := h.reads
  injection e1 with e1 e2 e3
  subst e1
  subst e3
  refine ⟨⟨hr.1, hr.2.1, fun h0 => ?_⟩, e2, hl⟩
  obtain ⟨ad, ea, hc⟩ := hr.2.2 h0
  refine ⟨ad, ea, fun t q hq => ?_⟩
  obtain ⟨cs, h1, h2, h3⟩ := hc t q hq
  exact ⟨cs, h1, kEvt.K_below hb h2, h3⟩
def refCells (x : Evt) : List Value := [.int .i64 3, .int .i64 x.f1, .int .i64 x.f2, .int .u64 0, .slice none 0 0, .slice none 0 0, .int .i64 x.f2, .int .i64 5, .int .u64 0, .slice none 0 0]
theorem ref_K (w : World) (x : Evt) : kEvt.K w (refusedEv x) (refCells x) :=
  G.k36_mk w (refusedEv x) (Nat.zero_le _) ⟨rfl, by simp [refusedEv], fun h => absurd h (Nat.lt_irrefl _)⟩ (Nat.zero_le _) ⟨rfl, by simp [refusedEv], fun h => absurd h (Nat.lt_irrefl _)⟩ (Nat.zero_le _) ⟨rfl, by simp [refusedEv], fun h => absurd h (Nat.lt_irrefl _)⟩
theorem ref_one (x : Evt) : ∀ u ∈ refCells x, u.oneCell' = true := kEvt.K_one (ref_K default x)
set_option maxHeartbeats 8000000 in
set_option maxRecDepth 100000 in
theorem fine_any (A : Option Addr) (c : Nat) (evs : List Evt) (x : Evt) (w : World) (hC : kEvt.C w A (evs ++ [x]).length (evs ++ [x])) (hc : (evs ++ [x]).length ≤ c) (hI : JudgeIn (evs ++ [x])) (hlen : evs.length + 2 ≤ 1048576) :
    Calls Try.prog 10 #[.slice A (evs ++ [x]).length c] w fun e w' => e = .returned (.bool (fineB evs x)) ∧ Below w.heap.size w w' := by
  obtain ⟨ad, A4, c4, A5, c5, A9, c9, rfl, q0, q1, q2, q3, q4, q5, q6, q7, q8, q9, hK, hl9, hk9⟩ := evt_at hC (j := evs.length) (by simp)
  simp only [List.getElem_concat_length] at q0 q1 q2 q3 q4 q5 q6 q7 q8 q9
  clear hK hl9 hk9
  have hl1 : (evs ++ [x]).length = evs.length + 1 := by simp
  have hCe := C_pre hC
  have hIe : JudgeIn evs := ⟨by omega, fun j h => by have := hI.prs j (by simp; omega); rwa [List.getElem_append_left h] at this, fun j h => by have := hI.vrs j (by simp; omega); rwa [List.getElem_append_left h] at this⟩
  have hE := heap_alloc_new w (.cells #[.int .i64 x.f0, .int .i64 x.f1, .int .i64 x.f2, .int .u64 x.f3, .slice A4 x.f4.length c4, .slice A5 x.f5.length c5, .int .i64 x.f6.f0, .int .i64 x.f6.f1, .int .u64 x.f6.f2, .slice A9 x.f6.f3.length c9] 36)
  have hbE : Below w.heap.size w (w.alloc (.cells #[.int .i64 x.f0, .int .i64 x.f1, .int .i64 x.f2, .int .u64 x.f3, .slice A4 x.f4.length c4, .slice A5 x.f5.length c5, .int .i64 x.f6.f0, .int .i64 x.f6.f1, .int .u64 x.f6.f2, .slice A9 x.f6.f3.length c9] 36)) := below_alloc (Below.refl _ _) _
  have hpr := proper_any (some ad) c _ _ (Kd.C_below hC hbE) hI.few
  have hcl := fun W (hb : Below w.heap.size w W) => clean_any (some ad) c _ W (Kd.C_below hC hb) hI
  have hce := fun W (hb : Below w.heap.size w W) => clean_any (some ad) c _ W (Kd.C_below hCe hb) hIe
  rw [hl1] at hpr hc
  simp only [hl1] at hcl
  rw [hl1]
  obtain ⟨n, hn⟩ : ∃ n, evs.length = n := ⟨_, rfl⟩
  rw [hn] at hpr hc hlen q0 q1 q2 q3 q4 q5 q6 q7 q8 q9 ⊢
  simp only [hn] at hcl hce
  have hnm : n + 1 ≤ 9223372036854775807 := by omega
  have a1 : IntKind.i64.wrap ((n : Int) + 1 - 1) = n := by
    have : ((n : Int) + 1 - 1) = n := by omega
    rw [this]
    exact IntWalk.i64_in _ (by omega)
  have b0 : (((n : Int) + 1) == 0) = false := by
    simp only [beq_eq_false_iff_ne]
    omega
  replace hC := Lib.hid hC
  replace hCe := Lib.hid hCe
  replace hI := Lib.hid hI
  replace hE := Lib.hid hE
  replace hbE := Lib.hid hbE
  replace hpr := Lib.hid hpr
  replace hcl := Lib.hid hcl
  replace hce := Lib.hid hce
  replace hIe := Lib.hid hIe
  replace hl1 := Lib.hid hl1
  replace hn := Lib.hid hn
  by_cases hx : x.f0 = 1 ∧ x.f3 = 0
  · have hf : fineB evs x = (properB (evs ++ [x] ++ [refusedEv x]) && cleanB evs) := by unfold fineB; rw [if_pos hx]
    rw [hf]
    have b1 : (x.f0 != 1) = false := by rw [hx.1]; rfl
    have b2 : (x.f3 != 0) = false := by rw [hx.2]; rfl
    obtain ⟨inner, hrep, hcell⟩ := ReadsRow.inner_ (R := kEvt.K w) (size := 10) hC.out
    obtain ⟨i0, hi, hz0, hz1, hz2⟩ := info_parts infoEv
    have hil : inner.length = (n + 1) * 10 := by rw [← hn.out, ← hl1.out]; exact hrep.1
    have hone : ∀ u ∈ inner, u.oneCell' = true := Kd.reps_one hrep (by decide) (fun _ _ h => kEvt.K_one h)
    replace hcell := Lib.hid hcell
    replace hrep := Lib.hid hrep
    replace hil := Lib.hid hil
    replace hone := Lib.hid hone
    replace hx := Lib.hid hx
    clear hf hpr hcl
    go_enter Try.func10, Try.ntmps10
    go_wp2
    clear q0 q1 q2 q3 q4 q5 q6 q7 q8 q9
    generalize w.alloc (.cells #[.int .i64 x.f0, .int .i64 x.f1, .int .i64 x.f2, .int .u64 x.f3, .slice A4 x.f4.length c4, .slice A5 x.f5.length c5, .int .i64 x.f6.f0, .int .i64 x.f6.f1, .int .u64 x.f6.f2, .slice A9 x.f6.f3.length c9] 36) = W1 at *
    have hED := Lib.hid (blk_below hE.out (below_drew (Below.refl _ _)))
    have hbD := Lib.hid (below_then hbE.out hbE.out.size (below_drew (Below.refl _ _)))
    have hsB := heap_alloc_new W1.drew (.cells (refCells x).toArray 36)
    have hbB0 : Below W1.drew.heap.size W1.drew (W1.drew.alloc (.cells (refCells x).toArray 36)) := below_alloc (Below.refl _ _) _
    have hEB := Lib.hid (blk_below hED.out hbB0)
    have hbB := Lib.hid (below_then hbD.out hbD.out.size hbB0)
    replace hsB := Lib.hid hsB
    clear hbB0
    have hHeld : W1.drew.cell? ⟨w.heap.size, 1, none⟩ = some (.int .i64 x.f1) ∧ W1.drew.cell? ⟨w.heap.size, 2, none⟩ = some (.int .i64 x.f2) := ⟨blk_cell hED.out 1, blk_cell hED.out 2⟩
    refine wp_region_noPanic ?_
    refine wp_region_F 12 (fun W => W.cell? ⟨w.heap.size, 1, none⟩ = some (.int .i64 x.f1) ∧ W.cell? ⟨w.heap.size, 2, none⟩ = some (.int .i64 x.f2)) (by kernel_rfl) ?_
    refine wpAnyF_take (i := 0) (v := ?_) rfl (by kernel_rfl) (by kernel_rfl) (by kernel_rfl) rfl (by kernel_rfl) rfl (fun _ _ _ _ _ h => h) hHeld rfl ?_ ?_
    rotate_left 1
    · rintro w' ⟨y0, y1⟩
      go_simp
      try with_reducible rfl
    simp only [Act.put]
    refine wpAnyF_take (i := 2) (v := ?_) rfl (by kernel_rfl) (by kernel_rfl) (by kernel_rfl) rfl (by kernel_rfl) rfl (fun _ _ _ _ _ h => h) hHeld rfl ?_ ?_
    rotate_left 1
    · rintro w' ⟨y0, y1⟩
      go_simp
      try with_reducible rfl
    simp only [Act.put]
    refine wpAnyF_take (i := 3) (v := ?_) rfl (by kernel_rfl) (by kernel_rfl) (by kernel_rfl) rfl (by kernel_rfl) rfl (fun _ _ _ _ _ h => h) hHeld rfl ?_ ?_
    rotate_left 1
    · rintro w' ⟨y0, y1⟩
      go_simp
      try with_reducible rfl
    simp only [Act.put]
    refine wpAnyF_take (i := 4) (v := ?_) rfl (by kernel_rfl) (by kernel_rfl) (by kernel_rfl) rfl (by kernel_rfl) rfl (fun _ _ _ _ _ h => h) hHeld rfl ?_ ?_
    rotate_left 1
    · rintro w' ⟨y0, y1⟩
      go_simp
      try with_reducible rfl
    simp only [Act.put]
    refine wpAnyF_take (i := 5) (v := ?_) rfl (by kernel_rfl) (by kernel_rfl) (by kernel_rfl) rfl (by kernel_rfl) rfl (fun _ _ _ _ _ h => h) hHeld rfl ?_ ?_
    rotate_left 1
    · rintro w' ⟨y0, y1⟩
      go_simp
      try with_reducible rfl
    simp only [Act.put]
    refine wpAnyF_take (i := 6) (v := ?_) rfl (by kernel_rfl) (by kernel_rfl) (by kernel_rfl) rfl (by kernel_rfl) rfl (fun _ _ _ _ _ h => h) hHeld rfl ?_ ?_
    rotate_left 1
    · rintro w' ⟨y0, y1⟩
      go_simp
      try with_reducible rfl
    simp only [Act.put]
    refine wpAnyF_take (i := 7) (v := ?_) rfl (by kernel_rfl) (by kernel_rfl) (by kernel_rfl) rfl (by kernel_rfl) rfl (fun _ _ _ _ _ h => h) hHeld rfl ?_ ?_
    rotate_left 1
    · rintro w' ⟨y0, y1⟩
      go_simp
      try with_reducible rfl
    simp only [Act.put]
    refine wpAnyF_take (i := 8) (v := ?_) rfl (by kernel_rfl) (by kernel_rfl) (by kernel_rfl) rfl (by kernel_rfl) rfl (fun _ _ _ _ _ h => h) hHeld rfl ?_ ?_
    rotate_left 1
    · rintro w' ⟨y0, y1⟩
      go_simp
      try with_reducible rfl
    simp only [Act.put]
    refine wpAnyF_take (i := 9) (v := ?_) rfl (by kernel_rfl) (by kernel_rfl) (by kernel_rfl) rfl (by kernel_rfl) rfl (fun _ _ _ _ _ h => h) hHeld rfl ?_ ?_
    rotate_left 1
    · rintro w' ⟨y0, y1⟩
      go_simp
      try with_reducible rfl
    simp only [Act.put]
    refine wpAnyF_two (i := 1) (j := 10) (by kernel_rfl) rfl rfl (fun K hK => ?_) (fun K hK => ?_)
    · refine step_append_lies (w := W1.drew) rfl _ (.tmp 29) 22 rfl w.heap.size 36 i0 _ 10 128 Try.underlying22 hi hz0 hz1 hz2 rfl (by decide) (.slice none 0 0) 0 [] (by simp [Act.eval]) (World.ownsRow_nil _ _ _ _) ad (n + 1) c inner (by simp [Act.eval]) (by exact hil.out) (fun j u hj => pw_cell_below hbD.out (hcell.out j u hj)) hone.out (by omega) (by unfold maxLen; omega) (by omega) (by exact hbD.out.size) _ rfl ?_
      intro g cap W2 own2 gr2 at2 lt2
      have hgE : w.heap.size < g := by
        rcases at2 with h | h
        · cases h
        · subst h
          exact blk_lt hED.out
      have hE2 := blk_grown hED.out gr2 (by simp [Value.ownBlock])
      have hb2 := pw_below_grown hbD.out none hbD.out.size gr2 (fun k h => by cases h)
      simp only [Nat.zero_add, List.nil_append] at own2 ⊢
      have hB3 := heap_alloc_new W2 (.cells (refCells x).toArray 36)
      have hbs : Below W2.heap.size W2 (W2.alloc (.cells (refCells x).toArray 36)) := below_alloc (Below.refl _ _) _
      have hE3 := blk_below hE2 hbs
      have hb3 := below_then hb2 hb2.size hbs
      have own3 := own2.alloc (.cells (refCells x).toArray 36)
      refine hK.out _ _ ⟨blk_cell hE2 1, blk_cell hE2 2⟩ (fun hq => ?_)
      clear hK K hq
      simp only [Act.put]
      replace hE3 := Lib.hid hE3
      replace hb3 := Lib.hid hb3
      replace hB3 := Lib.hid hB3
      replace own3 := Lib.hid own3
      clear own2 gr2 at2 hE2 hb2 hbs hHeld
      refine wpAnyF_one (i := 10) (by kernel_rfl) rfl (fun K hK => ?_)
      go_simp
      refine hK.out _ _ ⟨blk_cell hE3.out 1, blk_cell hE3.out 2⟩ (fun hq => ?_)
      clear hK K hq
      refine wpAnyF_one (i := 11) (by kernel_rfl) rfl (fun K hK => ?_)
      refine step_append_lies (w := _) rfl (.tmp 30) (.tmp 39) 22 rfl w.heap.size 36 i0 _ 10 128 Try.underlying22 hi hz0 hz1 hz2 rfl (by decide) (.slice (some ⟨g, 0, none⟩) (n + 1) cap) (n + 1) inner (by simp [Act.eval]) (by exact own3.out) ⟨W2.heap.size, 0, none⟩ 1 1 (refCells x) (by simp [Act.eval]) rfl (by exact World.news_of_block hB3.out) (ref_one x) (by omega) (by unfold maxLen; omega) (by omega) (by exact hb3.out.size) _ rfl ?_
      intro g4 cap4 W4 own4 gr4 at4 lt4
      have hE4 := blk_grown hE3.out gr4 (by simp only [Value.ownBlock, ne_eq, Option.some.injEq]; omega)
      have hb4 := pw_below_grown hb3.out (some g) hb3.out.size gr4 (fun k h => by injection h with h; omega)
      have hO4 : OwnRow (kEvt.K w) tE 10 W4 w.heap.size (.slice (some ⟨g4, 0, none⟩) (n + 1 + 1) cap4) (evs ++ [x] ++ [refusedEv x]) := ⟨inner ++ refCells x, by rw [show (evs ++ [x] ++ [refusedEv x]).length = n + 1 + 1 by simp [hn.out]]; exact own4, hrep.out.snoc (ref_K w x) rfl⟩
      obtain ⟨hC4, hn4, hl4⟩ := own_C hO4 hb4
      have hpr := proper_any _ cap4 _ W4 hC4 (by rw [← hn4]; omega)
      rw [← hn4] at hpr
      replace hpr := Lib.hid hpr
      replace hE4 := Lib.hid hE4
      replace hb4 := Lib.hid hb4
      clear own4 gr4 at4 lt4 hO4 hC4 hn4 hl4
      refine hK.out _ _ ⟨blk_cell hE4.out 1, blk_cell hE4.out 2⟩ (fun hq => ?_)
      clear hK K hq
      simp only [Act.put]
      refine wpAnyF_last (by kernel_rfl) rfl (by kernel_rfl) rfl (fun K hK => ?_)
      go_simp
      refine hK.out _ _ (NoPanic.normal ?_)
      clear hK K
      cases hp : properB (evs ++ [x] ++ [refusedEv x]) with
      | false =>
        rw [hp] at hpr
        go_wp2_with (first | (go_at_call 13; refine hpr.out.mono ?_; rintro e W5 ⟨rfl, hb5⟩; replace hb5 := Lib.hid hb5) | go_in)
        go_ret
        exact ⟨by rw [hp]; rfl, below_then hb4.out hb4.out.size hb5.out⟩
      | true =>
        rw [hp] at hpr
        go_wp2_with (first
          | (go_at_call 13; refine hpr.out.mono ?_; rintro e W5 ⟨rfl, hb5⟩; have hc5 := Lib.hid (hce.out W5 (below_then hb4.out hb4.out.size hb5)); replace hb5 := Lib.hid hb5)
          | (go_at_call 17; refine hc5.out.mono ?_; rintro e W6 ⟨rfl, hb6⟩; replace hb6 := Lib.hid hb6)
          | go_in)
        go_ret
        exact ⟨by rw [hp]; rfl, below_then hb4.out hb4.out.size (below_then hb5.out hb5.out.size hb6.out)⟩
    · go_simp
      refine hK.out _ _ ⟨blk_cell hEB.out 1, blk_cell hEB.out 2⟩ (fun hq => ?_)
      clear hK K hq hHeld
      refine wpAnyF_one (i := 1) (by kernel_rfl) rfl (fun K hK => ?_)
      refine step_append_lies (w := W1.drew.alloc (.cells (refCells x).toArray 36)) rfl _ (.tmp 29) 22 rfl w.heap.size 36 i0 _ 10 128 Try.underlying22 hi hz0 hz1 hz2 rfl (by decide) (.slice none 0 0) 0 [] (by simp [Act.eval]) (World.ownsRow_nil _ _ _ _) ad (n + 1) c inner (by simp [Act.eval]) (by exact hil.out) (fun j u hj => pw_cell_below hbB.out (hcell.out j u hj)) hone.out (by omega) (by unfold maxLen; omega) (by omega) (by exact hbB.out.size) _ rfl ?_
      intro g cap W2 own2 gr2 at2 lt2
      have hgE : w.heap.size < g := by
        rcases at2 with h | h
        · cases h
        · subst h
          exact blk_lt hEB.out
      have hE2 := blk_grown hEB.out gr2 (by simp [Value.ownBlock])
      have hb2 := pw_below_grown hbB.out none hbB.out.size gr2 (fun k h => by cases h)
      simp only [Nat.zero_add, List.nil_append] at own2 ⊢
      have hB3 := blk_grown hsB.out gr2 (by simp [Value.ownBlock])
      have hE3 := hE2
      have hb3 := hb2
      have own3 := own2
      refine hK.out _ _ ⟨blk_cell hE2 1, blk_cell hE2 2⟩ (fun hq => ?_)
      clear hK K hq
      simp only [Act.put]
      replace hE3 := Lib.hid hE3
      replace hb3 := Lib.hid hb3
      replace hB3 := Lib.hid hB3
      replace own3 := Lib.hid own3
      clear own2 gr2 at2 hE2 hb2
      refine wpAnyF_one (i := 11) (by kernel_rfl) rfl (fun K hK => ?_)
      refine step_append_lies (w := _) rfl (.tmp 30) (.tmp 39) 22 rfl w.heap.size 36 i0 _ 10 128 Try.underlying22 hi hz0 hz1 hz2 rfl (by decide) (.slice (some ⟨g, 0, none⟩) (n + 1) cap) (n + 1) inner (by simp [Act.eval]) (by exact own3.out) ⟨W1.heap.size, 0, none⟩ 1 1 (refCells x) (by simp [Act.eval]) rfl (by exact World.news_of_block hB3.out) (ref_one x) (by omega) (by unfold maxLen; omega) (by omega) (by exact hb3.out.size) _ rfl ?_
      intro g4 cap4 W4 own4 gr4 at4 lt4
      have hE4 := blk_grown hE3.out gr4 (by simp only [Value.ownBlock, ne_eq, Option.some.injEq]; omega)
      have hb4 := pw_below_grown hb3.out (some g) hb3.out.size gr4 (fun k h => by injection h with h; omega)
      have hO4 : OwnRow (kEvt.K w) tE 10 W4 w.heap.size (.slice (some ⟨g4, 0, none⟩) (n + 1 + 1) cap4) (evs ++ [x] ++ [refusedEv x]) := ⟨inner ++ refCells x, by rw [show (evs ++ [x] ++ [refusedEv x]).length = n + 1 + 1 by simp [hn.out]]; exact own4, hrep.out.snoc (ref_K w x) rfl⟩
      obtain ⟨hC4, hn4, hl4⟩ := own_C hO4 hb4
      have hpr := proper_any _ cap4 _ W4 hC4 (by rw [← hn4]; omega)
      rw [← hn4] at hpr
      replace hpr := Lib.hid hpr
      replace hE4 := Lib.hid hE4
      replace hb4 := Lib.hid hb4
      clear own4 gr4 at4 lt4 hO4 hC4 hn4 hl4
      refine hK.out _ _ ⟨blk_cell hE4.out 1, blk_cell hE4.out 2⟩ (fun hq => ?_)
      clear hK K hq
      simp only [Act.put]
      refine wpAnyF_last (by kernel_rfl) rfl (by kernel_rfl) rfl (fun K hK => ?_)
      go_simp
      refine hK.out _ _ (NoPanic.normal ?_)
      clear hK K
      cases hp : properB (evs ++ [x] ++ [refusedEv x]) with
      | false =>
        rw [hp] at hpr
        go_wp2_with (first | (go_at_call 13; refine hpr.out.mono ?_; rintro e W5 ⟨rfl, hb5⟩; replace hb5 := Lib.hid hb5) | go_in)
        go_ret
        exact ⟨by rw [hp]; rfl, below_then hb4.out hb4.out.size hb5.out⟩
      | true =>
        rw [hp] at hpr
        go_wp2_with (first
          | (go_at_call 13; refine hpr.out.mono ?_; rintro e W5 ⟨rfl, hb5⟩; have hc5 := Lib.hid (hce.out W5 (below_then hb4.out hb4.out.size hb5)); replace hb5 := Lib.hid hb5)
          | (go_at_call 17; refine hc5.out.mono ?_; rintro e W6 ⟨rfl, hb6⟩; replace hb6 := Lib.hid hb6)
          | go_in)
        go_ret
        exact ⟨by rw [hp]; rfl, below_then hb4.out hb4.out.size (below_then hb5.out hb5.out.size hb6.out)⟩
  · have hf : fineB evs x = (properB (evs ++ [x]) && cleanB (evs ++ [x])) := by unfold fineB; rw [if_neg hx]
    rw [hf]
    clear hf hce hIe hCe hE
    have hcond : (x.f0 != 1) = true ∨ ((x.f0 != 1) = false ∧ (x.f3 != 0) = true) := by
      by_cases h1 : x.f0 = 1
      · exact .inr ⟨by rw [h1]; rfl, by simpa using fun h3 => hx ⟨h1, h3⟩⟩
      · exact .inl (by simpa using h1)
    clear hx
    cases hp : properB (evs ++ [x]) with
    | false =>
      rw [hp] at hpr
      rcases hcond with b1 | ⟨b1, b2⟩
      all_goals
        go_enter Try.func10, Try.ntmps10
        go_wp2_with (first | (go_at_call 13; refine hpr.out.mono ?_; rintro e W2 ⟨rfl, hb2⟩; replace hb2 := Lib.hid hb2) | go_in)
        go_ret
        exact ⟨rfl, below_then hbE.out hbE.out.size hb2.out⟩
    | true =>
      rw [hp] at hpr
      rcases hcond with b1 | ⟨b1, b2⟩
      all_goals
        go_enter Try.func10, Try.ntmps10
        go_wp2_with (first
          | (go_at_call 13; refine hpr.out.mono ?_; rintro e W2 ⟨rfl, hb2⟩; have hc2 := Lib.hid (hcl.out W2 (below_then hbE.out hbE.out.size hb2)); replace hb2 := Lib.hid hb2)
          | (go_at_call 17; refine hc2.out.mono ?_; rintro e W3 ⟨rfl, hb3⟩; replace hb3 := Lib.hid hb3)
          | go_in)
        go_ret
        exact ⟨by simp, below_then hbE.out hbE.out.size (below_then hb2.out hb2.out.size hb3.out)⟩
end Go.Proofs.Ytiibjgnmdieicaa.Hist
/- spec's laws: the events of the examples, walked. -/
namespace Go.Proofs.Ytiibjgnmdieicaa.Hist
open Go.RowKit Go.Proofs.YtiibjgnmdieicaaW.PrintWords Go.Sort
theorem load_ver (W : World) (b : Nat) (v0 v1 v2 v3 : Value) (h : W.heap[b]? = some (.cells #[v0, v1, v2, v3] 54 (0, 0))) : (loadVar 54 ⟨b, 0, none⟩).run Try.prog W = .ok (.agg #[v0, v1, v2, v3]) W := by
  have c0 := blk_cell h 0
  have c1 := blk_cell h 1
  have c2 := blk_cell h 2
  have c3 := blk_cell h 3
  simp only [List.getElem?_toArray, List.getElem?_cons_zero, List.getElem?_cons_succ] at c0 c1 c2 c3
  clear h
  unfold loadVar
  simp [go_sem, Try.isAgg54, Try.sizeOf54, c0, c1, c2, c3]
set_option maxHeartbeats 2000000 in
set_option maxRecDepth 100000 in
theorem w1_any (w : World) : Calls Try.prog 20 #[] w fun e w' => ∃ P, e = .returned (.agg #[.int .i64 1, .int .i64 0, .int .i64 1, .int .u64 65536, .slice (some ⟨P, 0, none⟩) 2 2, .slice none 0 0, .int .i64 0, .int .i64 0, .int .u64 0, .slice none 0 0]) ∧ w'.heap[P]? = some (.cells #[.string sa, .string s1, .string sb, .string s2] tPr (0, 0)) ∧ Below w.heap.size w w' := by
  go_enter Try.func20, Try.ntmps20
  go_wp2
  refine bodyPost_ret ((results_cell rfl _ _ _).trans ?_) rfl ⟨w.heap.size + 1, rfl, ?_, below2 w _ _⟩
  · exact load_ev _ w.heap.size _ _ _ _ _ _ _ _ _ _ (blk_below (heap_alloc_new w _) (below_alloc (Below.refl _ _) _))
  have h := heap_alloc_new (w.alloc (.cells #[.int .i64 1, .int .i64 0, .int .i64 1, .int .u64 65536, .slice (some ⟨w.heap.size + 1, 0, none⟩) 2 2, .slice none 0 0, .int .i64 0, .int .i64 0, .int .u64 0, .slice none 0 0] tE)) (.cells #[.string sa, .string s1, .string sb, .string s2] tPr)
  rw [World.size_alloc] at h
  exact h
set_option maxHeartbeats 2000000 in
set_option maxRecDepth 100000 in
theorem w2_any (w : World) : Calls Try.prog 24 #[] w fun e w' => ∃ P, e = .returned (.agg #[.int .i64 1, .int .i64 1, .int .i64 1, .int .u64 65537, .slice (some ⟨P, 0, none⟩) 1 1, .slice none 0 0, .int .i64 0, .int .i64 0, .int .u64 0, .slice none 0 0]) ∧ w'.heap[P]? = some (.cells #[.string sa, .string s3] tPr (0, 0)) ∧ Below w.heap.size w w' := by
  go_enter Try.func24, Try.ntmps24
  go_wp2
  refine bodyPost_ret ((results_cell rfl _ _ _).trans ?_) rfl ⟨w.heap.size + 1, rfl, ?_, below2 w _ _⟩
  · exact load_ev _ w.heap.size _ _ _ _ _ _ _ _ _ _ (blk_below (heap_alloc_new w _) (below_alloc (Below.refl _ _) _))
  have h := heap_alloc_new (w.alloc (.cells #[.int .i64 1, .int .i64 1, .int .i64 1, .int .u64 65537, .slice (some ⟨w.heap.size + 1, 0, none⟩) 1 1, .slice none 0 0, .int .i64 0, .int .i64 0, .int .u64 0, .slice none 0 0] tE)) (.cells #[.string sa, .string s3] tPr)
  rw [World.size_alloc] at h
  exact h
set_option maxHeartbeats 2000000 in
set_option maxRecDepth 100000 in
theorem r_any (c : Int) (w : World) : Calls Try.prog 21 #[.int .i64 c] w fun e w' => ∃ P, e = .returned (.agg #[.int .i64 2, .int .i64 c, .int .i64 1, .int .u64 0, .slice none 0 0, .slice (some ⟨P, 0, none⟩) 2 2, .int .i64 0, .int .i64 0, .int .u64 0, .slice none 0 0]) ∧ w'.heap[P]? = some (.cells #[.string sa, .string sb] tS (0, 0)) ∧ Below w.heap.size w w' := by
  go_enter Try.func21, Try.ntmps21
  go_wp2
  refine bodyPost_ret ((results_cell rfl _ _ _).trans ?_) rfl ⟨w.heap.size + 1, rfl, ?_, below2 w _ _⟩
  · exact load_ev _ w.heap.size _ _ _ _ _ _ _ _ _ _ (blk_below (heap_alloc_new w _) (below_alloc (Below.refl _ _) _))
  have h := heap_alloc_new (w.alloc (.cells #[.int .i64 2, .int .i64 c, .int .i64 1, .int .u64 0, .slice none 0 0, .slice (some ⟨w.heap.size + 1, 0, none⟩) 2 2, .int .i64 0, .int .i64 0, .int .u64 0, .slice none 0 0] tE)) (.cells #[.string sa, .string sb] tS)
  rw [World.size_alloc] at h
  exact h
set_option maxHeartbeats 2000000 in
set_option maxRecDepth 100000 in
theorem told_any (c : Int) (A : Option Addr) (n cap : Nat) (w : World) : Calls Try.prog 22 #[.int .i64 c, .slice A n cap] w fun e w' => e = .returned (.agg #[.int .i64 3, .int .i64 c, .int .i64 1, .int .u64 0, .slice none 0 0, .slice none 0 0, .int .i64 1, .int .i64 1, .int .u64 0, .slice A n cap]) ∧ Below w.heap.size w w' := by
  go_enter Try.func22, Try.ntmps22
  go_wp2
  refine bodyPost_ret ((results_cell rfl _ _ _).trans ?_) rfl ⟨rfl, below_alloc (Below.refl _ _) _⟩
  exact load_ev _ w.heap.size _ _ _ _ _ _ _ _ _ _ (heap_alloc_new w _)
set_option maxHeartbeats 2000000 in
set_option maxRecDepth 100000 in
theorem version_any (k v : ByteArray) (id : Int) (A : Option Addr) (n cap : Nat) (w : World) : Calls Try.prog 23 #[.string k, .int .u64 id, .string v, .slice A n cap] w fun e w' => e = .returned (.agg #[.string k, .int .u64 id, .string v, .slice A n cap]) ∧ Below w.heap.size w w' := by
  go_enter Try.func23, Try.ntmps23
  go_wp2
  refine bodyPost_ret ((results_cell rfl _ _ _).trans ?_) rfl ⟨rfl, below_alloc (Below.refl _ _) _⟩
  exact load_ver _ w.heap.size _ _ _ _ (heap_alloc_new w _)
end Go.Proofs.Ytiibjgnmdieicaa.Hist
/- spec's laws: sameIDs, place, meets, walked. -/
namespace Go.Proofs.Ytiibjgnmdieicaa.Hist
open Go.RowKit Go.Proofs.YtiibjgnmdieicaaW.PrintWords Go.Sort
/-- a row that is read, what it holds being plain -/
def RowC {α : Type} (R : α → List Value → Prop) (sz : Nat) (W : World) (A : Option Addr) (l : List α) : Prop := ReadsRow R sz W A l.length l
theorem RowC.below {α : Type} {R : α → List Value → Prop} {sz : Nat} {W W1 : World} {A : Option Addr} {l : List α} (h : RowC R sz W A l) (hb : Below W.heap.size W W1) : RowC R sz W1 A l := by
  refine ⟨h.1, h.2.1, fun h0 => ?_⟩
  obtain ⟨ad, ea, hc⟩ := h.2.2 h0
  refine ⟨ad, ea, fun t q hq => ?_⟩
  obtain ⟨cs, h1, h2, h3⟩ := hc t q hq
  exact ⟨cs, h1, h2, fun i u hu => pw_cell_below hb (h3 i u hu)⟩
theorem RowC.own {α : Type} {R : α → List Value → Prop} {e : TypeId} {sz : Nat} {W : World} {b : Nat} {A : Option Addr} {n c : Nat} {l : List α} (h : OwnRow R e sz W b (.slice A n c) l) : RowC R sz W A l ∧ n = l.length ∧ l.length ≤ c := by
  obtain ⟨A1, c1, e1, hl, hr⟩ := h.reads
  injection e1 with e1 e2 e3
  subst e1
  subst e3
  exact ⟨hr, e2, hl⟩
theorem id_at {W : World} {A : Option Addr} {l : List Int} (h : RowC RID 1 W A l) {j : Nat} (hj : j < l.length) : ∃ ad, A = some ad ∧ W.cell? (ad.add j) = some (.int .u64 l[j]) := by
  obtain ⟨ad, ea, hc⟩ := h.2.2 (by omega)
  refine ⟨ad, ea, ?_⟩
  obtain ⟨cs, h1, h2, h3⟩ := hc j l[j] (List.getElem?_eq_getElem hj)
  unfold RID at h2
  subst h2
  have h0 := h3 0 _ rfl
  simpa using h0
def RelS (w : World) (l r : List Int) (s5 : Value) (wr : World) : Prop := ∃ j : Nat, j ≤ l.length ∧ s5 = .int .i64 j ∧ (∀ t, (h1 : t < l.length) → (h2 : t < r.length) → t < j → l[t] = r[t]) ∧ Below w.heap.size w wr
set_option maxHeartbeats 4000000 in
set_option maxRecDepth 100000 in
theorem sameIDs_any (A B : Option Addr) (c d : Nat) (l r : List Int) (w : World) (hl : RowC RID 1 w A l) (hr : RowC RID 1 w B r) :
    Calls Try.prog 19 #[.slice A l.length c, .slice B r.length d] w fun e w' => e = .returned (.bool (decide (l = r))) ∧ Below w.heap.size w w' := by
  have hm : l.length ≤ 9223372036854775807 := hl.2.1
  have hm2 : r.length ≤ 9223372036854775807 := hr.2.1
  replace hl := Lib.hid hl
  replace hr := Lib.hid hr
  by_cases hn : l.length = r.length
  · have b0 : (((l.length : Nat) : Int) != ((r.length : Nat) : Int)) = false := by simp [hn]
    obtain ⟨q, hq⟩ : ∃ q, q = decide (l = r) := ⟨_, rfl⟩
    rw [← hq]
    replace hq := Lib.hid hq
    generalize hrn : r.length = n at *
    generalize hln : l.length = m at *
    subst hn
    go_enter Try.func19, Try.ntmps19
    go_wp2
    go_loopw [5] (fun s5 wr => RelS w l r s5 wr) (fun s5 _ => m - (intOf s5).toNat)
    case atStart => exact ⟨0, Nat.zero_le _, rfl, (fun t _ _ h => absurd h (Nat.not_lt_zero t)), Below.refl _ _⟩
    case round =>
      obtain ⟨j, hj, rfl, hp, hB⟩ := hrel
      replace hp := Lib.hid hp
      rw [hln] at hj
      by_cases hlt : j < m
      · have hj1 : j < l.length := by omega
        have hj2 : j < r.length := by omega
        obtain ⟨ad, rfl, q0⟩ := id_at (hl.out.below hB) hj1
        obtain ⟨bd, rfl, q1⟩ := id_at (hr.out.below hB) hj2
        by_cases he : l[j] = r[j]
        · have b1 : (l[j] != r[j]) = false := by simp [he]
          have hnx : ∀ t, (h1 : t < l.length) → (h2 : t < r.length) → t < j + 1 → l[t] = r[t] := fun t h1 h2 h3 => by
            by_cases e : t = j
            · subst e; exact he
            · exact hp.out t h1 h2 (by omega)
          replace hnx := Lib.hid hnx
          replace he := Lib.hid he
          replace hB := Lib.hid hB
          generalize l[j] = x at *
          generalize r[j] = y at *
          replace hj1 := Lib.hid hj1
          replace hj2 := Lib.hid hj2
          replace hln := Lib.hid hln
          replace hrn := Lib.hid hrn
          go_wp2
          go_quiet (fail)
          go_wp2
          go_roundw
          case rel => exact ⟨j + 1, (by have := hln.out; omega), by go_num, hnx.out, below_then hB.out hB.out.size (pw_below_drewN (Below.refl _ _) _)⟩
          case measure => simp [intOf]; omega
        · have b1 : (l[j] != r[j]) = true := by simp [he]
          have hq1 : q = false := by rw [hq.out]; exact decide_eq_false (fun e => he (by subst e; rfl))
          subst hq1
          replace hB := Lib.hid hB
          replace he := Lib.hid he
          generalize l[j] = x at *
          generalize r[j] = y at *
          replace hj1 := Lib.hid hj1
          replace hj2 := Lib.hid hj2
          replace hln := Lib.hid hln
          replace hrn := Lib.hid hrn
          go_wp2
          go_quiet (fail)
          go_wp2
          go_ret
          exact ⟨rfl, below_then hB.out hB.out.size (pw_below_drewN (Below.refl _ _) _)⟩
      · have hq1 : q = true := by
          rw [hq.out]
          refine decide_eq_true (List.ext_getElem (by omega) fun t h1 h2 => hp.out t h1 h2 (by omega))
        subst hq1
        replace hB := Lib.hid hB
        replace hln := Lib.hid hln
        replace hrn := Lib.hid hrn
        go_wp2
        go_ret
        exact ⟨rfl, hB.out⟩
  · have b0 : (((l.length : Nat) : Int) != ((r.length : Nat) : Int)) = true := by
      simp only [bne_iff_ne, ne_eq]
      omega
    have hq : decide (l = r) = false := decide_eq_false (fun e => hn (by rw [e]))
    rw [hq]
    generalize r.length = n at *
    generalize l.length = m at *
    replace hn := Lib.hid hn
    go_enter Try.func19, Try.ntmps19
    go_wp2
    go_ret
    exact ⟨rfl, Below.refl _ _⟩
def placeI (l : List Int) (id : Int) : Int := fidx (fun x => x == id) l
set_option maxHeartbeats 4000000 in
set_option maxRecDepth 100000 in
theorem place_any (A : Option Addr) (c : Nat) (l : List Int) (id : Int) (w : World) (hl : RowC RID 1 w A l) :
    Calls Try.prog 15 #[.slice A l.length c, .int .u64 id] w fun e w' => e = .returned (.int .i64 (placeI l id)) ∧ Below w.heap.size w w' := by
  have hm : l.length ≤ 9223372036854775807 := hl.2.1
  obtain ⟨q, hq⟩ : ∃ q, q = placeI l id := ⟨_, rfl⟩
  rw [← hq]
  unfold placeI at hq
  replace hq := Lib.hid hq
  replace hl := Lib.hid hl
  go_enter Try.func15, Try.ntmps15
  go_wp2
  go_loopw [5] (fun s wr => RelI w (fun x : Int => x == id) l s wr) (fun s _ => l.length - (intOf s).toNat)
  case atStart => exact ⟨0, Nat.zero_le _, rfl, (fun t _ h => absurd h (Nat.not_lt_zero t)), Below.refl _ _⟩
  case round =>
    obtain ⟨j, hj, rfl, hp, hB⟩ := hrel
    replace hp := Lib.hid hp
    by_cases hlt : j < l.length
    · obtain ⟨ad, rfl, q0⟩ := id_at (hl.out.below hB) hlt
      have hat := @fidx_at _ (fun x : Int => x == id) l j hlt hp.out
      have hnx : (l[j] == id) = false → ∀ t, (ht : t < l.length) → t < j + 1 → (l[t] == id) = false := fun h t ht h1 => by
        by_cases e : t = j
        · subst e; exact h
        · exact hp.out t ht (by omega)
      replace hat := Lib.hid hat
      replace hnx := Lib.hid hnx
      replace hB := Lib.hid hB
      cases hb0 : (l[j] == id) with
      | false =>
        have hnx2 := Lib.hid (hnx.out hb0)
        go_wp2
        go_roundw
        case rel => exact ⟨j + 1, by omega, by go_num, hnx2.out, hB.out⟩
        case measure => simp [intOf]; omega
      | true =>
        have hq1 := Lib.hid (hq.out.trans (hat.out hb0))
        go_wp2
        go_ret
        exact ⟨by rw [hq1.out]; rfl, hB.out⟩
    · have hq1 := Lib.hid (hq.out.trans (fidx_none (p := fun x : Int => x == id) (l := l) (fun t ht => hp.out t ht (by omega))))
      replace hB := Lib.hid hB
      go_wp2
      go_ret
      exact ⟨by rw [hq1.out]; rfl, hB.out⟩
end Go.Proofs.Ytiibjgnmdieicaa.Hist
/- spec's laws: known, walked. -/
namespace Go.Proofs.Ytiibjgnmdieicaa.Hist
open Go.RowKit Go.Proofs.YtiibjgnmdieicaaW.PrintWords Go.Sort
theorem C_of_block {α : Type} {k : Kd α} {W : World} {P : Nat} {cells : Array Value} {t : TypeId} (h : W.heap[P]? = some (.cells cells t (0, 0))) {l : List α} (hr : Reps (k.K W) k.sz l cells.toList) (hl : l.length ≤ 9223372036854775807) : Kd.C k W (some ⟨P, 0, none⟩) l.length l := by
  refine ⟨rfl, hl, fun _ => ⟨_, rfl, fun j p hp => ⟨(cells.toList.drop (j * k.sz)).take k.sz, ?_, hr.2 j p hp, fun i u hu => ?_⟩⟩⟩
  · exact k.K_len (hr.2 j p hp)
  · refine World.news_of_block h (j * k.sz + i) u ?_
    rw [List.getElem?_take] at hu
    split at hu
    · rwa [List.getElem?_drop] at hu
    · cases hu
theorem pr_K (W : World) (p : Pai) : kPai.K W p [.string p.f0, .string p.f1] := G.k86_mk W p
theorem rd_two {W : World} {K : Nat} {a b : ByteArray} (h : W.heap[K]? = some (.cells #[.string a, .string b] tS (0, 0))) : Kd.C Kd.string W (some ⟨K, 0, none⟩) 2 [a, b] :=
  C_of_block h (Reps.one (v := .string a) rfl (Reps.one (v := .string b) rfl (Reps.none _ _))) (by simp)
theorem rd_one {W : World} {K : Nat} {a : ByteArray} (h : W.heap[K]? = some (.cells #[.string a] tS (0, 0))) : Kd.C Kd.string W (some ⟨K, 0, none⟩) 1 [a] :=
  C_of_block h (Reps.one (v := .string a) rfl (Reps.none _ _)) (by simp)
theorem vr_two (w0 : World) {W : World} {K : Nat} {a b k v : ByteArray} {id : Int} (h : W.heap[K]? = some (.cells #[.string a, .string b] tS (0, 0))) : VR w0 W ⟨k, id, v, [a, b]⟩ [.string k, .int .u64 id, .string v, .slice (some ⟨K, 0, none⟩) 2 2] :=
  ⟨_, 2, rfl, Nat.le_refl _, rd_two h, fun _ ad e => by
    injection e with e
    subst e
    exact .inr ⟨_, h⟩⟩
theorem vr_one (w0 : World) {W : World} {K : Nat} {a k v : ByteArray} {id : Int} (h : W.heap[K]? = some (.cells #[.string a] tS (0, 0))) : VR w0 W ⟨k, id, v, [a]⟩ [.string k, .int .u64 id, .string v, .slice (some ⟨K, 0, none⟩) 1 1] :=
  ⟨_, 1, rfl, Nat.le_refl _, rd_one h, fun _ ad e => by
    injection e with e
    subst e
    exact .inr ⟨_, h⟩⟩
theorem vr_nil (w0 W : World) {k v : ByteArray} {id : Int} : VR w0 W ⟨k, id, v, []⟩ [.string k, .int .u64 id, .string v, .slice none 0 0] :=
  ⟨none, 0, rfl, Nat.le_refl _, ⟨rfl, by simp, fun h => absurd h (by simp)⟩, fun h => absurd h (by simp)⟩
theorem C_nil {α : Type} (k : Kd α) (W : World) : Kd.C k W none 0 [] := ⟨rfl, by omega, fun h => absurd h (by omega)⟩
theorem rd_w1 (w0 : World) {W : World} {P : Nat} (h : W.heap[P]? = some (.cells #[.string sa, .string s1, .string sb, .string s2] tPr (0, 0))) : EvRd w0 W w1E (some ⟨P, 0, none⟩) 2 none 0 none 0 :=
  ⟨Nat.le_refl _, C_of_block (k := kPai) (l := [⟨sa, s1⟩, ⟨sb, s2⟩]) h (Reps.c2 (R := kPai.K W) (pr_K W ⟨sa, s1⟩) (Reps.c2 (R := kPai.K W) (pr_K W ⟨sb, s2⟩) (Reps.none _ _))) (by simp), Nat.le_refl _, C_nil _ _, Nat.le_refl _, C_nil _ _⟩
theorem rd_w2 (w0 : World) {W : World} {P : Nat} (h : W.heap[P]? = some (.cells #[.string sa, .string s3] tPr (0, 0))) : EvRd w0 W w2E (some ⟨P, 0, none⟩) 1 none 0 none 0 :=
  ⟨Nat.le_refl _, C_of_block (k := kPai) (l := [⟨sa, s3⟩]) h (Reps.c2 (R := kPai.K W) (pr_K W ⟨sa, s3⟩) (Reps.none _ _)) (by simp), Nat.le_refl _, C_nil _ _, Nat.le_refl _, C_nil _ _⟩
theorem rd_r (w0 : World) (c : Int) {W : World} {P : Nat} (h : W.heap[P]? = some (.cells #[.string sa, .string sb] tS (0, 0))) : EvRd w0 W (rE c) none 0 (some ⟨P, 0, none⟩) 2 none 0 :=
  ⟨Nat.le_refl _, C_nil _ _, Nat.le_refl _, rd_two h, Nat.le_refl _, C_nil _ _⟩
theorem rd_told (w0 : World) (c : Int) {W : World} {V : Nat} {p q : Ver} {cells : Array Value} {c1 c2 : List Value} (h : W.heap[V]? = some (.cells cells tV (0, 0))) (h1 : VR w0 W p c1) (h2 : VR w0 W q c2) (hc : cells.toList = c1 ++ c2) : EvRd w0 W (toldE c [p, q]) none 0 none 0 (some ⟨V, 0, none⟩) 2 :=
  ⟨Nat.le_refl _, C_nil _ _, Nat.le_refl _, C_nil _ _, Nat.le_refl _, C_of_block (k := kVR w0) (l := [p, q]) h (by
    rw [hc]
    exact Reps.front (R := VR w0 W) h1 ((kVR w0).K_len h1) (Reps.front (R := VR w0 W) h2 ((kVR w0).K_len h2) (Reps.none _ _) (List.append_nil _)) rfl) (by simp)⟩
/-- what is read so, read as an event -/
theorem EvRd.ev {w0 W : World} {x : Evt} {A4 : Option Addr} {c4 : Nat} {A5 : Option Addr} {c5 : Nat} {A9 : Option Addr} {c9 : Nat} (h : EvRd w0 W x A4 c4 A5 c5 A9 c9) : kEvt.K W x [.int .i64 x.f0, .int .i64 x.f1, .int .i64 x.f2, .int .u64 x.f3, .slice A4 x.f4.length c4, .slice A5 x.f5.length c5, .int .i64 x.f6.f0, .int .i64 x.f6.f1, .int .u64 x.f6.f2, .slice A9 x.f6.f3.length c9] := by
  refine G.k36_mk W x h.l4 h.g4 h.l5 h.g5 h.l9 ⟨h.g9.1, h.g9.2.1, fun h0 => ?_⟩
  obtain ⟨ad, ea, hc⟩ := h.g9.2.2 h0
  refine ⟨ad, ea, fun t q hq => ?_⟩
  obtain ⟨cs, h1, h2, h3⟩ := hc t q hq
  exact ⟨cs, h1, VR.ver h2, h3⟩
theorem EvIn.few {x : Evt} (h4 : x.f4.length ≤ 2) (h5 : x.f5.length ≤ 2) (h9 : x.f6.f3.length ≤ 2) (hk : ∀ v ∈ x.f6.f3, v.f3.length ≤ 2) : EvIn x :=
  ⟨by omega, by omega, by omega, fun j h => by have := hk _ (List.getElem_mem h); omega⟩
theorem JudgeIn.few' {l : List Evt} (hl : l.length ≤ 4) (h : ∀ x ∈ l, x.f4.length ≤ 2 ∧ x.f6.f3.length ≤ 2) : JudgeIn l :=
  ⟨by omega, fun j hj => by have := h _ (List.getElem_mem hj); omega, fun j hj => by have := h _ (List.getElem_mem hj); omega⟩
theorem rowC_of_block {α : Type} {R : α → List Value → Prop} {sz : Nat} {W : World} {P : Nat} {cells : Array Value} {t : TypeId} (h : W.heap[P]? = some (.cells cells t (0, 0))) {l : List α} (hs : ∀ p cs, R p cs → cs.length = sz) (hr : Reps R sz l cells.toList) (hl : l.length ≤ 9223372036854775807) : RowC R sz W (some ⟨P, 0, none⟩) l := by
  refine ⟨rfl, hl, fun _ => ⟨_, rfl, fun j p hp => ⟨(cells.toList.drop (j * sz)).take sz, hs _ _ (hr.2 j p hp), hr.2 j p hp, fun i u hu => ?_⟩⟩⟩
  refine World.news_of_block h (j * sz + i) u ?_
  rw [List.getElem?_take] at hu
  split at hu
  · rwa [List.getElem?_drop] at hu
  · cases hu
theorem ids_two {W : World} {P : Nat} {a b : Int} (h : W.heap[P]? = some (.cells #[.int .u64 a, .int .u64 b] tID (0, 0))) : RowC RID 1 W (some ⟨P, 0, none⟩) [a, b] :=
  rowC_of_block h (fun p cs h => by unfold RID at h; subst h; rfl) (Reps.one (R := RID) (v := .int .u64 a) rfl (Reps.one (R := RID) (v := .int .u64 b) rfl (Reps.none _ _))) (by simp)
theorem order_is {l : List Evt} {L : List Int} {b : Bool} {q : Int} {n : Nat} (ho : orderS l = (L, b, q)) (hn : L.length = n) (A : Option Addr) (c : Nat) (w : World) (hC : kEvt.C w A l.length l) (hI : OrdIn l) :
    Calls Try.prog 12 #[.slice A l.length c] w fun e w' => ∃ A c, e = .returned (.tuple #[.slice A n c, .bool b, .int .i64 q]) ∧ RowC RID 1 w' A L ∧ Below w.heap.size w w' := by
  refine (order_any A c l w hC hI).mono fun e w' h => ?_
  obtain ⟨A, c, he, ho', hb⟩ := h
  rw [ho] at he ho'
  exact ⟨A, c, by rw [he, ← hn], (RowC.own ho').1, hb⟩
theorem same_is (A B : Option Addr) (c d n : Nat) (l : List Int) (hn : l.length = n) (w : World) (hl : RowC RID 1 w A l) (hr : RowC RID 1 w B l) :
    Calls Try.prog 19 #[.slice A n c, .slice B n d] w fun e w' => e = .returned (.bool true) ∧ Below w.heap.size w w' := by
  subst hn
  exact (sameIDs_any A B c d l l w hl hr).mono fun e w' h => ⟨by simpa using h.1, h.2⟩
theorem oi1 : OrdIn [w2E, w1E] := ⟨by decide, by decide, by decide, by decide, by decide⟩
theorem oi2 : OrdIn [w2E, w1E, rE 2, toldE 2 [v5, v4]] := ⟨by decide, by decide, by decide, by decide, by decide⟩
set_option maxHeartbeats 16000000 in
set_option maxRecDepth 100000 in
theorem known_any (w : World) : Calls Try.prog 6 #[] w fun e w' => e = .returned (.bool true) ∧ Below w.heap.size w w' := by
  have hnew := Lib.hid (new_any w w (Below.refl _ _))
  go_enter Try.func6, Try.ntmps6
  go_wp2_with fail
  refine hnew.out.mono ?_
  rintro e W1 ⟨M, rfl, hM, hb1⟩
  clear hnew hb1
  replace hM := Lib.hid hM
  have hc := Lib.hid (w1_any W1)
  go_wp2_with fail
  refine hc.out.mono ?_
  rintro e W2 ⟨P2, rfl, hP2, hb2⟩
  replace hM := hM.out.below hb2
  clear hc hb2
  have hst := step_any w W2 M [] hM (w1E) (some ⟨P2, 0, none⟩) 2 none 0 none 0 (rd_w1 w hP2) (EvIn.few (by decide) (by decide) (by decide) (by decide)) (JudgeIn.few' (by decide) (by decide)) (by decide)
  rw [k1] at hst
  replace hst := Lib.hid hst
  clear hM
  go_wp2_with fail
  refine hst.out.mono ?_
  rintro e W3 ⟨rfl, hM⟩
  replace hM : MachAt w W3 M [w1E] := hM
  clear hst
  clear hP2
  replace hM := Lib.hid hM
  have hc := Lib.hid (r_any 2 W3)
  go_wp2_with fail
  refine hc.out.mono ?_
  rintro e W4 ⟨P4, rfl, hP4, hb4⟩
  replace hM := hM.out.below hb4
  clear hc hb4
  have hst := step_any w W4 M [w1E] hM (rE 2) none 0 (some ⟨P4, 0, none⟩) 2 none 0 (rd_r w 2 hP4) (EvIn.few (by decide) (by decide) (by decide) (by decide)) (JudgeIn.few' (by decide) (by decide)) (by decide)
  rw [k2] at hst
  replace hst := Lib.hid hst
  clear hM
  go_wp2_with fail
  refine hst.out.mono ?_
  rintro e W5 ⟨rfl, hM⟩
  replace hM : MachAt w W5 M [w1E, rE 2] := hM
  clear hst
  clear hP4
  replace hM := Lib.hid hM
  have hk := heap_alloc_new W5 (.cells #[.string sa, .string sb] tS)
  have hkb : Below W5.heap.size W5 (W5.alloc (.cells #[.string sa, .string sb] tS)) := below_alloc (Below.refl _ _) _
  replace hM := Lib.hid (hM.out.below hkb)
  have hc := Lib.hid (version_any sa s1 65536 (some ⟨W5.heap.size, 0, none⟩) 2 2 (W5.alloc (.cells #[.string sa, .string sb] tS)))
  replace hk := Lib.hid hk
  clear hkb
  go_wp2_with fail
  refine hc.out.mono ?_
  rintro e A5 ⟨rfl, hb⟩
  replace hk := blk_below hk.out hb
  replace hM := hM.out.below hb
  clear hc hb
  replace hk := Lib.hid hk
  replace hM := Lib.hid hM
  have hc := Lib.hid (version_any sb s0 0 none 0 0 A5)
  go_wp2_with fail
  refine hc.out.mono ?_
  rintro e B5 ⟨rfl, hb⟩
  replace hk := blk_below hk.out hb
  replace hM := hM.out.below hb
  clear hc hb
  have hv := heap_alloc_new B5 (.cells #[.string sa, .int .u64 65536, .string s1, .slice (some ⟨W5.heap.size, 0, none⟩) 2 2, .string sb, .int .u64 0, .string s0, .slice none 0 0] tV)
  have hkb : Below B5.heap.size B5 (B5.alloc (.cells #[.string sa, .int .u64 65536, .string s1, .slice (some ⟨W5.heap.size, 0, none⟩) 2 2, .string sb, .int .u64 0, .string s0, .slice none 0 0] tV)) := below_alloc (Below.refl _ _) _
  replace hk := Lib.hid (blk_below hk hkb)
  replace hM := Lib.hid (hM.below hkb)
  replace hv := Lib.hid hv
  have hc := Lib.hid (told_any 2 (some ⟨B5.heap.size, 0, none⟩) 2 2 (B5.alloc (.cells #[.string sa, .int .u64 65536, .string s1, .slice (some ⟨W5.heap.size, 0, none⟩) 2 2, .string sb, .int .u64 0, .string s0, .slice none 0 0] tV)))
  clear hkb
  go_wp2_with fail
  refine hc.out.mono ?_
  rintro e D5 ⟨rfl, hb⟩
  replace hk := blk_below hk.out hb
  replace hv := blk_below hv.out hb
  replace hM := hM.out.below hb
  clear hc hb
  have hst := step_any w D5 M [w1E, rE 2] hM (toldE 2 [v1, v2]) none 0 none 0 (some ⟨B5.heap.size, 0, none⟩) 2 (rd_told w 2 (p := v1) (q := v2) hv (vr_two w hk) (vr_nil w _) rfl) (EvIn.few (by decide) (by decide) (by decide) (by decide)) (JudgeIn.few' (by decide) (by decide)) (by decide)
  rw [k3] at hst
  replace hst := Lib.hid hst
  clear hM
  go_wp2_with fail
  refine hst.out.mono ?_
  rintro e E5 ⟨rfl, hM⟩
  replace hM : MachAt w E5 M [w1E, rE 2] := hM
  clear hst
  clear hk hv
  replace hM := Lib.hid hM
  have hk := heap_alloc_new E5 (.cells #[.string sa, .string sb] tS)
  have hkb : Below E5.heap.size E5 (E5.alloc (.cells #[.string sa, .string sb] tS)) := below_alloc (Below.refl _ _) _
  replace hM := Lib.hid (hM.out.below hkb)
  have hc := Lib.hid (version_any sa s1 65536 (some ⟨E5.heap.size, 0, none⟩) 2 2 (E5.alloc (.cells #[.string sa, .string sb] tS)))
  replace hk := Lib.hid hk
  clear hkb
  go_wp2_with fail
  refine hc.out.mono ?_
  rintro e A6 ⟨rfl, hb⟩
  replace hk := blk_below hk.out hb
  replace hM := hM.out.below hb
  clear hc hb
  have hl := heap_alloc_new A6 (.cells #[.string sa, .string sb] tS)
  have hkb : Below A6.heap.size A6 (A6.alloc (.cells #[.string sa, .string sb] tS)) := below_alloc (Below.refl _ _) _
  replace hk := Lib.hid (blk_below hk hkb)
  replace hM := Lib.hid (hM.below hkb)
  have hc := Lib.hid (version_any sb s9 65536 (some ⟨A6.heap.size, 0, none⟩) 2 2 (A6.alloc (.cells #[.string sa, .string sb] tS)))
  replace hl := Lib.hid hl
  clear hkb
  go_wp2_with fail
  refine hc.out.mono ?_
  rintro e B6 ⟨rfl, hb⟩
  replace hk := blk_below hk.out hb
  replace hl := blk_below hl.out hb
  replace hM := hM.out.below hb
  clear hc hb
  have hv := heap_alloc_new B6 (.cells #[.string sa, .int .u64 65536, .string s1, .slice (some ⟨E5.heap.size, 0, none⟩) 2 2, .string sb, .int .u64 65536, .string s9, .slice (some ⟨A6.heap.size, 0, none⟩) 2 2] tV)
  have hkb : Below B6.heap.size B6 (B6.alloc (.cells #[.string sa, .int .u64 65536, .string s1, .slice (some ⟨E5.heap.size, 0, none⟩) 2 2, .string sb, .int .u64 65536, .string s9, .slice (some ⟨A6.heap.size, 0, none⟩) 2 2] tV)) := below_alloc (Below.refl _ _) _
  replace hk := Lib.hid (blk_below hk hkb)
  replace hl := Lib.hid (blk_below hl hkb)
  replace hM := Lib.hid (hM.below hkb)
  replace hv := Lib.hid hv
  have hc := Lib.hid (told_any 2 (some ⟨B6.heap.size, 0, none⟩) 2 2 (B6.alloc (.cells #[.string sa, .int .u64 65536, .string s1, .slice (some ⟨E5.heap.size, 0, none⟩) 2 2, .string sb, .int .u64 65536, .string s9, .slice (some ⟨A6.heap.size, 0, none⟩) 2 2] tV)))
  clear hkb
  go_wp2_with fail
  refine hc.out.mono ?_
  rintro e D6 ⟨rfl, hb⟩
  replace hk := blk_below hk.out hb
  replace hl := blk_below hl.out hb
  replace hv := blk_below hv.out hb
  replace hM := hM.out.below hb
  clear hc hb
  have hst := step_any w D6 M [w1E, rE 2] hM (toldE 2 [v1, v3]) none 0 none 0 (some ⟨B6.heap.size, 0, none⟩) 2 (rd_told w 2 (p := v1) (q := v3) hv (vr_two w hk) (vr_two w hl) rfl) (EvIn.few (by decide) (by decide) (by decide) (by decide)) (JudgeIn.few' (by decide) (by decide)) (by decide)
  rw [k4] at hst
  replace hst := Lib.hid hst
  clear hM
  go_wp2_with fail
  refine hst.out.mono ?_
  rintro e E6 ⟨rfl, hM⟩
  replace hM : MachAt w E6 M [w1E, rE 2] := hM
  clear hst
  clear hk hv hl
  replace hM := Lib.hid hM
  have hk := heap_alloc_new E6 (.cells #[.string sa, .string sb] tS)
  have hkb : Below E6.heap.size E6 (E6.alloc (.cells #[.string sa, .string sb] tS)) := below_alloc (Below.refl _ _) _
  replace hM := Lib.hid (hM.out.below hkb)
  have hc := Lib.hid (version_any sa s1 65536 (some ⟨E6.heap.size, 0, none⟩) 2 2 (E6.alloc (.cells #[.string sa, .string sb] tS)))
  replace hk := Lib.hid hk
  clear hkb
  go_wp2_with fail
  refine hc.out.mono ?_
  rintro e A7 ⟨rfl, hb⟩
  replace hk := blk_below hk.out hb
  replace hM := hM.out.below hb
  clear hc hb
  have hl := heap_alloc_new A7 (.cells #[.string sa, .string sb] tS)
  have hkb : Below A7.heap.size A7 (A7.alloc (.cells #[.string sa, .string sb] tS)) := below_alloc (Below.refl _ _) _
  replace hk := Lib.hid (blk_below hk hkb)
  replace hM := Lib.hid (hM.below hkb)
  have hc := Lib.hid (version_any sb s2 65536 (some ⟨A7.heap.size, 0, none⟩) 2 2 (A7.alloc (.cells #[.string sa, .string sb] tS)))
  replace hl := Lib.hid hl
  clear hkb
  go_wp2_with fail
  refine hc.out.mono ?_
  rintro e B7 ⟨rfl, hb⟩
  replace hk := blk_below hk.out hb
  replace hl := blk_below hl.out hb
  replace hM := hM.out.below hb
  clear hc hb
  have hv := heap_alloc_new B7 (.cells #[.string sa, .int .u64 65536, .string s1, .slice (some ⟨E6.heap.size, 0, none⟩) 2 2, .string sb, .int .u64 65536, .string s2, .slice (some ⟨A7.heap.size, 0, none⟩) 2 2] tV)
  have hkb : Below B7.heap.size B7 (B7.alloc (.cells #[.string sa, .int .u64 65536, .string s1, .slice (some ⟨E6.heap.size, 0, none⟩) 2 2, .string sb, .int .u64 65536, .string s2, .slice (some ⟨A7.heap.size, 0, none⟩) 2 2] tV)) := below_alloc (Below.refl _ _) _
  replace hk := Lib.hid (blk_below hk hkb)
  replace hl := Lib.hid (blk_below hl hkb)
  replace hM := Lib.hid (hM.below hkb)
  replace hv := Lib.hid hv
  have hc := Lib.hid (told_any 2 (some ⟨B7.heap.size, 0, none⟩) 2 2 (B7.alloc (.cells #[.string sa, .int .u64 65536, .string s1, .slice (some ⟨E6.heap.size, 0, none⟩) 2 2, .string sb, .int .u64 65536, .string s2, .slice (some ⟨A7.heap.size, 0, none⟩) 2 2] tV)))
  clear hkb
  go_wp2_with fail
  refine hc.out.mono ?_
  rintro e D7 ⟨rfl, hb⟩
  replace hk := blk_below hk.out hb
  replace hl := blk_below hl.out hb
  replace hv := blk_below hv.out hb
  replace hM := hM.out.below hb
  clear hc hb
  have hst := step_any w D7 M [w1E, rE 2] hM (toldE 2 [v1, v4]) none 0 none 0 (some ⟨B7.heap.size, 0, none⟩) 2 (rd_told w 2 (p := v1) (q := v4) hv (vr_two w hk) (vr_two w hl) rfl) (EvIn.few (by decide) (by decide) (by decide) (by decide)) (JudgeIn.few' (by decide) (by decide)) (by decide)
  rw [k5] at hst
  replace hst := Lib.hid hst
  clear hM
  go_wp2_with fail
  refine hst.out.mono ?_
  rintro e E7 ⟨rfl, hM⟩
  replace hM : MachAt w E7 M [w1E, rE 2, toldE 2 [v1, v4]] := hM
  clear hst
  clear hk hv hl
  replace hM := Lib.hid hM
  have hk := heap_alloc_new E7 (.cells #[.string sa, .string sb] tS)
  have hkb : Below E7.heap.size E7 (E7.alloc (.cells #[.string sa, .string sb] tS)) := below_alloc (Below.refl _ _) _
  replace hM := Lib.hid (hM.out.below hkb)
  have hc := Lib.hid (version_any sa s1 65536 (some ⟨E7.heap.size, 0, none⟩) 2 2 (E7.alloc (.cells #[.string sa, .string sb] tS)))
  replace hk := Lib.hid hk
  clear hkb
  go_wp2_with fail
  refine hc.out.mono ?_
  rintro e A8 ⟨rfl, hb⟩
  replace hk := blk_below hk.out hb
  replace hM := hM.out.below hb
  clear hc hb
  have hl := heap_alloc_new A8 (.cells #[.string sa, .string sb] tS)
  have hkb : Below A8.heap.size A8 (A8.alloc (.cells #[.string sa, .string sb] tS)) := below_alloc (Below.refl _ _) _
  replace hk := Lib.hid (blk_below hk hkb)
  replace hM := Lib.hid (hM.below hkb)
  have hc := Lib.hid (version_any sb s2 65536 (some ⟨A8.heap.size, 0, none⟩) 2 2 (A8.alloc (.cells #[.string sa, .string sb] tS)))
  replace hl := Lib.hid hl
  clear hkb
  go_wp2_with fail
  refine hc.out.mono ?_
  rintro e B8 ⟨rfl, hb⟩
  replace hk := blk_below hk.out hb
  replace hl := blk_below hl.out hb
  replace hM := hM.out.below hb
  clear hc hb
  have hv := heap_alloc_new B8 (.cells #[.string sa, .int .u64 65536, .string s1, .slice (some ⟨E7.heap.size, 0, none⟩) 2 2, .string sb, .int .u64 65536, .string s2, .slice (some ⟨A8.heap.size, 0, none⟩) 2 2] tV)
  have hkb : Below B8.heap.size B8 (B8.alloc (.cells #[.string sa, .int .u64 65536, .string s1, .slice (some ⟨E7.heap.size, 0, none⟩) 2 2, .string sb, .int .u64 65536, .string s2, .slice (some ⟨A8.heap.size, 0, none⟩) 2 2] tV)) := below_alloc (Below.refl _ _) _
  replace hk := Lib.hid (blk_below hk hkb)
  replace hl := Lib.hid (blk_below hl hkb)
  replace hM := Lib.hid (hM.below hkb)
  replace hv := Lib.hid hv
  have hc := Lib.hid (told_any 2 (some ⟨B8.heap.size, 0, none⟩) 2 2 (B8.alloc (.cells #[.string sa, .int .u64 65536, .string s1, .slice (some ⟨E7.heap.size, 0, none⟩) 2 2, .string sb, .int .u64 65536, .string s2, .slice (some ⟨A8.heap.size, 0, none⟩) 2 2] tV)))
  clear hkb
  go_wp2_with fail
  refine hc.out.mono ?_
  rintro e D8 ⟨rfl, hb⟩
  replace hk := blk_below hk.out hb
  replace hl := blk_below hl.out hb
  replace hv := blk_below hv.out hb
  replace hM := hM.out.below hb
  clear hc hb
  have hst := step_any w D8 M [w1E, rE 2, toldE 2 [v1, v4]] hM (toldE 2 [v1, v4]) none 0 none 0 (some ⟨B8.heap.size, 0, none⟩) 2 (rd_told w 2 (p := v1) (q := v4) hv (vr_two w hk) (vr_two w hl) rfl) (EvIn.few (by decide) (by decide) (by decide) (by decide)) (JudgeIn.few' (by decide) (by decide)) (by decide)
  rw [k6] at hst
  replace hst := Lib.hid hst
  clear hM
  go_wp2_with fail
  refine hst.out.mono ?_
  rintro e E8 ⟨rfl, hM⟩
  replace hM : MachAt w E8 M [w1E, rE 2, toldE 2 [v1, v4]] := hM
  clear hst
  clear hk hv hl
  replace hM := Lib.hid hM
  have hc := Lib.hid (count_any w E8 M _ hM.out)
  go_wp2_with fail
  refine hc.out.mono ?_
  rintro e W9 ⟨rfl, rfl⟩
  have hw := Lib.hid hM.out.bel
  clear hc hM
  have hc := Lib.hid (w2_any E8)
  go_wp2_with fail
  refine hc.out.mono ?_
  rintro e F1 ⟨P1, rfl, p1, hb⟩
  replace hw := Lib.hid (below_then hw.out hw.out.size hb)
  clear hc hb
  replace p1 := Lib.hid p1
  have hc := Lib.hid (w1_any F1)
  go_wp2_with fail
  refine hc.out.mono ?_
  rintro e F2 ⟨P2, rfl, p2, hb⟩
  replace hw := Lib.hid (below_then hw.out hw.out.size hb)
  replace p1 := Lib.hid (blk_below p1.out hb)
  clear hc hb
  replace p2 := Lib.hid p2
  have hl := Lib.hid (heap_alloc_new F2 (.cells #[.int .i64 1, .int .i64 1, .int .i64 1, .int .u64 65537, .slice (some ⟨P1, 0, none⟩) 1 1, .slice none 0 0, .int .i64 0, .int .i64 0, .int .u64 0, .slice none 0 0, .int .i64 1, .int .i64 0, .int .i64 1, .int .u64 65536, .slice (some ⟨P2, 0, none⟩) 2 2, .slice none 0 0, .int .i64 0, .int .i64 0, .int .u64 0, .slice none 0 0] tE))
  have hb : Below F2.heap.size F2 (F2.alloc (.cells #[.int .i64 1, .int .i64 1, .int .i64 1, .int .u64 65537, .slice (some ⟨P1, 0, none⟩) 1 1, .slice none 0 0, .int .i64 0, .int .i64 0, .int .u64 0, .slice none 0 0, .int .i64 1, .int .i64 0, .int .i64 1, .int .u64 65536, .slice (some ⟨P2, 0, none⟩) 2 2, .slice none 0 0, .int .i64 0, .int .i64 0, .int .u64 0, .slice none 0 0] tE)) := below_alloc (Below.refl _ _) _
  replace hw := Lib.hid (below_then hw.out hw.out.size hb)
  replace p1 := Lib.hid (blk_below p1.out hb)
  replace p2 := Lib.hid (blk_below p2.out hb)
  clear hb
  have hc := Lib.hid (order_is o1 (n := 2) rfl (some ⟨F2.heap.size, 0, none⟩) 2 _ (C_of_block (k := kEvt) (l := [w2E, w1E]) hl.out (Reps.c10 (R := kEvt.K _) (rd_w2 w p1.out).ev (Reps.c10 (R := kEvt.K _) (rd_w1 w p2.out).ev (Reps.none _ _))) (by simp)) oi1)
  go_wp2_with fail
  refine hc.out.mono ?_
  rintro e F3 ⟨XA, xc, rfl, hx, hb⟩
  replace hw := Lib.hid (below_then hw.out hw.out.size hb)
  clear hc hb
  clear p1 p2 hl
  replace hx := Lib.hid hx
  have hc := Lib.hid (w2_any F3)
  go_wp2_with fail
  refine hc.out.mono ?_
  rintro e F4 ⟨P1, rfl, p1, hb⟩
  replace hw := Lib.hid (below_then hw.out hw.out.size hb)
  replace hx := Lib.hid (RowC.below hx.out hb)
  clear hc hb
  replace p1 := Lib.hid p1
  have hc := Lib.hid (w1_any F4)
  go_wp2_with fail
  refine hc.out.mono ?_
  rintro e F5 ⟨P2, rfl, p2, hb⟩
  replace hw := Lib.hid (below_then hw.out hw.out.size hb)
  replace hx := Lib.hid (RowC.below hx.out hb)
  replace p1 := Lib.hid (blk_below p1.out hb)
  clear hc hb
  replace p2 := Lib.hid p2
  have hc := Lib.hid (r_any 2 F5)
  go_wp2_with fail
  refine hc.out.mono ?_
  rintro e F6 ⟨P3, rfl, p3, hb⟩
  replace hw := Lib.hid (below_then hw.out hw.out.size hb)
  replace hx := Lib.hid (RowC.below hx.out hb)
  replace p1 := Lib.hid (blk_below p1.out hb)
  replace p2 := Lib.hid (blk_below p2.out hb)
  clear hc hb
  replace p3 := Lib.hid p3
  have k1 := Lib.hid (heap_alloc_new F6 (.cells #[.string sa] tS))
  have hb : Below F6.heap.size F6 (F6.alloc (.cells #[.string sa] tS)) := below_alloc (Below.refl _ _) _
  replace hw := Lib.hid (below_then hw.out hw.out.size hb)
  replace hx := Lib.hid (RowC.below hx.out hb)
  replace p1 := Lib.hid (blk_below p1.out hb)
  replace p2 := Lib.hid (blk_below p2.out hb)
  replace p3 := Lib.hid (blk_below p3.out hb)
  clear hb
  have hc := Lib.hid (version_any sa s3 65537 (some ⟨F6.heap.size, 0, none⟩) 1 1 (F6.alloc (.cells #[.string sa] tS)))
  go_wp2_with fail
  refine hc.out.mono ?_
  rintro e F7 ⟨rfl, hb⟩
  replace hw := Lib.hid (below_then hw.out hw.out.size hb)
  replace hx := Lib.hid (RowC.below hx.out hb)
  replace p1 := Lib.hid (blk_below p1.out hb)
  replace p2 := Lib.hid (blk_below p2.out hb)
  replace p3 := Lib.hid (blk_below p3.out hb)
  replace k1 := Lib.hid (blk_below k1.out hb)
  clear hc hb
  have k2 := Lib.hid (heap_alloc_new F7 (.cells #[.string sa, .string sb] tS))
  have hb : Below F7.heap.size F7 (F7.alloc (.cells #[.string sa, .string sb] tS)) := below_alloc (Below.refl _ _) _
  replace hw := Lib.hid (below_then hw.out hw.out.size hb)
  replace hx := Lib.hid (RowC.below hx.out hb)
  replace p1 := Lib.hid (blk_below p1.out hb)
  replace p2 := Lib.hid (blk_below p2.out hb)
  replace p3 := Lib.hid (blk_below p3.out hb)
  replace k1 := Lib.hid (blk_below k1.out hb)
  clear hb
  have hc := Lib.hid (version_any sb s2 65536 (some ⟨F7.heap.size, 0, none⟩) 2 2 (F7.alloc (.cells #[.string sa, .string sb] tS)))
  go_wp2_with fail
  refine hc.out.mono ?_
  rintro e F8 ⟨rfl, hb⟩
  replace hw := Lib.hid (below_then hw.out hw.out.size hb)
  replace hx := Lib.hid (RowC.below hx.out hb)
  replace p1 := Lib.hid (blk_below p1.out hb)
  replace p2 := Lib.hid (blk_below p2.out hb)
  replace p3 := Lib.hid (blk_below p3.out hb)
  replace k1 := Lib.hid (blk_below k1.out hb)
  replace k2 := Lib.hid (blk_below k2.out hb)
  clear hc hb
  have v1' := Lib.hid (heap_alloc_new F8 (.cells #[.string sa, .int .u64 65537, .string s3, .slice (some ⟨F6.heap.size, 0, none⟩) 1 1, .string sb, .int .u64 65536, .string s2, .slice (some ⟨F7.heap.size, 0, none⟩) 2 2] tV))
  have hb : Below F8.heap.size F8 (F8.alloc (.cells #[.string sa, .int .u64 65537, .string s3, .slice (some ⟨F6.heap.size, 0, none⟩) 1 1, .string sb, .int .u64 65536, .string s2, .slice (some ⟨F7.heap.size, 0, none⟩) 2 2] tV)) := below_alloc (Below.refl _ _) _
  replace hw := Lib.hid (below_then hw.out hw.out.size hb)
  replace hx := Lib.hid (RowC.below hx.out hb)
  replace p1 := Lib.hid (blk_below p1.out hb)
  replace p2 := Lib.hid (blk_below p2.out hb)
  replace p3 := Lib.hid (blk_below p3.out hb)
  replace k1 := Lib.hid (blk_below k1.out hb)
  replace k2 := Lib.hid (blk_below k2.out hb)
  clear hb
  have hc := Lib.hid (told_any 2 (some ⟨F8.heap.size, 0, none⟩) 2 2 (F8.alloc (.cells #[.string sa, .int .u64 65537, .string s3, .slice (some ⟨F6.heap.size, 0, none⟩) 1 1, .string sb, .int .u64 65536, .string s2, .slice (some ⟨F7.heap.size, 0, none⟩) 2 2] tV)))
  go_wp2_with fail
  refine hc.out.mono ?_
  rintro e F9 ⟨rfl, hb⟩
  replace hw := Lib.hid (below_then hw.out hw.out.size hb)
  replace hx := Lib.hid (RowC.below hx.out hb)
  replace p1 := Lib.hid (blk_below p1.out hb)
  replace p2 := Lib.hid (blk_below p2.out hb)
  replace p3 := Lib.hid (blk_below p3.out hb)
  replace k1 := Lib.hid (blk_below k1.out hb)
  replace k2 := Lib.hid (blk_below k2.out hb)
  replace v1' := Lib.hid (blk_below v1'.out hb)
  clear hc hb
  have hl := Lib.hid (heap_alloc_new F9 (.cells #[.int .i64 1, .int .i64 1, .int .i64 1, .int .u64 65537, .slice (some ⟨P1, 0, none⟩) 1 1, .slice none 0 0, .int .i64 0, .int .i64 0, .int .u64 0, .slice none 0 0, .int .i64 1, .int .i64 0, .int .i64 1, .int .u64 65536, .slice (some ⟨P2, 0, none⟩) 2 2, .slice none 0 0, .int .i64 0, .int .i64 0, .int .u64 0, .slice none 0 0, .int .i64 2, .int .i64 2, .int .i64 1, .int .u64 0, .slice none 0 0, .slice (some ⟨P3, 0, none⟩) 2 2, .int .i64 0, .int .i64 0, .int .u64 0, .slice none 0 0, .int .i64 3, .int .i64 2, .int .i64 1, .int .u64 0, .slice none 0 0, .slice none 0 0, .int .i64 1, .int .i64 1, .int .u64 0, .slice (some ⟨F8.heap.size, 0, none⟩) 2 2] tE))
  have hb : Below F9.heap.size F9 (F9.alloc (.cells #[.int .i64 1, .int .i64 1, .int .i64 1, .int .u64 65537, .slice (some ⟨P1, 0, none⟩) 1 1, .slice none 0 0, .int .i64 0, .int .i64 0, .int .u64 0, .slice none 0 0, .int .i64 1, .int .i64 0, .int .i64 1, .int .u64 65536, .slice (some ⟨P2, 0, none⟩) 2 2, .slice none 0 0, .int .i64 0, .int .i64 0, .int .u64 0, .slice none 0 0, .int .i64 2, .int .i64 2, .int .i64 1, .int .u64 0, .slice none 0 0, .slice (some ⟨P3, 0, none⟩) 2 2, .int .i64 0, .int .i64 0, .int .u64 0, .slice none 0 0, .int .i64 3, .int .i64 2, .int .i64 1, .int .u64 0, .slice none 0 0, .slice none 0 0, .int .i64 1, .int .i64 1, .int .u64 0, .slice (some ⟨F8.heap.size, 0, none⟩) 2 2] tE)) := below_alloc (Below.refl _ _) _
  replace hw := Lib.hid (below_then hw.out hw.out.size hb)
  replace hx := Lib.hid (RowC.below hx.out hb)
  replace p1 := Lib.hid (blk_below p1.out hb)
  replace p2 := Lib.hid (blk_below p2.out hb)
  replace p3 := Lib.hid (blk_below p3.out hb)
  replace k1 := Lib.hid (blk_below k1.out hb)
  replace k2 := Lib.hid (blk_below k2.out hb)
  replace v1' := Lib.hid (blk_below v1'.out hb)
  clear hb
  have hc := Lib.hid (order_is o2 (n := 2) rfl (some ⟨F9.heap.size, 0, none⟩) 4 _ (C_of_block (k := kEvt) (l := [w2E, w1E, rE 2, toldE 2 [v5, v4]]) hl.out (Reps.c10 (R := kEvt.K _) (rd_w2 w p1.out).ev (Reps.c10 (R := kEvt.K _) (rd_w1 w p2.out).ev (Reps.c10 (R := kEvt.K _) (rd_r w 2 p3.out).ev (Reps.c10 (R := kEvt.K _) (rd_told w 2 (p := v5) (q := v4) v1'.out (vr_one w k1.out) (vr_two w k2.out) rfl).ev (Reps.none _ _))))) (by simp)) oi2)
  go_wp2_with fail
  refine hc.out.mono ?_
  rintro e F10 ⟨YA, yc, rfl, hy, hb⟩
  replace hw := Lib.hid (below_then hw.out hw.out.size hb)
  replace hx := Lib.hid (RowC.below hx.out hb)
  clear hc hb
  clear p1 p2 p3 k1 k2 v1' hl
  replace hy := Lib.hid hy
  have l1 := Lib.hid (heap_alloc_new F10 (.cells #[.int .u64 65537, .int .u64 65536] tID))
  have hb : Below F10.heap.size F10 (F10.alloc (.cells #[.int .u64 65537, .int .u64 65536] tID)) := below_alloc (Below.refl _ _) _
  replace hw := Lib.hid (below_then hw.out hw.out.size hb)
  replace hx := Lib.hid (RowC.below hx.out hb)
  replace hy := Lib.hid (RowC.below hy.out hb)
  clear hb
  have hc := Lib.hid (same_is XA (some ⟨F10.heap.size, 0, none⟩) xc 2 2 _ rfl (F10.alloc (.cells #[.int .u64 65537, .int .u64 65536] tID)) hx.out (ids_two l1.out))
  go_wp2_with fail
  refine hc.out.mono ?_
  rintro e F11 ⟨rfl, hb⟩
  replace hw := Lib.hid (below_then hw.out hw.out.size hb)
  replace hy := Lib.hid (RowC.below hy.out hb)
  clear hc hb
  clear l1 hx
  have l2 := Lib.hid (heap_alloc_new F11 (.cells #[.int .u64 65536, .int .u64 65537] tID))
  have hb : Below F11.heap.size F11 (F11.alloc (.cells #[.int .u64 65536, .int .u64 65537] tID)) := below_alloc (Below.refl _ _) _
  replace hw := Lib.hid (below_then hw.out hw.out.size hb)
  replace hy := Lib.hid (RowC.below hy.out hb)
  clear hb
  have hc := Lib.hid (same_is YA (some ⟨F11.heap.size, 0, none⟩) yc 2 2 _ rfl (F11.alloc (.cells #[.int .u64 65536, .int .u64 65537] tID)) hy.out (ids_two l2.out))
  go_wp2_with fail
  refine hc.out.mono ?_
  rintro e F12 ⟨rfl, hb⟩
  replace hw := Lib.hid (below_then hw.out hw.out.size hb)
  clear hc hb
  clear l2 hy
  go_wp2
  go_ret
  exact ⟨rfl, hw.out⟩
end Go.Proofs.Ytiibjgnmdieicaa.Hist
