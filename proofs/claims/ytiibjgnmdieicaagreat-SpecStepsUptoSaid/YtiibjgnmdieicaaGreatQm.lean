/- spec: the chapter's examples, reckoned. -/
import Derived.Test.YtiibjgnmdieicaaGreatQl
namespace Go.Proofs.YtiibjgnmdieicaaGreat.Hist
open Go.RowKit Go.Proofs.YtiibjgnmdieicaaGreatW.PrintWords Go.Sort
def sa : ByteArray := ⟨#[97]⟩
def sb : ByteArray := ⟨#[98]⟩
def s0 : ByteArray := ⟨#[]⟩
def s1 : ByteArray := ⟨#[49]⟩
def s2 : ByteArray := ⟨#[50]⟩
def s3 : ByteArray := ⟨#[51]⟩
def s9 : ByteArray := ⟨#[57]⟩
def w1E : Evt := ⟨1, 0, 1, 65536, [⟨sa, s1⟩, ⟨sb, s2⟩], [], ⟨0, 0, 0, []⟩⟩
def w2E : Evt := ⟨1, 1, 1, 65537, [⟨sa, s3⟩], [], ⟨0, 0, 0, []⟩⟩
def rE (c : Int) : Evt := ⟨2, c, 1, 0, [], [sa, sb], ⟨0, 0, 0, []⟩⟩
def toldE (c : Int) (vs : List Ver) : Evt := ⟨3, c, 1, 0, [], [], ⟨1, 1, 0, vs⟩⟩
def v1 : Ver := ⟨sa, 65536, s1, [sa, sb]⟩
def v2 : Ver := ⟨sb, 0, s0, []⟩
def v3 : Ver := ⟨sb, 65536, s9, [sa, sb]⟩
def v4 : Ver := ⟨sb, 65536, s2, [sa, sb]⟩
def v5 : Ver := ⟨sa, 65537, s3, [sa]⟩
theorem k1 : stepW [] w1E = 0 := by kernel_rfl
theorem sort_ab : sortS [sa, sb] = [sa, sb] := by
  unfold sortS
  rw [List.mergeSort_of_pairwise (by decide)]
  rfl
theorem norm_w1 : normK w1E = [sa, sb] := by
  show compS (sortS [sa, sb]) = _
  rw [sort_ab]
  kernel_rfl
def hear1 : Hs := ⟨[⟨0, 65536, [⟨sa, s1⟩, ⟨sb, s2⟩], [sa, sb], 0, 0⟩], putF (fun _ => none) (0, 1) 0, putF (fun _ => none) (0, 1) 0⟩
theorem hear_w1 : hearS hs0 0 w1E = hear1 := by
  have h : hearS hs0 0 w1E = ⟨[⟨0, 65536, [⟨sa, s1⟩, ⟨sb, s2⟩], normK w1E, 0, 0⟩], putF (fun _ => none) (0, 1) 0, putF (fun _ => none) (0, 1) 0⟩ := rfl
  rw [h, norm_w1]
  rfl
theorem judged_w1 (r : List Evt) : judgeL (w1E :: r) = fnds (hearAll r 1 hear1) (w1E :: r) := by
  show fnds (hearAll r (0 + 1) (hearS hs0 0 w1E)) _ = _
  rw [hear_w1]
  rfl
theorem k2 : stepW [w1E] (rE 2) = 0 := by kernel_rfl
theorem k3 : stepW [w1E, rE 2] (toldE 2 [v1, v2]) = 4 := by
  have h : stepW [w1E, rE 2] (toldE 2 [v1, v2]) = if properB [w1E, rE 2, toldE 2 [v1, v2]] = true then (if properB [w1E, rE 2, toldE 2 [v1, v2]] = true then (if leastR (judgeL [w1E, rE 2, toldE 2 [v1, v2]]) = 0 then 0 else reasonB (leastR (judgeL [w1E, rE 2, toldE 2 [v1, v2]]))) else 1) else 1 := rfl
  rw [h, judged_w1]
  show _ = (4 : Int)
  kernel_rfl
theorem k4 : stepW [w1E, rE 2] (toldE 2 [v1, v3]) = 2 := by
  have h : stepW [w1E, rE 2] (toldE 2 [v1, v3]) = if properB [w1E, rE 2, toldE 2 [v1, v3]] = true then (if properB [w1E, rE 2, toldE 2 [v1, v3]] = true then (if leastR (judgeL [w1E, rE 2, toldE 2 [v1, v3]]) = 0 then 0 else reasonB (leastR (judgeL [w1E, rE 2, toldE 2 [v1, v3]]))) else 1) else 1 := rfl
  rw [h, judged_w1]
  show _ = (2 : Int)
  kernel_rfl
theorem k5 : stepW [w1E, rE 2] (toldE 2 [v1, v4]) = 0 := by
  have h : stepW [w1E, rE 2] (toldE 2 [v1, v4]) = if properB [w1E, rE 2, toldE 2 [v1, v4]] = true then (if properB [w1E, rE 2, toldE 2 [v1, v4]] = true then (if leastR (judgeL [w1E, rE 2, toldE 2 [v1, v4]]) = 0 then 0 else reasonB (leastR (judgeL [w1E, rE 2, toldE 2 [v1, v4]]))) else 1) else 1 := rfl
  rw [h, judged_w1]
  show _ = (0 : Int)
  kernel_rfl
theorem k6 : stepW [w1E, rE 2, toldE 2 [v1, v4]] (toldE 2 [v1, v4]) = 1 := by kernel_rfl
theorem o1 : orderS [w2E, w1E] = ([65537, 65536], true, 0) := by kernel_rfl
theorem o2 : orderS [w2E, w1E, rE 2, toldE 2 [v5, v4]] = ([65536, 65537], true, 0) := by kernel_rfl
end Go.Proofs.YtiibjgnmdieicaaGreat.Hist
/- spec's laws: heavy, clean, walked. -/
namespace Go.Proofs.YtiibjgnmdieicaaGreat.Hist
open Go.RowKit Go.Proofs.YtiibjgnmdieicaaGreatW.PrintWords Go.Sort
def wtE (e : Evt) : Nat := 1 + e.f4.length + e.f6.f3.length
def sumE : List Evt → Nat
  | [] => 0
  | e :: r => wtE e + sumE r
theorem sumE_app (a b : List Evt) : sumE (a ++ b) = sumE a + sumE b := by
  induction a with
  | nil => simp [sumE]
  | cons x r ih => simp only [List.cons_append, sumE, ih]; omega
theorem sumE_take {l : List Evt} {j : Nat} (h : j < l.length) : sumE (l.take (j + 1)) = sumE (l.take j) + wtE l[j] := by
  rw [← List.take_append_getElem h, sumE_app]
  simp [sumE]
theorem sumE_le (l : List Evt) (j : Nat) : sumE (l.take j) ≤ sumE l := by
  have := sumE_app (l.take j) (l.drop j)
  rw [List.take_append_drop] at this
  omega
def heavyB (l : List Evt) : Bool := decide (60 < l.length) || decide (400 < sumE l)
def RelHv (w : World) (l : List Evt) (s3 s4 : Value) (wr : World) : Prop := ∃ j : Nat, j ≤ l.length ∧ s4 = .int .i64 j ∧ s3 = .int .i64 (sumE (l.take j)) ∧ Below w.heap.size w wr
set_option maxHeartbeats 4000000 in
set_option maxRecDepth 100000 in
theorem heavy_any (A : Option Addr) (c : Nat) (l : List Evt) (w : World) (hC : kEvt.C w A l.length l) (hs : sumE l ≤ 1048576) :
    Calls Tryz.prog 6 #[.slice A l.length c] w fun e w' => e = .returned (.bool (heavyB l)) ∧ Below w.heap.size w w' := by
  have hm : l.length ≤ 9223372036854775807 := hC.2.1
  have hb : ∃ r, r = heavyB l := ⟨_, rfl⟩
  obtain ⟨r, hr⟩ := hb
  rw [← hr]
  replace hr := Lib.hid hr
  replace hC := Lib.hid hC
  go_enter Tryz.func6, Tryz.ntmps6
  go_wp2
  go_loopw [3, 4] (fun s3 s4 wr => RelHv w l s3 s4 wr) (fun _ s4 _ => l.length - (intOf s4).toNat)
  case atStart => exact ⟨0, Nat.zero_le _, rfl, rfl, Below.refl _ _⟩
  case round =>
    obtain ⟨j, hj, rfl, rfl, hB⟩ := hrel
    by_cases hlt : j < l.length
    · obtain ⟨ad, A4, c4, A5, c5, A9, c9, rfl, q0, q1, q2, q3, q4, q5, q6, q7, q8, q9, hK, hl9, hk9⟩ := evt_at hC.out hlt
      replace q4 := pw_cell_below hB q4
      replace q9 := pw_cell_below hB q9
      have h1 := sumE_take hlt
      have h2 := sumE_le l (j + 1)
      unfold wtE at h1
      clear q0 q1 q2 q3 q5 q6 q7 q8 hK hl9 hk9
      replace hB := Lib.hid hB
      generalize l[j].f4.length = n4 at *
      generalize l[j].f6.f3.length = n9 at *
      generalize hsm : sumE (l.take j) = sm at *
      generalize hsn : sumE (l.take (j + 1)) = sn at *
      have a1 : IntKind.i64.wrap ((sm : Int) + 1) = (sm : Int) + 1 := IntWalk.i64_in _ (by omega)
      have a2 : IntKind.i64.wrap ((sm : Int) + 1 + n4) = (sm : Int) + 1 + n4 := IntWalk.i64_in _ (by omega)
      have a3 : IntKind.i64.wrap ((sm : Int) + 1 + n4 + n9) = (sm : Int) + 1 + n4 + n9 := IntWalk.i64_in _ (by omega)
      have h3 : (sn : Int) = (sm : Int) + 1 + n4 + n9 := by omega
      replace h3 := Lib.hid h3
      replace h1 := Lib.hid h1
      replace h2 := Lib.hid h2
      replace hsm := Lib.hid hsm
      replace hsn := Lib.hid hsn
      go_wp2
      go_quiet (fail)
      go_wp2
      clear a1 a2 a3
      go_roundw
      case rel => exact ⟨j + 1, by omega, by go_num, by rw [hsn.out, h3.out], below_then hB.out hB.out.size (pw_below_drewN (Below.refl _ _) _)⟩
      case measure => simp [intOf]; omega
    · obtain rfl : j = l.length := by omega
      rw [List.take_of_length_le (Nat.le_refl _)]
      unfold heavyB at hr
      by_cases h6 : 60 < l.length
      · have b6 : decide ((60 : Int) < (l.length : Int)) = true := decide_eq_true (by omega)
        have hr1 : r = true := by rw [hr.out, decide_eq_true h6]; rfl
        subst hr1
        generalize l.length = n at *
        replace h6 := Lib.hid h6
        go_wp2
        go_ret
        exact ⟨rfl, hB⟩
      · have b6 : decide ((60 : Int) < (l.length : Int)) = false := decide_eq_false (by omega)
        by_cases h4 : 400 < sumE l
        · have b4 : decide ((400 : Int) < (sumE l : Int)) = true := decide_eq_true (by omega)
          have hr1 : r = true := by rw [hr.out, decide_eq_true h4]; simp
          subst hr1
          generalize l.length = n at *
          generalize sumE l = m at *
          replace h6 := Lib.hid h6
          replace h4 := Lib.hid h4
          go_wp2
          go_ret
          exact ⟨rfl, hB⟩
        · have b4 : decide ((400 : Int) < (sumE l : Int)) = false := decide_eq_false (by omega)
          have hr1 : r = false := by rw [hr.out, decide_eq_false h6, decide_eq_false h4]; rfl
          subst hr1
          generalize l.length = n at *
          generalize sumE l = m at *
          replace h6 := Lib.hid h6
          replace h4 := Lib.hid h4
          go_wp2
          go_ret
          exact ⟨rfl, hB⟩
end Go.Proofs.YtiibjgnmdieicaaGreat.Hist
/- spec's laws: fine, walked. -/
namespace Go.Proofs.YtiibjgnmdieicaaGreat.Hist
open Go.RowKit Go.Proofs.YtiibjgnmdieicaaGreatW.PrintWords Go.Sort
section
variable {P : Program} {ops : Array Oper} {Q : Exit → Act → World → Prop} {md : Region.Mode} {S : World → Prop} {n : Nat}
/-- two may come up -/
theorem wpAnyF_two {i j : Nat} {oi oj : Oper} {fuel : Nat} {listed : Array Bool} {a : Act} {w : World} (hr : Region.ready md ops listed = [i, j]) (hoi : ops[i]? = some oi) (hoj : ops[j]? = some oj)
    (h1 : ∀ K' : Act → World → Prop, Shut (∀ a w, S w → (S w → wpAnyF P md ops Q S n fuel (listed.setIfInBounds i true) a w) → K' a w) → if Region.wanted oi (yielded ops a.tmps) = true then Oper.wp P oi a w K' Q else K' (a.put oi.dst undef) w)
    (h2 : ∀ K' : Act → World → Prop, Shut (∀ a w, S w → (S w → wpAnyF P md ops Q S n fuel (listed.setIfInBounds j true) a w) → K' a w) → if Region.wanted oj (yielded ops a.tmps) = true then Oper.wp P oj a w K' Q else K' (a.put oj.dst undef) w) :
    wpAnyF P md ops Q S n (fuel + 1) listed a w :=
  ⟨fun h0 => (by rw [hr] at h0; cases h0), fun k hk => by
    rw [hr] at hk
    rcases List.mem_cons.1 hk with rfl | hk
    · exact wpOp_step hoi (fun K' hK => h1 K' (fun a w hS hW => hK a w ⟨fun _ => hS, hW hS⟩))
    · obtain rfl : k = j := by simpa using hk
      exact wpOp_step hoj (fun K' hK => h2 K' (fun a w hS hW => hK a w ⟨fun _ => hS, hW hS⟩))⟩
end
end Go.Proofs.YtiibjgnmdieicaaGreat.Hist
/- spec's laws: the events of the examples, walked. -/
namespace Go.Proofs.YtiibjgnmdieicaaGreat.Hist
open Go.RowKit Go.Proofs.YtiibjgnmdieicaaGreatW.PrintWords Go.Sort
theorem load_ver (W : World) (b : Nat) (v0 v1 v2 v3 : Value) (h : W.heap[b]? = some (.cells #[v0, v1, v2, v3] 49 (0, 0))) : (loadVar 49 ⟨b, 0, none⟩).run Tryz.prog W = .ok (.agg #[v0, v1, v2, v3]) W := by
  have c0 := blk_cell h 0
  have c1 := blk_cell h 1
  have c2 := blk_cell h 2
  have c3 := blk_cell h 3
  simp only [List.getElem?_toArray, List.getElem?_cons_zero, List.getElem?_cons_succ] at c0 c1 c2 c3
  clear h
  unfold loadVar
  simp [go_sem, Tryz.isAgg49, Tryz.sizeOf49, c0, c1, c2, c3]
set_option maxHeartbeats 2000000 in
set_option maxRecDepth 100000 in
theorem w1_any (w : World) : Calls Tryz.prog 16 #[] w fun e w' => ∃ P, e = .returned (.agg #[.int .i64 1, .int .i64 0, .int .i64 1, .int .u64 65536, .slice (some ⟨P, 0, none⟩) 2 2, .slice none 0 0, .int .i64 0, .int .i64 0, .int .u64 0, .slice none 0 0]) ∧ w'.heap[P]? = some (.cells #[.string sa, .string s1, .string sb, .string s2] tPr (0, 0)) ∧ Below w.heap.size w w' := by
  go_enter Tryz.func16, Tryz.ntmps16
  go_wp2
  refine bodyPost_ret ((results_cell rfl _ _ _).trans ?_) rfl ⟨w.heap.size + 1, rfl, ?_, below2 w _ _⟩
  · exact load_ev _ w.heap.size _ _ _ _ _ _ _ _ _ _ (blk_below (heap_alloc_new w _) (below_alloc (Below.refl _ _) _))
  have h := heap_alloc_new (w.alloc (.cells #[.int .i64 1, .int .i64 0, .int .i64 1, .int .u64 65536, .slice (some ⟨w.heap.size + 1, 0, none⟩) 2 2, .slice none 0 0, .int .i64 0, .int .i64 0, .int .u64 0, .slice none 0 0] tE)) (.cells #[.string sa, .string s1, .string sb, .string s2] tPr)
  rw [World.size_alloc] at h
  exact h
set_option maxHeartbeats 2000000 in
set_option maxRecDepth 100000 in
theorem w2_any (w : World) : Calls Tryz.prog 20 #[] w fun e w' => ∃ P, e = .returned (.agg #[.int .i64 1, .int .i64 1, .int .i64 1, .int .u64 65537, .slice (some ⟨P, 0, none⟩) 1 1, .slice none 0 0, .int .i64 0, .int .i64 0, .int .u64 0, .slice none 0 0]) ∧ w'.heap[P]? = some (.cells #[.string sa, .string s3] tPr (0, 0)) ∧ Below w.heap.size w w' := by
  go_enter Tryz.func20, Tryz.ntmps20
  go_wp2
  refine bodyPost_ret ((results_cell rfl _ _ _).trans ?_) rfl ⟨w.heap.size + 1, rfl, ?_, below2 w _ _⟩
  · exact load_ev _ w.heap.size _ _ _ _ _ _ _ _ _ _ (blk_below (heap_alloc_new w _) (below_alloc (Below.refl _ _) _))
  have h := heap_alloc_new (w.alloc (.cells #[.int .i64 1, .int .i64 1, .int .i64 1, .int .u64 65537, .slice (some ⟨w.heap.size + 1, 0, none⟩) 1 1, .slice none 0 0, .int .i64 0, .int .i64 0, .int .u64 0, .slice none 0 0] tE)) (.cells #[.string sa, .string s3] tPr)
  rw [World.size_alloc] at h
  exact h
set_option maxHeartbeats 2000000 in
set_option maxRecDepth 100000 in
theorem r_any (c : Int) (w : World) : Calls Tryz.prog 17 #[.int .i64 c] w fun e w' => ∃ P, e = .returned (.agg #[.int .i64 2, .int .i64 c, .int .i64 1, .int .u64 0, .slice none 0 0, .slice (some ⟨P, 0, none⟩) 2 2, .int .i64 0, .int .i64 0, .int .u64 0, .slice none 0 0]) ∧ w'.heap[P]? = some (.cells #[.string sa, .string sb] tS (0, 0)) ∧ Below w.heap.size w w' := by
  go_enter Tryz.func17, Tryz.ntmps17
  go_wp2
  refine bodyPost_ret ((results_cell rfl _ _ _).trans ?_) rfl ⟨w.heap.size + 1, rfl, ?_, below2 w _ _⟩
  · exact load_ev _ w.heap.size _ _ _ _ _ _ _ _ _ _ (blk_below (heap_alloc_new w _) (below_alloc (Below.refl _ _) _))
  have h := heap_alloc_new (w.alloc (.cells #[.int .i64 2, .int .i64 c, .int .i64 1, .int .u64 0, .slice none 0 0, .slice (some ⟨w.heap.size + 1, 0, none⟩) 2 2, .int .i64 0, .int .i64 0, .int .u64 0, .slice none 0 0] tE)) (.cells #[.string sa, .string sb] tS)
  rw [World.size_alloc] at h
  exact h
set_option maxHeartbeats 2000000 in
set_option maxRecDepth 100000 in
theorem told_any (c : Int) (A : Option Addr) (n cap : Nat) (w : World) : Calls Tryz.prog 18 #[.int .i64 c, .slice A n cap] w fun e w' => e = .returned (.agg #[.int .i64 3, .int .i64 c, .int .i64 1, .int .u64 0, .slice none 0 0, .slice none 0 0, .int .i64 1, .int .i64 1, .int .u64 0, .slice A n cap]) ∧ Below w.heap.size w w' := by
  go_enter Tryz.func18, Tryz.ntmps18
  go_wp2
  refine bodyPost_ret ((results_cell rfl _ _ _).trans ?_) rfl ⟨rfl, below_alloc (Below.refl _ _) _⟩
  exact load_ev _ w.heap.size _ _ _ _ _ _ _ _ _ _ (heap_alloc_new w _)
set_option maxHeartbeats 2000000 in
set_option maxRecDepth 100000 in
theorem version_any (k v : ByteArray) (id : Int) (A : Option Addr) (n cap : Nat) (w : World) : Calls Tryz.prog 19 #[.string k, .int .u64 id, .string v, .slice A n cap] w fun e w' => e = .returned (.agg #[.string k, .int .u64 id, .string v, .slice A n cap]) ∧ Below w.heap.size w w' := by
  go_enter Tryz.func19, Tryz.ntmps19
  go_wp2
  refine bodyPost_ret ((results_cell rfl _ _ _).trans ?_) rfl ⟨rfl, below_alloc (Below.refl _ _) _⟩
  exact load_ver _ w.heap.size _ _ _ _ (heap_alloc_new w _)
end Go.Proofs.YtiibjgnmdieicaaGreat.Hist
/- spec's laws: sameIDs, place, meets, walked. -/
namespace Go.Proofs.YtiibjgnmdieicaaGreat.Hist
open Go.RowKit Go.Proofs.YtiibjgnmdieicaaGreatW.PrintWords Go.Sort
/-- a row that is read, what it holds being plain -/
def RowC {α : Type} (R : α → List Value → Prop) (sz : Nat) (W : World) (A : Option Addr) (l : List α) : Prop := ReadsRow R sz W A l.length l
theorem RowC.below {α : Type} {R : α → List Value → Prop} {sz : Nat} {W W1 : World} {A : Option Addr} {l : List α} (h : RowC R sz W A l) (hb : Below W.heap.size W W1) : RowC R sz W1 A l := by
  refine ⟨h.1, h.2.1, fun h0 => ?_⟩
  obtain ⟨ad, ea, hc⟩ := h.2.2 h0
  refine ⟨ad, ea, fun t q hq => ?_⟩
  obtain ⟨cs, h1, h2, h3⟩ := hc t q hq
  exact ⟨cs, h1, h2, fun i u hu => pw_cell_below hb (h3 i u hu)⟩
theorem RowC.own {α : Type} {R : α → List Value → Prop} {e : TypeId} {sz : Nat} {W : World} {b : Nat} {A : Option Addr} {n c : Nat} {l : List α} (h : OwnRow R e sz W b (.slice A n c) l) : RowC R sz W A l ∧ n = l.length ∧ l.length ≤ c := by
  obtain ⟨A1, c1, e1, hl, hr⟩ := h.reads
  injection e1 with e1 e2 e3
  subst e1
  subst e3
  exact ⟨hr, e2, hl⟩
theorem id_at {W : World} {A : Option Addr} {l : List Int} (h : RowC RID 1 W A l) {j : Nat} (hj : j < l.length) : ∃ ad, A = some ad ∧ W.cell? (ad.add j) = some (.int .u64 l[j]) := by
  obtain ⟨ad, ea, hc⟩ := h.2.2 (by omega)
  refine ⟨ad, ea, ?_⟩
  obtain ⟨cs, h1, h2, h3⟩ := hc j l[j] (List.getElem?_eq_getElem hj)
  unfold RID at h2
  subst h2
  have h0 := h3 0 _ rfl
  simpa using h0
def RelS (w : World) (l r : List Int) (s5 : Value) (wr : World) : Prop := ∃ j : Nat, j ≤ l.length ∧ s5 = .int .i64 j ∧ (∀ t, (h1 : t < l.length) → (h2 : t < r.length) → t < j → l[t] = r[t]) ∧ Below w.heap.size w wr
set_option maxHeartbeats 4000000 in
set_option maxRecDepth 100000 in
theorem sameIDs_any (A B : Option Addr) (c d : Nat) (l r : List Int) (w : World) (hl : RowC RID 1 w A l) (hr : RowC RID 1 w B r) :
    Calls Tryz.prog 15 #[.slice A l.length c, .slice B r.length d] w fun e w' => e = .returned (.bool (decide (l = r))) ∧ Below w.heap.size w w' := by
  have hm : l.length ≤ 9223372036854775807 := hl.2.1
  have hm2 : r.length ≤ 9223372036854775807 := hr.2.1
  replace hl := Lib.hid hl
  replace hr := Lib.hid hr
  by_cases hn : l.length = r.length
  · have b0 : (((l.length : Nat) : Int) != ((r.length : Nat) : Int)) = false := by simp [hn]
    obtain ⟨q, hq⟩ : ∃ q, q = decide (l = r) := ⟨_, rfl⟩
    rw [← hq]
    replace hq := Lib.hid hq
    generalize hrn : r.length = n at *
    generalize hln : l.length = m at *
    subst hn
    go_enter Tryz.func15, Tryz.ntmps15
    go_wp2
    go_loopw [5] (fun s5 wr => RelS w l r s5 wr) (fun s5 _ => m - (intOf s5).toNat)
    case atStart => exact ⟨0, Nat.zero_le _, rfl, (fun t _ _ h => absurd h (Nat.not_lt_zero t)), Below.refl _ _⟩
    case round =>
      obtain ⟨j, hj, rfl, hp, hB⟩ := hrel
      replace hp := Lib.hid hp
      rw [hln] at hj
      by_cases hlt : j < m
      · have hj1 : j < l.length := by omega
        have hj2 : j < r.length := by omega
        obtain ⟨ad, rfl, q0⟩ := id_at (hl.out.below hB) hj1
        obtain ⟨bd, rfl, q1⟩ := id_at (hr.out.below hB) hj2
        by_cases he : l[j] = r[j]
        · have b1 : (l[j] != r[j]) = false := by simp [he]
          have hnx : ∀ t, (h1 : t < l.length) → (h2 : t < r.length) → t < j + 1 → l[t] = r[t] := fun t h1 h2 h3 => by
            by_cases e : t = j
            · subst e; exact he
            · exact hp.out t h1 h2 (by omega)
          replace hnx := Lib.hid hnx
          replace he := Lib.hid he
          replace hB := Lib.hid hB
          generalize l[j] = x at *
          generalize r[j] = y at *
          replace hj1 := Lib.hid hj1
          replace hj2 := Lib.hid hj2
          replace hln := Lib.hid hln
          replace hrn := Lib.hid hrn
          go_wp2
          go_quiet (fail)
          go_wp2
          go_roundw
          case rel => exact ⟨j + 1, (by have := hln.out; omega), by go_num, hnx.out, below_then hB.out hB.out.size (pw_below_drewN (Below.refl _ _) _)⟩
          case measure => simp [intOf]; omega
        · have b1 : (l[j] != r[j]) = true := by simp [he]
          have hq1 : q = false := by rw [hq.out]; exact decide_eq_false (fun e => he (by subst e; rfl))
          subst hq1
          replace hB := Lib.hid hB
          replace he := Lib.hid he
          generalize l[j] = x at *
          generalize r[j] = y at *
          replace hj1 := Lib.hid hj1
          replace hj2 := Lib.hid hj2
          replace hln := Lib.hid hln
          replace hrn := Lib.hid hrn
          go_wp2
          go_quiet (fail)
          go_wp2
          go_ret
          exact ⟨rfl, below_then hB.out hB.out.size (pw_below_drewN (Below.refl _ _) _)⟩
      · have hq1 : q = true := by
          rw [hq.out]
          refine decide_eq_true (List.ext_getElem (by omega) fun t h1 h2 => hp.out t h1 h2 (by omega))
        subst hq1
        replace hB := Lib.hid hB
        replace hln := Lib.hid hln
        replace hrn := Lib.hid hrn
        go_wp2
        go_ret
        exact ⟨rfl, hB.out⟩
  · have b0 : (((l.length : Nat) : Int) != ((r.length : Nat) : Int)) = true := by
      simp only [bne_iff_ne, ne_eq]
      omega
    have hq : decide (l = r) = false := decide_eq_false (fun e => hn (by rw [e]))
    rw [hq]
    generalize r.length = n at *
    generalize l.length = m at *
    replace hn := Lib.hid hn
    go_enter Tryz.func15, Tryz.ntmps15
    go_wp2
    go_ret
    exact ⟨rfl, Below.refl _ _⟩
end Go.Proofs.YtiibjgnmdieicaaGreat.Hist
/- spec's laws: known, walked. -/
namespace Go.Proofs.YtiibjgnmdieicaaGreat.Hist
open Go.RowKit Go.Proofs.YtiibjgnmdieicaaGreatW.PrintWords Go.Sort
theorem C_of_block {α : Type} {k : Kd α} {W : World} {P : Nat} {cells : Array Value} {t : TypeId} (h : W.heap[P]? = some (.cells cells t (0, 0))) {l : List α} (hr : Reps (k.K W) k.sz l cells.toList) (hl : l.length ≤ 9223372036854775807) : Kd.C k W (some ⟨P, 0, none⟩) l.length l := by
  refine ⟨rfl, hl, fun _ => ⟨_, rfl, fun j p hp => ⟨(cells.toList.drop (j * k.sz)).take k.sz, ?_, hr.2 j p hp, fun i u hu => ?_⟩⟩⟩
  · exact k.K_len (hr.2 j p hp)
  · refine World.news_of_block h (j * k.sz + i) u ?_
    rw [List.getElem?_take] at hu
    split at hu
    · rwa [List.getElem?_drop] at hu
    · cases hu
theorem pr_K (W : World) (p : Pai) : kPai.K W p [.string p.f0, .string p.f1] := G.k75_mk W p
theorem rd_two {W : World} {K : Nat} {a b : ByteArray} (h : W.heap[K]? = some (.cells #[.string a, .string b] tS (0, 0))) : Kd.C Kd.string W (some ⟨K, 0, none⟩) 2 [a, b] :=
  C_of_block h (Reps.one (v := .string a) rfl (Reps.one (v := .string b) rfl (Reps.none _ _))) (by simp)
theorem rd_one {W : World} {K : Nat} {a : ByteArray} (h : W.heap[K]? = some (.cells #[.string a] tS (0, 0))) : Kd.C Kd.string W (some ⟨K, 0, none⟩) 1 [a] :=
  C_of_block h (Reps.one (v := .string a) rfl (Reps.none _ _)) (by simp)
theorem vr_two (w0 : World) {W : World} {K : Nat} {a b k v : ByteArray} {id : Int} (h : W.heap[K]? = some (.cells #[.string a, .string b] tS (0, 0))) : VR w0 W ⟨k, id, v, [a, b]⟩ [.string k, .int .u64 id, .string v, .slice (some ⟨K, 0, none⟩) 2 2] :=
  ⟨_, 2, rfl, Nat.le_refl _, rd_two h, fun _ ad e => by
    injection e with e
    subst e
    exact .inr ⟨_, h⟩⟩
theorem vr_one (w0 : World) {W : World} {K : Nat} {a k v : ByteArray} {id : Int} (h : W.heap[K]? = some (.cells #[.string a] tS (0, 0))) : VR w0 W ⟨k, id, v, [a]⟩ [.string k, .int .u64 id, .string v, .slice (some ⟨K, 0, none⟩) 1 1] :=
  ⟨_, 1, rfl, Nat.le_refl _, rd_one h, fun _ ad e => by
    injection e with e
    subst e
    exact .inr ⟨_, h⟩⟩
theorem vr_nil (w0 W : World) {k v : ByteArray} {id : Int} : VR w0 W ⟨k, id, v, []⟩ [.string k, .int .u64 id, .string v, .slice none 0 0] :=
  ⟨none, 0, rfl, Nat.le_refl _, ⟨rfl, by simp, fun h => absurd h (by simp)⟩, fun h => absurd h (by simp)⟩
theorem C_nil {α : Type} (k : Kd α) (W : World) : Kd.C k W none 0 [] := ⟨rfl, by omega, fun h => absurd h (by omega)⟩
theorem rd_w1 (w0 : World) {W : World} {P : Nat} (h : W.heap[P]? = some (.cells #[.string sa, .string s1, .string sb, .string s2] tPr (0, 0))) : EvRd w0 W w1E (some ⟨P, 0, none⟩) 2 none 0 none 0 :=
  ⟨Nat.le_refl _, C_of_block (k := kPai) (l := [⟨sa, s1⟩, ⟨sb, s2⟩]) h (Reps.c2 (R := kPai.K W) (pr_K W ⟨sa, s1⟩) (Reps.c2 (R := kPai.K W) (pr_K W ⟨sb, s2⟩) (Reps.none _ _))) (by simp), Nat.le_refl _, C_nil _ _, Nat.le_refl _, C_nil _ _⟩
theorem rd_w2 (w0 : World) {W : World} {P : Nat} (h : W.heap[P]? = some (.cells #[.string sa, .string s3] tPr (0, 0))) : EvRd w0 W w2E (some ⟨P, 0, none⟩) 1 none 0 none 0 :=
  ⟨Nat.le_refl _, C_of_block (k := kPai) (l := [⟨sa, s3⟩]) h (Reps.c2 (R := kPai.K W) (pr_K W ⟨sa, s3⟩) (Reps.none _ _)) (by simp), Nat.le_refl _, C_nil _ _, Nat.le_refl _, C_nil _ _⟩
theorem rd_r (w0 : World) (c : Int) {W : World} {P : Nat} (h : W.heap[P]? = some (.cells #[.string sa, .string sb] tS (0, 0))) : EvRd w0 W (rE c) none 0 (some ⟨P, 0, none⟩) 2 none 0 :=
  ⟨Nat.le_refl _, C_nil _ _, Nat.le_refl _, rd_two h, Nat.le_refl _, C_nil _ _⟩
theorem rd_told (w0 : World) (c : Int) {W : World} {V : Nat} {p q : Ver} {cells : Array Value} {c1 c2 : List Value} (h : W.heap[V]? = some (.cells cells tV (0, 0))) (h1 : VR w0 W p c1) (h2 : VR w0 W q c2) (hc : cells.toList = c1 ++ c2) : EvRd w0 W (toldE c [p, q]) none 0 none 0 (some ⟨V, 0, none⟩) 2 :=
  ⟨Nat.le_refl _, C_nil _ _, Nat.le_refl _, C_nil _ _, Nat.le_refl _, C_of_block (k := kVR w0) (l := [p, q]) h (by
    rw [hc]
    exact Reps.front (R := VR w0 W) h1 ((kVR w0).K_len h1) (Reps.front (R := VR w0 W) h2 ((kVR w0).K_len h2) (Reps.none _ _) (List.append_nil _)) rfl) (by simp)⟩
/-- what is read so, read as an event -/
theorem EvRd.ev {w0 W : World} {x : Evt} {A4 : Option Addr} {c4 : Nat} {A5 : Option Addr} {c5 : Nat} {A9 : Option Addr} {c9 : Nat} (h : EvRd w0 W x A4 c4 A5 c5 A9 c9) : kEvt.K W x [.int .i64 x.f0, .int .i64 x.f1, .int .i64 x.f2, .int .u64 x.f3, .slice A4 x.f4.length c4, .slice A5 x.f5.length c5, .int .i64 x.f6.f0, .int .i64 x.f6.f1, .int .u64 x.f6.f2, .slice A9 x.f6.f3.length c9] := by
  refine G.k38_mk W x h.l4 h.g4 h.l5 h.g5 h.l9 ⟨h.g9.1, h.g9.2.1, fun h0 => ?_⟩
  obtain ⟨ad, ea, hc⟩ := h.g9.2.2 h0
  refine ⟨ad, ea, fun t q hq => ?_⟩
  obtain ⟨cs, h1, h2, h3⟩ := hc t q hq
  exact ⟨cs, h1, VR.ver h2, h3⟩
theorem EvIn.few {x : Evt} (h4 : x.f4.length ≤ 2) (h5 : x.f5.length ≤ 2) (h9 : x.f6.f3.length ≤ 2) (hk : ∀ v ∈ x.f6.f3, v.f3.length ≤ 2) : EvIn x :=
  ⟨by omega, by omega, by omega, fun j h => by have := hk _ (List.getElem_mem h); omega⟩
theorem JudgeIn.few' {l : List Evt} (hl : l.length ≤ 4) (h : ∀ x ∈ l, x.f4.length ≤ 2 ∧ x.f6.f3.length ≤ 2) : JudgeIn l :=
  ⟨by omega, fun j hj => by have := h _ (List.getElem_mem hj); omega, fun j hj => by have := h _ (List.getElem_mem hj); omega⟩
theorem rowC_of_block {α : Type} {R : α → List Value → Prop} {sz : Nat} {W : World} {P : Nat} {cells : Array Value} {t : TypeId} (h : W.heap[P]? = some (.cells cells t (0, 0))) {l : List α} (hs : ∀ p cs, R p cs → cs.length = sz) (hr : Reps R sz l cells.toList) (hl : l.length ≤ 9223372036854775807) : RowC R sz W (some ⟨P, 0, none⟩) l := by
  refine ⟨rfl, hl, fun _ => ⟨_, rfl, fun j p hp => ⟨(cells.toList.drop (j * sz)).take sz, hs _ _ (hr.2 j p hp), hr.2 j p hp, fun i u hu => ?_⟩⟩⟩
  refine World.news_of_block h (j * sz + i) u ?_
  rw [List.getElem?_take] at hu
  split at hu
  · rwa [List.getElem?_drop] at hu
  · cases hu
theorem ids_two {W : World} {P : Nat} {a b : Int} (h : W.heap[P]? = some (.cells #[.int .u64 a, .int .u64 b] tID (0, 0))) : RowC RID 1 W (some ⟨P, 0, none⟩) [a, b] :=
  rowC_of_block h (fun p cs h => by unfold RID at h; subst h; rfl) (Reps.one (R := RID) (v := .int .u64 a) rfl (Reps.one (R := RID) (v := .int .u64 b) rfl (Reps.none _ _))) (by simp)
theorem order_is {l : List Evt} {L : List Int} {b : Bool} {q : Int} {n : Nat} (ho : orderS l = (L, b, q)) (hn : L.length = n) (A : Option Addr) (c : Nat) (w : World) (hC : kEvt.C w A l.length l) (hI : OrdIn l) :
    Calls Tryz.prog 13 #[.slice A l.length c] w fun e w' => ∃ A c, e = .returned (.tuple #[.slice A n c, .bool b, .int .i64 q]) ∧ RowC RID 1 w' A L ∧ Below w.heap.size w w' := by
  refine (order_any A c l w hC hI).mono fun e w' h => ?_
  obtain ⟨A, c, he, ho', hb⟩ := h
  rw [ho] at he ho'
  exact ⟨A, c, by rw [he, ← hn], (RowC.own ho').1, hb⟩
theorem same_is (A B : Option Addr) (c d n : Nat) (l : List Int) (hn : l.length = n) (w : World) (hl : RowC RID 1 w A l) (hr : RowC RID 1 w B l) :
    Calls Tryz.prog 15 #[.slice A n c, .slice B n d] w fun e w' => e = .returned (.bool true) ∧ Below w.heap.size w w' := by
  subst hn
  exact (sameIDs_any A B c d l l w hl hr).mono fun e w' h => ⟨by simpa using h.1, h.2⟩
theorem oi1 : OrdIn [w2E, w1E] := ⟨by decide, by decide, by decide, by decide, by decide⟩
theorem oi2 : OrdIn [w2E, w1E, rE 2, toldE 2 [v5, v4]] := ⟨by decide, by decide, by decide, by decide, by decide⟩
set_option maxHeartbeats 16000000 in
set_option maxRecDepth 100000 in
theorem known_any (w : World) : Calls Tryz.prog 5 #[] w fun e w' => e = .returned (.bool true) ∧ Below w.heap.size w w' := by
  have hnew := Lib.hid (new_any w w (Below.refl _ _))
  go_enter Tryz.func5, Tryz.ntmps5
  go_wp2_with fail
  refine hnew.out.mono ?_
  rintro e W1 ⟨M, rfl, hM, hb1⟩
  clear hnew hb1
  replace hM := Lib.hid hM
  have hc := Lib.hid (w1_any W1)
  go_wp2_with fail
  refine hc.out.mono ?_
  rintro e W2 ⟨P2, rfl, hP2, hb2⟩
  replace hM := hM.out.below hb2
  clear hc hb2
  have hst := step_any w W2 M [] hM (w1E) (some ⟨P2, 0, none⟩) 2 none 0 none 0 (rd_w1 w hP2) (EvIn.few (by decide) (by decide) (by decide) (by decide)) (JudgeIn.few' (by decide) (by decide)) (by decide)
  rw [k1] at hst
  replace hst := Lib.hid hst
  clear hM
  go_wp2_with fail
  refine hst.out.mono ?_
  rintro e W3 ⟨rfl, hM⟩
  replace hM : MachAt w W3 M [w1E] := hM
  clear hst
  clear hP2
  replace hM := Lib.hid hM
  have hc := Lib.hid (r_any 2 W3)
  go_wp2_with fail
  refine hc.out.mono ?_
  rintro e W4 ⟨P4, rfl, hP4, hb4⟩
  replace hM := hM.out.below hb4
  clear hc hb4
  have hst := step_any w W4 M [w1E] hM (rE 2) none 0 (some ⟨P4, 0, none⟩) 2 none 0 (rd_r w 2 hP4) (EvIn.few (by decide) (by decide) (by decide) (by decide)) (JudgeIn.few' (by decide) (by decide)) (by decide)
  rw [k2] at hst
  replace hst := Lib.hid hst
  clear hM
  go_wp2_with fail
  refine hst.out.mono ?_
  rintro e W5 ⟨rfl, hM⟩
  replace hM : MachAt w W5 M [w1E, rE 2] := hM
  clear hst
  clear hP4
  replace hM := Lib.hid hM
  have hk := heap_alloc_new W5 (.cells #[.string sa, .string sb] tS)
  have hkb : Below W5.heap.size W5 (W5.alloc (.cells #[.string sa, .string sb] tS)) := below_alloc (Below.refl _ _) _
  replace hM := Lib.hid (hM.out.below hkb)
  have hc := Lib.hid (version_any sa s1 65536 (some ⟨W5.heap.size, 0, none⟩) 2 2 (W5.alloc (.cells #[.string sa, .string sb] tS)))
  replace hk := Lib.hid hk
  clear hkb
  go_wp2_with fail
  refine hc.out.mono ?_
  rintro e A5 ⟨rfl, hb⟩
  replace hk := blk_below hk.out hb
  replace hM := hM.out.below hb
  clear hc hb
  replace hk := Lib.hid hk
  replace hM := Lib.hid hM
  have hc := Lib.hid (version_any sb s0 0 none 0 0 A5)
  go_wp2_with fail
  refine hc.out.mono ?_
  rintro e B5 ⟨rfl, hb⟩
  replace hk := blk_below hk.out hb
  replace hM := hM.out.below hb
  clear hc hb
  have hv := heap_alloc_new B5 (.cells #[.string sa, .int .u64 65536, .string s1, .slice (some ⟨W5.heap.size, 0, none⟩) 2 2, .string sb, .int .u64 0, .string s0, .slice none 0 0] tV)
  have hkb : Below B5.heap.size B5 (B5.alloc (.cells #[.string sa, .int .u64 65536, .string s1, .slice (some ⟨W5.heap.size, 0, none⟩) 2 2, .string sb, .int .u64 0, .string s0, .slice none 0 0] tV)) := below_alloc (Below.refl _ _) _
  replace hk := Lib.hid (blk_below hk hkb)
  replace hM := Lib.hid (hM.below hkb)
  replace hv := Lib.hid hv
  have hc := Lib.hid (told_any 2 (some ⟨B5.heap.size, 0, none⟩) 2 2 (B5.alloc (.cells #[.string sa, .int .u64 65536, .string s1, .slice (some ⟨W5.heap.size, 0, none⟩) 2 2, .string sb, .int .u64 0, .string s0, .slice none 0 0] tV)))
  clear hkb
  go_wp2_with fail
  refine hc.out.mono ?_
  rintro e D5 ⟨rfl, hb⟩
  replace hk := blk_below hk.out hb
  replace hv := blk_below hv.out hb
  replace hM := hM.out.below hb
  clear hc hb
  have hst := step_any w D5 M [w1E, rE 2] hM (toldE 2 [v1, v2]) none 0 none 0 (some ⟨B5.heap.size, 0, none⟩) 2 (rd_told w 2 (p := v1) (q := v2) hv (vr_two w hk) (vr_nil w _) rfl) (EvIn.few (by decide) (by decide) (by decide) (by decide)) (JudgeIn.few' (by decide) (by decide)) (by decide)
  rw [k3] at hst
  replace hst := Lib.hid hst
  clear hM
  go_wp2_with fail
  refine hst.out.mono ?_
  rintro e E5 ⟨rfl, hM⟩
  replace hM : MachAt w E5 M [w1E, rE 2] := hM
  clear hst
  clear hk hv
  replace hM := Lib.hid hM
  have hk := heap_alloc_new E5 (.cells #[.string sa, .string sb] tS)
  have hkb : Below E5.heap.size E5 (E5.alloc (.cells #[.string sa, .string sb] tS)) := below_alloc (Below.refl _ _) _
  replace hM := Lib.hid (hM.out.below hkb)
  have hc := Lib.hid (version_any sa s1 65536 (some ⟨E5.heap.size, 0, none⟩) 2 2 (E5.alloc (.cells #[.string sa, .string sb] tS)))
  replace hk := Lib.hid hk
  clear hkb
  go_wp2_with fail
  refine hc.out.mono ?_
  rintro e A6 ⟨rfl, hb⟩
  replace hk := blk_below hk.out hb
  replace hM := hM.out.below hb
  clear hc hb
  have hl := heap_alloc_new A6 (.cells #[.string sa, .string sb] tS)
  have hkb : Below A6.heap.size A6 (A6.alloc (.cells #[.string sa, .string sb] tS)) := below_alloc (Below.refl _ _) _
  replace hk := Lib.hid (blk_below hk hkb)
  replace hM := Lib.hid (hM.below hkb)
  have hc := Lib.hid (version_any sb s9 65536 (some ⟨A6.heap.size, 0, none⟩) 2 2 (A6.alloc (.cells #[.string sa, .string sb] tS)))
  replace hl := Lib.hid hl
  clear hkb
  go_wp2_with fail
  refine hc.out.mono ?_
  rintro e B6 ⟨rfl, hb⟩
  replace hk := blk_below hk.out hb
  replace hl := blk_below hl.out hb
  replace hM := hM.out.below hb
  clear hc hb
  have hv := heap_alloc_new B6 (.cells #[.string sa, .int .u64 65536, .string s1, .slice (some ⟨E5.heap.size, 0, none⟩) 2 2, .string sb, .int .u64 65536, .string s9, .slice (some ⟨A6.heap.size, 0, none⟩) 2 2] tV)
  have hkb : Below B6.heap.size B6 (B6.alloc (.cells #[.string sa, .int .u64 65536, .string s1, .slice (some ⟨E5.heap.size, 0, none⟩) 2 2, .string sb, .int .u64 65536, .string s9, .slice (some ⟨A6.heap.size, 0, none⟩) 2 2] tV)) := below_alloc (Below.refl _ _) _
  replace hk := Lib.hid (blk_below hk hkb)
  replace hl := Lib.hid (blk_below hl hkb)
  replace hM := Lib.hid (hM.below hkb)
  replace hv := Lib.hid hv
  have hc := Lib.hid (told_any 2 (some ⟨B6.heap.size, 0, none⟩) 2 2 (B6.alloc (.cells #[.string sa, .int .u64 65536, .string s1, .slice (some ⟨E5.heap.size, 0, none⟩) 2 2, .string sb, .int .u64 65536, .string s9, .slice (some ⟨A6.heap.size, 0, none⟩) 2 2] tV)))
  clear hkb
  go_wp2_with fail
  refine hc.out.mono ?_
  rintro e D6 ⟨rfl, hb⟩
  replace hk := blk_below hk.out hb
  replace hl := blk_below hl.out hb
  replace hv := blk_below hv.out hb
  replace hM := hM.out.below hb
  clear hc hb
  have hst := step_any w D6 M [w1E, rE 2] hM (toldE 2 [v1, v3]) none 0 none 0 (some ⟨B6.heap.size, 0, none⟩) 2 (rd_told w 2 (p := v1) (q := v3) hv (vr_two w hk) (vr_two w hl) rfl) (EvIn.few (by decide) (by decide) (by decide) (by decide)) (JudgeIn.few' (by decide) (by decide)) (by decide)
  rw [k4] at hst
  replace hst := Lib.hid hst
  clear hM
  go_wp2_with fail
  refine hst.out.mono ?_
  rintro e E6 ⟨rfl, hM⟩
  replace hM : MachAt w E6 M [w1E, rE 2] := hM
  clear hst
  clear hk hv hl
  replace hM := Lib.hid hM
  have hk := heap_alloc_new E6 (.cells #[.string sa, .string sb] tS)
  have hkb : Below E6.heap.size E6 (E6.alloc (.cells #[.string sa, .string sb] tS)) := below_alloc (Below.refl _ _) _
  replace hM := Lib.hid (hM.out.below hkb)
  have hc := Lib.hid (version_any sa s1 65536 (some ⟨E6.heap.size, 0, none⟩) 2 2 (E6.alloc (.cells #[.string sa, .string sb] tS)))
  replace hk := Lib.hid hk
  clear hkb
  go_wp2_with fail
  refine hc.out.mono ?_
  rintro e A7 ⟨rfl, hb⟩
  replace hk := blk_below hk.out hb
  replace hM := hM.out.below hb
  clear hc hb
  have hl := heap_alloc_new A7 (.cells #[.string sa, .string sb] tS)
  have hkb : Below A7.heap.size A7 (A7.alloc (.cells #[.string sa, .string sb] tS)) := below_alloc (Below.refl _ _) _
  replace hk := Lib.hid (blk_below hk hkb)
  replace hM := Lib.hid (hM.below hkb)
  have hc := Lib.hid (version_any sb s2 65536 (some ⟨A7.heap.size, 0, none⟩) 2 2 (A7.alloc (.cells #[.string sa, .string sb] tS)))
  replace hl := Lib.hid hl
  clear hkb
  go_wp2_with fail
  refine hc.out.mono ?_
  rintro e B7 ⟨rfl, hb⟩
  replace hk := blk_below hk.out hb
  replace hl := blk_below hl.out hb
  replace hM := hM.out.below hb
  clear hc hb
  have hv := heap_alloc_new B7 (.cells #[.string sa, .int .u64 65536, .string s1, .slice (some ⟨E6.heap.size, 0, none⟩) 2 2, .string sb, .int .u64 65536, .string s2, .slice (some ⟨A7.heap.size, 0, none⟩) 2 2] tV)
  have hkb : Below B7.heap.size B7 (B7.alloc (.cells #[.string sa, .int .u64 65536, .string s1, .slice (some ⟨E6.heap.size, 0, none⟩) 2 2, .string sb, .int .u64 65536, .string s2, .slice (some ⟨A7.heap.size, 0, none⟩) 2 2] tV)) := below_alloc (Below.refl _ _) _
  replace hk := Lib.hid (blk_below hk hkb)
  replace hl := Lib.hid (blk_below hl hkb)
  replace hM := Lib.hid (hM.below hkb)
  replace hv := Lib.hid hv
  have hc := Lib.hid (told_any 2 (some ⟨B7.heap.size, 0, none⟩) 2 2 (B7.alloc (.cells #[.string sa, .int .u64 65536, .string s1, .slice (some ⟨E6.heap.size, 0, none⟩) 2 2, .string sb, .int .u64 65536, .string s2, .slice (some ⟨A7.heap.size, 0, none⟩) 2 2] tV)))
  clear hkb
  go_wp2_with fail
  refine hc.out.mono ?_
  rintro e D7 ⟨rfl, hb⟩
  replace hk := blk_below hk.out hb
  replace hl := blk_below hl.out hb
  replace hv := blk_below hv.out hb
  replace hM := hM.out.below hb
  clear hc hb
  have hst := step_any w D7 M [w1E, rE 2] hM (toldE 2 [v1, v4]) none 0 none 0 (some ⟨B7.heap.size, 0, none⟩) 2 (rd_told w 2 (p := v1) (q := v4) hv (vr_two w hk) (vr_two w hl) rfl) (EvIn.few (by decide) (by decide) (by decide) (by decide)) (JudgeIn.few' (by decide) (by decide)) (by decide)
  rw [k5] at hst
  replace hst := Lib.hid hst
  clear hM
  go_wp2_with fail
  refine hst.out.mono ?_
  rintro e E7 ⟨rfl, hM⟩
  replace hM : MachAt w E7 M [w1E, rE 2, toldE 2 [v1, v4]] := hM
  clear hst
  clear hk hv hl
  replace hM := Lib.hid hM
  have hk := heap_alloc_new E7 (.cells #[.string sa, .string sb] tS)
  have hkb : Below E7.heap.size E7 (E7.alloc (.cells #[.string sa, .string sb] tS)) := below_alloc (Below.refl _ _) _
  replace hM := Lib.hid (hM.out.below hkb)
  have hc := Lib.hid (version_any sa s1 65536 (some ⟨E7.heap.size, 0, none⟩) 2 2 (E7.alloc (.cells #[.string sa, .string sb] tS)))
  replace hk := Lib.hid hk
  clear hkb
  go_wp2_with fail
  refine hc.out.mono ?_
  rintro e A8 ⟨rfl, hb⟩
  replace hk := blk_below hk.out hb
  replace hM := hM.out.below hb
  clear hc hb
  have hl := heap_alloc_new A8 (.cells #[.string sa, .string sb] tS)
  have hkb : Below A8.heap.size A8 (A8.alloc (.cells #[.string sa, .string sb] tS)) := below_alloc (Below.refl _ _) _
  replace hk := Lib.hid (blk_below hk hkb)
  replace hM := Lib.hid (hM.below hkb)
  have hc := Lib.hid (version_any sb s2 65536 (some ⟨A8.heap.size, 0, none⟩) 2 2 (A8.alloc (.cells #[.string sa, .string sb] tS)))
  replace hl := Lib.hid hl
  clear hkb
  go_wp2_with fail
  refine hc.out.mono ?_
  rintro e B8 ⟨rfl, hb⟩
  replace hk := blk_below hk.out hb
  replace hl := blk_below hl.out hb
  replace hM := hM.out.below hb
  clear hc hb
  have hv := heap_alloc_new B8 (.cells #[.string sa, .int .u64 65536, .string s1, .slice (some ⟨E7.heap.size, 0, none⟩) 2 2, .string sb, .int .u64 65536, .string s2, .slice (some ⟨A8.heap.size, 0, none⟩) 2 2] tV)
  have hkb : Below B8.heap.size B8 (B8.alloc (.cells #[.string sa, .int .u64 65536, .string s1, .slice (some ⟨E7.heap.size, 0, none⟩) 2 2, .string sb, .int .u64 65536, .string s2, .slice (some ⟨A8.heap.size, 0, none⟩) 2 2] tV)) := below_alloc (Below.refl _ _) _
  replace hk := Lib.hid (blk_below hk hkb)
  replace hl := Lib.hid (blk_below hl hkb)
  replace hM := Lib.hid (hM.below hkb)
  replace hv := Lib.hid hv
  have hc := Lib.hid (told_any 2 (some ⟨B8.heap.size, 0, none⟩) 2 2 (B8.alloc (.cells #[.string sa, .int .u64 65536, .string s1, .slice (some ⟨E7.heap.size, 0, none⟩) 2 2, .string sb, .int .u64 65536, .string s2, .slice (some ⟨A8.heap.size, 0, none⟩) 2 2] tV)))
  clear hkb
  go_wp2_with fail
  refine hc.out.mono ?_
  rintro e D8 ⟨rfl, hb⟩
  replace hk := blk_below hk.out hb
  replace hl := blk_below hl.out hb
  replace hv := blk_below hv.out hb
  replace hM := hM.out.below hb
  clear hc hb
  have hst := step_any w D8 M [w1E, rE 2, toldE 2 [v1, v4]] hM (toldE 2 [v1, v4]) none 0 none 0 (some ⟨B8.heap.size, 0, none⟩) 2 (rd_told w 2 (p := v1) (q := v4) hv (vr_two w hk) (vr_two w hl) rfl) (EvIn.few (by decide) (by decide) (by decide) (by decide)) (JudgeIn.few' (by decide) (by decide)) (by decide)
  rw [k6] at hst
  replace hst := Lib.hid hst
  clear hM
  go_wp2_with fail
  refine hst.out.mono ?_
  rintro e E8 ⟨rfl, hM⟩
  replace hM : MachAt w E8 M [w1E, rE 2, toldE 2 [v1, v4]] := hM
  clear hst
  clear hk hv hl
  replace hM := Lib.hid hM
  have hc := Lib.hid (count_any w E8 M _ hM.out)
  go_wp2_with fail
  refine hc.out.mono ?_
  rintro e W9 ⟨rfl, rfl⟩
  have hw := Lib.hid hM.out.bel
  clear hc hM
  have hc := Lib.hid (w2_any E8)
  go_wp2_with fail
  refine hc.out.mono ?_
  rintro e F1 ⟨P1, rfl, p1, hb⟩
  replace hw := Lib.hid (below_then hw.out hw.out.size hb)
  clear hc hb
  replace p1 := Lib.hid p1
  have hc := Lib.hid (w1_any F1)
  go_wp2_with fail
  refine hc.out.mono ?_
  rintro e F2 ⟨P2, rfl, p2, hb⟩
  replace hw := Lib.hid (below_then hw.out hw.out.size hb)
  replace p1 := Lib.hid (blk_below p1.out hb)
  clear hc hb
  replace p2 := Lib.hid p2
  have hl := Lib.hid (heap_alloc_new F2 (.cells #[.int .i64 1, .int .i64 1, .int .i64 1, .int .u64 65537, .slice (some ⟨P1, 0, none⟩) 1 1, .slice none 0 0, .int .i64 0, .int .i64 0, .int .u64 0, .slice none 0 0, .int .i64 1, .int .i64 0, .int .i64 1, .int .u64 65536, .slice (some ⟨P2, 0, none⟩) 2 2, .slice none 0 0, .int .i64 0, .int .i64 0, .int .u64 0, .slice none 0 0] tE))
  have hb : Below F2.heap.size F2 (F2.alloc (.cells #[.int .i64 1, .int .i64 1, .int .i64 1, .int .u64 65537, .slice (some ⟨P1, 0, none⟩) 1 1, .slice none 0 0, .int .i64 0, .int .i64 0, .int .u64 0, .slice none 0 0, .int .i64 1, .int .i64 0, .int .i64 1, .int .u64 65536, .slice (some ⟨P2, 0, none⟩) 2 2, .slice none 0 0, .int .i64 0, .int .i64 0, .int .u64 0, .slice none 0 0] tE)) := below_alloc (Below.refl _ _) _
  replace hw := Lib.hid (below_then hw.out hw.out.size hb)
  replace p1 := Lib.hid (blk_below p1.out hb)
  replace p2 := Lib.hid (blk_below p2.out hb)
  clear hb
  have hc := Lib.hid (order_is o1 (n := 2) rfl (some ⟨F2.heap.size, 0, none⟩) 2 _ (C_of_block (k := kEvt) (l := [w2E, w1E]) hl.out (Reps.c10 (R := kEvt.K _) (rd_w2 w p1.out).ev (Reps.c10 (R := kEvt.K _) (rd_w1 w p2.out).ev (Reps.none _ _))) (by simp)) oi1)
  go_wp2_with fail
  refine hc.out.mono ?_
  rintro e F3 ⟨XA, xc, rfl, hx, hb⟩
  replace hw := Lib.hid (below_then hw.out hw.out.size hb)
  clear hc hb
  clear p1 p2 hl
  replace hx := Lib.hid hx
  have hc := Lib.hid (w2_any F3)
  go_wp2_with fail
  refine hc.out.mono ?_
  rintro e F4 ⟨P1, rfl, p1, hb⟩
  replace hw := Lib.hid (below_then hw.out hw.out.size hb)
  replace hx := Lib.hid (RowC.below hx.out hb)
  clear hc hb
  replace p1 := Lib.hid p1
  have hc := Lib.hid (w1_any F4)
  go_wp2_with fail
  refine hc.out.mono ?_
  rintro e F5 ⟨P2, rfl, p2, hb⟩
  replace hw := Lib.hid (below_then hw.out hw.out.size hb)
  replace hx := Lib.hid (RowC.below hx.out hb)
  replace p1 := Lib.hid (blk_below p1.out hb)
  clear hc hb
  replace p2 := Lib.hid p2
  have hc := Lib.hid (r_any 2 F5)
  go_wp2_with fail
  refine hc.out.mono ?_
  rintro e F6 ⟨P3, rfl, p3, hb⟩
  replace hw := Lib.hid (below_then hw.out hw.out.size hb)
  replace hx := Lib.hid (RowC.below hx.out hb)
  replace p1 := Lib.hid (blk_below p1.out hb)
  replace p2 := Lib.hid (blk_below p2.out hb)
  clear hc hb
  replace p3 := Lib.hid p3
  have k1 := Lib.hid (heap_alloc_new F6 (.cells #[.string sa] tS))
  have hb : Below F6.heap.size F6 (F6.alloc (.cells #[.string sa] tS)) := below_alloc (Below.refl _ _) _
  replace hw := Lib.hid (below_then hw.out hw.out.size hb)
  replace hx := Lib.hid (RowC.below hx.out hb)
  replace p1 := Lib.hid (blk_below p1.out hb)
  replace p2 := Lib.hid (blk_below p2.out hb)
  replace p3 := Lib.hid (blk_below p3.out hb)
  clear hb
  have hc := Lib.hid (version_any sa s3 65537 (some ⟨F6.heap.size, 0, none⟩) 1 1 (F6.alloc (.cells #[.string sa] tS)))
  go_wp2_with fail
  refine hc.out.mono ?_
  rintro e F7 ⟨rfl, hb⟩
  replace hw := Lib.hid (below_then hw.out hw.out.size hb)
  replace hx := Lib.hid (RowC.below hx.out hb)
  replace p1 := Lib.hid (blk_below p1.out hb)
  replace p2 := Lib.hid (blk_below p2.out hb)
  replace p3 := Lib.hid (blk_below p3.out hb)
  replace k1 := Lib.hid (blk_below k1.out hb)
  clear hc hb
  have k2 := Lib.hid (heap_alloc_new F7 (.cells #[.string sa, .string sb] tS))
  have hb : Below F7.heap.size F7 (F7.alloc (.cells #[.string sa, .string sb] tS)) := below_alloc (Below.refl _ _) _
  replace hw := Lib.hid (below_then hw.out hw.out.size hb)
  replace hx := Lib.hid (RowC.below hx.out hb)
  replace p1 := Lib.hid (blk_below p1.out hb)
  replace p2 := Lib.hid (blk_below p2.out hb)
  replace p3 := Lib.hid (blk_below p3.out hb)
  replace k1 := Lib.hid (blk_below k1.out hb)
  clear hb
  have hc := Lib.hid (version_any sb s2 65536 (some ⟨F7.heap.size, 0, none⟩) 2 2 (F7.alloc (.cells #[.string sa, .string sb] tS)))
  go_wp2_with fail
  refine hc.out.mono ?_
  rintro e F8 ⟨rfl, hb⟩
  replace hw := Lib.hid (below_then hw.out hw.out.size hb)
  replace hx := Lib.hid (RowC.below hx.out hb)
  replace p1 := Lib.hid (blk_below p1.out hb)
  replace p2 := Lib.hid (blk_below p2.out hb)
  replace p3 := Lib.hid (blk_below p3.out hb)
  replace k1 := Lib.hid (blk_below k1.out hb)
  replace k2 := Lib.hid (blk_below k2.out hb)
  clear hc hb
  have v1' := Lib.hid (heap_alloc_new F8 (.cells #[.string sa, .int .u64 65537, .string s3, .slice (some ⟨F6.heap.size, 0, none⟩) 1 1, .string sb, .int .u64 65536, .string s2, .slice (some ⟨F7.heap.size, 0, none⟩) 2 2] tV))
  have hb : Below F8.heap.size F8 (F8.alloc (.cells #[.string sa, .int .u64 65537, .string s3, .slice (some ⟨F6.heap.size, 0, none⟩) 1 1, .string sb, .int .u64 65536, .string s2, .slice (some ⟨F7.heap.size, 0, none⟩) 2 2] tV)) := below_alloc (Below.refl _ _) _
  replace hw := Lib.hid (below_then hw.out hw.out.size hb)
  replace hx := Lib.hid (RowC.below hx.out hb)
  replace p1 := Lib.hid (blk_below p1.out hb)
  replace p2 := Lib.hid (blk_below p2.out hb)
  replace p3 := Lib.hid (blk_below p3.out hb)
  replace k1 := Lib.hid (blk_below k1.out hb)
  replace k2 := Lib.hid (blk_below k2.out hb)
  clear hb
  have hc := Lib.hid (told_any 2 (some ⟨F8.heap.size, 0, none⟩) 2 2 (F8.alloc (.cells #[.string sa, .int .u64 65537, .string s3, .slice (some ⟨F6.heap.size, 0, none⟩) 1 1, .string sb, .int .u64 65536, .string s2, .slice (some ⟨F7.heap.size, 0, none⟩) 2 2] tV)))
  go_wp2_with fail
  refine hc.out.mono ?_
  rintro e F9 ⟨rfl, hb⟩
  replace hw := Lib.hid (below_then hw.out hw.out.size hb)
  replace hx := Lib.hid (RowC.below hx.out hb)
  replace p1 := Lib.hid (blk_below p1.out hb)
  replace p2 := Lib.hid (blk_below p2.out hb)
  replace p3 := Lib.hid (blk_below p3.out hb)
  replace k1 := Lib.hid (blk_below k1.out hb)
  replace k2 := Lib.hid (blk_below k2.out hb)
  replace v1' := Lib.hid (blk_below v1'.out hb)
  clear hc hb
  have hl := Lib.hid (heap_alloc_new F9 (.cells #[.int .i64 1, .int .i64 1, .int .i64 1, .int .u64 65537, .slice (some ⟨P1, 0, none⟩) 1 1, .slice none 0 0, .int .i64 0, .int .i64 0, .int .u64 0, .slice none 0 0, .int .i64 1, .int .i64 0, .int .i64 1, .int .u64 65536, .slice (some ⟨P2, 0, none⟩) 2 2, .slice none 0 0, .int .i64 0, .int .i64 0, .int .u64 0, .slice none 0 0, .int .i64 2, .int .i64 2, .int .i64 1, .int .u64 0, .slice none 0 0, .slice (some ⟨P3, 0, none⟩) 2 2, .int .i64 0, .int .i64 0, .int .u64 0, .slice none 0 0, .int .i64 3, .int .i64 2, .int .i64 1, .int .u64 0, .slice none 0 0, .slice none 0 0, .int .i64 1, .int .i64 1, .int .u64 0, .slice (some ⟨F8.heap.size, 0, none⟩) 2 2] tE))
  have hb : Below F9.heap.size F9 (F9.alloc (.cells #[.int .i64 1, .int .i64 1, .int .i64 1, .int .u64 65537, .slice (some ⟨P1, 0, none⟩) 1 1, .slice none 0 0, .int .i64 0, .int .i64 0, .int .u64 0, .slice none 0 0, .int .i64 1, .int .i64 0, .int .i64 1, .int .u64 65536, .slice (some ⟨P2, 0, none⟩) 2 2, .slice none 0 0, .int .i64 0, .int .i64 0, .int .u64 0, .slice none 0 0, .int .i64 2, .int .i64 2, .int .i64 1, .int .u64 0, .slice none 0 0, .slice (some ⟨P3, 0, none⟩) 2 2, .int .i64 0, .int .i64 0, .int .u64 0, .slice none 0 0, .int .i64 3, .int .i64 2, .int .i64 1, .int .u64 0, .slice none 0 0, .slice none 0 0, .int .i64 1, .int .i64 1, .int .u64 0, .slice (some ⟨F8.heap.size, 0, none⟩) 2 2] tE)) := below_alloc (Below.refl _ _) _
  replace hw := Lib.hid (below_then hw.out hw.out.size hb)
  replace hx := Lib.hid (RowC.below hx.out hb)
  replace p1 := Lib.hid (blk_below p1.out hb)
  replace p2 := Lib.hid (blk_below p2.out hb)
  replace p3 := Lib.hid (blk_below p3.out hb)
  replace k1 := Lib.hid (blk_below k1.out hb)
  replace k2 := Lib.hid (blk_below k2.out hb)
  replace v1' := Lib.hid (blk_below v1'.out hb)
  clear hb
  have hc := Lib.hid (order_is o2 (n := 2) rfl (some ⟨F9.heap.size, 0, none⟩) 4 _ (C_of_block (k := kEvt) (l := [w2E, w1E, rE 2, toldE 2 [v5, v4]]) hl.out (Reps.c10 (R := kEvt.K _) (rd_w2 w p1.out).ev (Reps.c10 (R := kEvt.K _) (rd_w1 w p2.out).ev (Reps.c10 (R := kEvt.K _) (rd_r w 2 p3.out).ev (Reps.c10 (R := kEvt.K _) (rd_told w 2 (p := v5) (q := v4) v1'.out (vr_one w k1.out) (vr_two w k2.out) rfl).ev (Reps.none _ _))))) (by simp)) oi2)
  go_wp2_with fail
  refine hc.out.mono ?_
  rintro e F10 ⟨YA, yc, rfl, hy, hb⟩
  replace hw := Lib.hid (below_then hw.out hw.out.size hb)
  replace hx := Lib.hid (RowC.below hx.out hb)
  clear hc hb
  clear p1 p2 p3 k1 k2 v1' hl
  replace hy := Lib.hid hy
  have l1 := Lib.hid (heap_alloc_new F10 (.cells #[.int .u64 65537, .int .u64 65536] tID))
  have hb : Below F10.heap.size F10 (F10.alloc (.cells #[.int .u64 65537, .int .u64 65536] tID)) := below_alloc (Below.refl _ _) _
  replace hw := Lib.hid (below_then hw.out hw.out.size hb)
  replace hx := Lib.hid (RowC.below hx.out hb)
  replace hy := Lib.hid (RowC.below hy.out hb)
  clear hb
  have hc := Lib.hid (same_is XA (some ⟨F10.heap.size, 0, none⟩) xc 2 2 _ rfl (F10.alloc (.cells #[.int .u64 65537, .int .u64 65536] tID)) hx.out (ids_two l1.out))
  go_wp2_with fail
  refine hc.out.mono ?_
  rintro e F11 ⟨rfl, hb⟩
  replace hw := Lib.hid (below_then hw.out hw.out.size hb)
  replace hy := Lib.hid (RowC.below hy.out hb)
  clear hc hb
  clear l1 hx
  have l2 := Lib.hid (heap_alloc_new F11 (.cells #[.int .u64 65536, .int .u64 65537] tID))
  have hb : Below F11.heap.size F11 (F11.alloc (.cells #[.int .u64 65536, .int .u64 65537] tID)) := below_alloc (Below.refl _ _) _
  replace hw := Lib.hid (below_then hw.out hw.out.size hb)
  replace hy := Lib.hid (RowC.below hy.out hb)
  clear hb
  have hc := Lib.hid (same_is YA (some ⟨F11.heap.size, 0, none⟩) yc 2 2 _ rfl (F11.alloc (.cells #[.int .u64 65536, .int .u64 65537] tID)) hy.out (ids_two l2.out))
  go_wp2_with fail
  refine hc.out.mono ?_
  rintro e F12 ⟨rfl, hb⟩
  replace hw := Lib.hid (below_then hw.out hw.out.size hb)
  clear hc hb
  clear l2 hy
  go_wp2
  go_ret
  exact ⟨rfl, hw.out⟩
end Go.Proofs.YtiibjgnmdieicaaGreat.Hist
