/- SpecSteps: the walk: two machines side by side. -/
import Derived.Test.YtiibjgnmdieicaaGreatZf
import Derived.Test.YtiibjgnmdieicaaGreatVh
namespace Go.Proofs.YtiibjgnmdieicaaGreat.Hist
open Go.RowKit Go.Proofs.YtiibjgnmdieicaaGreatW.PrintWords Go.Sort
/-- what has happened behind one more -/
def nextEv (evs : List Evt) (x : Evt) (sw : Int) : List Evt := if sw = 0 then evs ++ [x] else evs
theorem SteppedK.two {w0 W : World} {M X : Nat} {evs : List Evt} {x : Evt} {sw : Int} {e : Ending} {w' : World} (h : SteppedK w0 W M evs x sw e w') (hX : MachR w0 W X evs) : e = .returned (.int .i64 sw) ∧ MachAt w0 w' M (nextEv evs x sw) ∧ MachR w0 w' X evs := by
  obtain ⟨h1, W3, hb, h3, h4 | ⟨h4, ⟨u, h5⟩, h6⟩⟩ := h
  · unfold nextEv
    rw [if_neg h4.1, h4.2]
    exact ⟨h1, h3, hX.below hb⟩
  · unfold nextEv
    rw [if_pos h4]
    refine ⟨h1, h6, ?_⟩
    rw [h5]
    exact (hX.below hb).other h3 u
theorem SteppedR.two {w0 W : World} {M X : Nat} {evs evs' : List Evt} {x : Evt} {sw : Int} {e : Ending} {w' : World} (h : SteppedR w0 W X evs x sw e w') (hM : MachAt w0 W M evs') : e = .returned (.int .i64 sw) ∧ MachAt w0 w' M evs' ∧ MachR w0 w' X (nextEv evs x sw) := by
  obtain ⟨h1, W3, hb, h3, h4 | ⟨h4, ⟨u, h5⟩, h6⟩⟩ := h
  · unfold nextEv
    rw [if_neg h4.1, h4.2]
    exact ⟨h1, hM.below hb, h3⟩
  · unfold nextEv
    rw [if_pos h4]
    refine ⟨h1, ?_, h6⟩
    rw [h5]
    exact (hM.below hb).other h3 u
theorem next_sub {l evs : List Evt} {x : Evt} (sw : Int) (h : ∀ e ∈ evs, e ∈ l) (hx : x ∈ l) : ∀ e ∈ nextEv evs x sw, e ∈ l := by
  intro e he
  unfold nextEv at he
  split at he
  · rcases List.mem_append.1 he with he | he
    · exact h e he
    · rw [List.mem_singleton] at he
      rw [he]
      exact hx
  · exact h e he
theorem next_len {evs : List Evt} {x : Evt} (sw : Int) {i : Nat} (h : evs.length ≤ i) : (nextEv evs x sw).length ≤ i + 1 := by
  unfold nextEv
  split
  · rw [List.length_append]
    simp only [List.length_cons, List.length_nil]
    omega
  · omega
theorem u64_lit {x : Int} (h : (Lit.int .u64 x).wf = true) : 0 ≤ x := by
  simp [Lit.wf, IntKind.min, IntKind.max, IntKind.signed, IntKind.bits] at h
  omega
/-- what happens is bounded, as the list is -/
structure StepIn (l : List Evt) : Prop where
  ev : ∀ x ∈ l, EvIn x
  vs : ∀ x ∈ l, x.f6.f3.length ≤ 1024
  v0 : ∀ x ∈ l, ∀ v ∈ x.f6.f3, 0 ≤ v.f1
  few : l.length ≤ 60
theorem LawIn.step {l : List Evt} (h : LawIn l) (hh : heavyB l = false) : StepIn l := by
  have h1 := light hh
  refine ⟨fun x hx => ?_, fun x hx => ?_, fun x hx v hv => ?_, h1.1⟩
  · obtain ⟨j, hj, rfl⟩ := List.getElem_of_mem hx
    exact h.ev hh j hj
  · obtain ⟨j, hj, rfl⟩ := List.getElem_of_mem hx
    have h2 := wt_sum l j hj
    unfold wtE at h2
    omega
  · obtain ⟨j, hj, rfl⟩ := List.getElem_of_mem hx
    obtain ⟨k, hk, rfl⟩ := List.getElem_of_mem hv
    exact u64_lit (h.v64 j hj k hk)
theorem StepIn.judge {l evs : List Evt} {x : Evt} (h : StepIn l) (hs : ∀ e ∈ evs, e ∈ l) (hx : x ∈ l) {i : Nat} (hl : evs.length ≤ i) (hi : i < l.length) : JudgeIn (evs ++ [x]) ∧ (∀ j (hj : j < (evs ++ [x]).length), (evs ++ [x])[j].f6.f3.length ≤ 1024) ∧ (∀ j (hj : j < (evs ++ [x]).length), ∀ v ∈ (evs ++ [x])[j].f6.f3, 0 ≤ v.f1) := by
  have hm : ∀ j (hj : j < (evs ++ [x]).length), (evs ++ [x])[j] ∈ l := fun j hj => by
    rcases List.mem_append.1 (List.getElem_mem hj) with he | he
    · exact hs _ he
    · rw [List.mem_singleton] at he
      rw [he]
      exact hx
  have := h.few
  exact ⟨⟨by rw [List.length_append]; simp only [List.length_cons, List.length_nil]; omega, fun j hj => (h.ev _ (hm j hj)).p, fun j hj => (h.ev _ (hm j hj)).v⟩, fun j hj => h.vs _ (hm j hj), fun j hj => h.v0 _ (hm j hj)⟩
def RelSt (w : World) (M X : Nat) (l : List Evt) (s5 : Value) (wr : World) : Prop := ∃ i : Nat, i ≤ l.length ∧ s5 = .int .i64 i ∧ ∃ evs : List Evt, MachAt w wr M evs ∧ MachR w wr X evs ∧ (∀ e ∈ evs, e ∈ l) ∧ evs.length ≤ i
set_option maxHeartbeats 16000000 in
set_option maxRecDepth 100000 in
theorem steps_any (A : Option Addr) (c : Nat) (l : List Evt) (w : World) (hC : kEvt.C w A l.length l) (hL : LawIn l) :
    Calls Tryz.prog 3 #[.slice A l.length c] w fun e w' => e = .returned (.bool true) ∧ Below w.heap.size w w' := by
  have hkn := Lib.hid (known_any w)
  have hhv := Lib.hid fun W (hb : Below w.heap.size w W) => heavy_any A c l W (Kd.C_below hC hb) hL.sum
  cases hh : heavyB l with
  | true =>
    rw [hh] at hhv
    clear hC hL hh
    have hk2 := Lib.hid fun W => known_any W
    go_enter Tryz.func3, Tryz.ntmps3
    go_wp2_with fail
    refine hkn.out.mono ?_
    rintro e W1 ⟨rfl, hb1⟩
    have hv1 := Lib.hid (hhv.out W1 hb1)
    replace hb1 := Lib.hid hb1
    go_wp2_with fail
    refine hv1.out.mono ?_
    rintro e W2 ⟨rfl, hb2⟩
    have hb12 := Lib.hid (below_then hb1.out hb1.out.size hb2)
    have hk3 := Lib.hid (hk2.out W2)
    clear hv1 hb2 hb1
    go_wp2_with fail
    refine hk3.out.mono ?_
    rintro e W3 ⟨rfl, hb3⟩
    have hb13 := Lib.hid (below_then hb12.out hb12.out.size hb3)
    clear hb3 hb12
    go_wp2
    go_ret
    exact ⟨rfl, hb13.out⟩
  | false =>
    rw [hh] at hhv
    have hlen : l.length ≤ 60 := (light hh).1
    have hS := Lib.hid (hL.step hh)
    replace hC := Lib.hid hC
    clear hh hL
    go_enter Tryz.func3, Tryz.ntmps3
    go_wp2_with fail
    refine hkn.out.mono ?_
    rintro e W1 ⟨rfl, hb1⟩
    have hv1 := Lib.hid (hhv.out W1 hb1)
    replace hb1 := Lib.hid hb1
    go_wp2_with fail
    refine hv1.out.mono ?_
    rintro e W2 ⟨rfl, hb2⟩
    have hn := Lib.hid (new_any w W2 (below_then hb1.out hb1.out.size hb2))
    clear hv1 hb2 hb1 hkn hhv
    go_wp2_with fail
    refine hn.out.mono ?_
    rintro e W3 ⟨M, rfl, hM, hb3⟩
    have hn2 := Lib.hid (newR_any w W3 hM.bel)
    replace hM := Lib.hid hM
    clear hn hb3
    go_wp2_with fail
    refine hn2.out.mono ?_
    rintro e W4 ⟨X, rfl, hX, hb4⟩
    have hM4 := Lib.hid (hM.out.below hb4)
    replace hX := Lib.hid hX
    clear hn2 hb4 hM
    go_wp2
    go_loopw [5] (fun s5 wr => RelSt w M X l s5 wr) (fun s5 _ => l.length - (intOf s5).toNat)
    case atStart => exact ⟨0, Nat.zero_le _, rfl, [], hM4.out, hX.out, by simp, by simp⟩
    case round =>
      clear hM4 hX
      obtain ⟨i, hi, rfl, evs, hM, hX, hsub, hle⟩ := hrel
      by_cases hlt : i < l.length
      · obtain ⟨ad, A4, c4, A5, c5, A9, c9, rfl, r0, r1, r2, r3, r4, r5, r6, r7, r8, r9, hK, -, -⟩ := evt_at hC.out hlt
        have hmx : l[i] ∈ l := List.getElem_mem hlt
        have hI := hS.out.ev _ hmx
        obtain ⟨hJ, hV, hv0⟩ := hS.out.judge hsub hmx hle hlt
        have a1 : IntKind.i64.wrap ((i : Int) + 1) = (i : Int) + 1 := IntWalk.i64_in _ (by omega)
        have hbd : Below wr.heap.size wr wr.drew := below_drew (Below.refl _ _)
        have hMd := hM.below hbd
        have hXd := Lib.hid (hX.below hbd)
        have hq := Lib.hid fun (W : World) (hb : Below w.heap.size w W) => And.intro (pw_cell_below hb r0) (And.intro (pw_cell_below hb r1) (And.intro (pw_cell_below hb r2) (And.intro (pw_cell_below hb r3) (And.intro (pw_cell_below hb r4) (And.intro (pw_cell_below hb r5) (And.intro (pw_cell_below hb r6) (And.intro (pw_cell_below hb r7) (And.intro (pw_cell_below hb r8) (pw_cell_below hb r9)))))))))
        have hRd := Lib.hid fun (W : World) (hb : Below w.heap.size w W) => EvRd.of hK hb
        obtain ⟨q0, q1, q2, q3, q4, q5, q6, q7, q8, q9⟩ := hq.out wr.drew hMd.bel
        have hl2 : evs.length + 2 ≤ 1048576 := by omega
        have hs1 := Lib.hid (step_keep w wr.drew M evs hMd l[i] A4 c4 A5 c5 A9 c9 (hRd.out _ hMd.bel) hI hJ hl2)
        have hs2 := Lib.hid fun W (h : MachR w W X evs) => stepR_any w W X evs h l[i] A4 c4 A5 c5 A9 c9 (hRd.out _ h.bel) hI hJ hV hv0 hl2
        obtain ⟨sw, hsw⟩ : ∃ sw, sw = stepW evs l[i] := ⟨_, rfl⟩
        rw [← hsw] at hs1 hs2
        have hsub2 := Lib.hid (next_sub sw hsub hmx)
        have hle2 := Lib.hid (next_len (x := l[i]) sw hle)
        have b1 : (sw != sw) = false := by simp
        have b2 : (((nextEv evs l[i] sw).length : Int) != ((nextEv evs l[i] sw).length : Int)) = false := by simp
        clear hsw hsub hle hM hX hMd hbd r0 r1 r2 r3 r4 r5 r6 r7 r8 r9 hK hI hJ hV hv0 hmx hl2
        generalize hne : nextEv evs l[i] sw = nx at *
        replace hne := Lib.hid hne
        generalize l[i] = x at *
        go_wp2
        go_region_law (first
          | (go_simp; go_at_call 9; refine hs1.out.mono ?_; rintro e W5 h5; obtain ⟨rfl, hM5, hX5⟩ := h5.two hXd.out; obtain ⟨f0, f1, f2, f3, f4, f5, f6, f7, f8, f9⟩ := hq.out W5 hM5.bel; have hs3 := Lib.hid (hs2.out W5 hX5); replace hM5 := Lib.hid hM5; clear hX5 h5)
          | (go_simp; go_at_call 10; refine hs3.out.mono ?_; rintro e W6 h6; obtain ⟨rfl, hM6, hX6⟩ := h6.two hM5.out; rw [hne.out] at hM6 hX6; have hc1 := Lib.hid (count_any w W6 M nx hM6); have hc2 := Lib.hid (countR_any w W6 X nx hX6); replace hM6 := Lib.hid hM6; replace hX6 := Lib.hid hX6; clear h6)
          | (go_simp; go_at_call 11; refine hc1.out.mono ?_; rintro e W7 ⟨rfl, rfl⟩)
          | (go_simp; go_at_call 12; refine hc2.out.mono ?_; rintro e W8 ⟨rfl, rfl⟩))
        all_goals
          go_wp2
          go_roundw
          case rel => exact ⟨i + 1, by omega, by go_num, nx, hM6.out, hX6.out, hsub2.out, hle2.out⟩
          case measure => simp [intOf]; omega
      · obtain rfl : i = l.length := by omega
        have hb := Lib.hid hM.bel
        clear hM hX hsub
        go_wp2
        go_ret
        exact ⟨rfl, hb.out⟩
end Go.Proofs.YtiibjgnmdieicaaGreat.Hist
