/- the document's machine: Step, walked. -/
import Derived.Test.YtiibjgnmdieicaaGreatZe
import Derived.Test.YtiibjgnmdieicaaGreatZd
import Derived.Test.YtiibjgnmdieicaaGreatZc
namespace Go.Proofs.YtiibjgnmdieicaaGreat.Hist
open Go.RowKit Go.Proofs.YtiibjgnmdieicaaGreatW.PrintWords Go.Sort
def RelLz (w : World) (L : List Fnd) (s9 s10 : Value) (wr : World) : Prop := ∃ i : Nat, i ≤ L.length ∧ s10 = .int .i64 i ∧ s9 = .int .i64 (((L.take i).map Fnd.rule).foldl leastZ 0) ∧ Below w.heap.size w wr
theorem fold_next {L : List Fnd} {i : Nat} (h : i < L.length) : ((L.take (i + 1)).map Fnd.rule).foldl leastZ 0 = leastZ (((L.take i).map Fnd.rule).foldl leastZ 0) L[i].rule := by
  rw [← List.take_append_getElem h, List.map_append, List.foldl_append]
  rfl
set_option maxHeartbeats 32000000 in
set_option maxRecDepth 100000 in
theorem stepR_any (w0 W : World) (M : Nat) (evs : List Evt) (hM : MachR w0 W M evs) (x : Evt) (A4 : Option Addr) (c4 : Nat) (A5 : Option Addr) (c5 : Nat) (A9 : Option Addr) (c9 : Nat) (hK : EvRd w0 W x A4 c4 A5 c5 A9 c9) (hI : EvIn x) (hJ : JudgeIn (evs ++ [x])) (hV : ∀ j (hj : j < (evs ++ [x]).length), (evs ++ [x])[j].f6.f3.length ≤ 1024) (hv0 : ∀ j (hj : j < (evs ++ [x]).length), ∀ v ∈ (evs ++ [x])[j].f6.f3, 0 ≤ v.f1) (hlen : evs.length + 2 ≤ 1048576) :
    Calls Tryz.prog 10 #[.pointer (some ⟨M, 0, none⟩), .agg #[.int .i64 x.f0, .int .i64 x.f1, .int .i64 x.f2, .int .u64 x.f3, .slice A4 x.f4.length c4, .slice A5 x.f5.length c5, .int .i64 x.f6.f0, .int .i64 x.f6.f1, .int .u64 x.f6.f2, .slice A9 x.f6.f3.length c9]] W (SteppedR w0 W M evs x (stepW evs x)) := by
  obtain ⟨sw, hsw⟩ : ∃ sw, sw = stepW evs x := ⟨_, rfl⟩
  rw [← hsw]
  replace hsw := Lib.hid hsw
  have hM0 := hM
  obtain ⟨⟨A, c, hMb, hO⟩, hMl, hb0⟩ := hM
  obtain ⟨V, hVe⟩ : ∃ V, V = W := ⟨_, rfl⟩
  have hVW : Below V.heap.size V W := by rw [hVe]; exact Below.refl _ _
  obtain ⟨n, hn⟩ : ∃ n, n = evs.length := ⟨_, rfl⟩
  have hE := heap_alloc_new W (.cells #[.int .i64 x.f0, .int .i64 x.f1, .int .i64 x.f2, .int .u64 x.f3, .slice A4 x.f4.length c4, .slice A5 x.f5.length c5, .int .i64 x.f6.f0, .int .i64 x.f6.f1, .int .u64 x.f6.f2, .slice A9 x.f6.f3.length c9] 38)
  have hbE : Below W.heap.size W (W.alloc (.cells #[.int .i64 x.f0, .int .i64 x.f1, .int .i64 x.f2, .int .u64 x.f3, .slice A4 x.f4.length c4, .slice A5 x.f5.length c5, .int .i64 x.f6.f0, .int .i64 x.f6.f1, .int .u64 x.f6.f2, .slice A9 x.f6.f3.length c9] 38)) := below_alloc (Below.refl _ _) _
  have hMB1 := Lib.hid (blk_below hMb hbE)
  have hM1 := Lib.hid (hM0.below hbE)
  have hB1 := below_then hVW hVW.size hbE
  have hrow := reads_below (row_read hO) hbE
  rw [← hn] at hMB1 hlen
  replace hE := Lib.hid hE
  replace hB1 := Lib.hid hB1
  replace hJ := Lib.hid hJ
  replace hI := Lib.hid hI
  replace hV := Lib.hid hV
  replace hv0 := Lib.hid hv0
  replace hrow := Lib.hid hrow
  replace hK := Lib.hid (hK.below hbE)
  replace hn := Lib.hid hn
  rw [show SteppedR w0 W M evs x sw = SteppedR w0 V M evs x sw by rw [hVe]]
  clear hMb hO hMl hb0 hbE hVe hVW hM0
  go_enter Tryz.func10, Tryz.ntmps10
  go_wp2
  generalize W.alloc (.cells #[.int .i64 x.f0, .int .i64 x.f1, .int .i64 x.f2, .int .u64 x.f3, .slice A4 x.f4.length c4, .slice A5 x.f5.length c5, .int .i64 x.f6.f0, .int .i64 x.f6.f1, .int .u64 x.f6.f2, .slice A9 x.f6.f3.length c9] 38) = W1 at *
  generalize W.heap.size = E0 at *
  clear W
  have bd : Below W1.heap.size W1 W1.drew := below_drew (Below.refl _ _)
  have hED := Lib.hid (blk_below hE.out bd)
  have hMD := Lib.hid (hM1.out.below bd)
  have hRD := Lib.hid (reads_below hrow.out bd)
  have hBD := Lib.hid (below_then hB1.out hB1.out.size bd)
  have m0 := blk_cell hMB1.out 0
  have e0 := blk_cell hE.out 0
  have e1 := blk_cell hE.out 1
  have e2 := blk_cell hE.out 2
  have e3 := blk_cell hE.out 3
  have e4 := blk_cell hE.out 4
  have e5 := blk_cell hE.out 5
  have e6 := blk_cell hE.out 6
  have e7 := blk_cell hE.out 7
  have e8 := blk_cell hE.out 8
  have e9 := blk_cell hE.out 9
  simp only [List.getElem?_toArray, List.getElem?_cons_zero, List.getElem?_cons_succ] at e0 e1 e2 e3 e4 e5 e6 e7 e8 e9
  simp only [List.getElem?_toArray, List.getElem?_cons_zero] at m0
  have hKD := Lib.hid (hK.out.below bd)
  have hs0 : Hid (w0.heap.size ≤ W1.drew.heap.size) := Lib.hid hMD.out.bel.size
  have hown := Lib.hid fun W (hb : Below W1.drew.heap.size W1.drew W) => own_any x A4 c4 A5 c5 A9 c9 w0 W (Nat.le_trans hs0.out hb.size) (hKD.out.below hb) hI.out
  clear hE hM1 hMB1 hrow hB1 bd hK hKD
  have hn16 : n ≤ 1048576 := by omega
  have hn1 := Lib.hid (show n * 128 ≤ 140737488355328 by omega)
  have hn2 := Lib.hid (show (n + 1) * 128 ≤ 140737488355328 by omega)
  refine Code.wp_mono (Q := QN fun a w3 => ∃ A1 c1 A2 c2 k B4 d4 B5 d5 B9 d9, MachR w0 w3 M evs ∧ Below V.heap.size V w3 ∧ OwnRow (EvR w0 w3) tE 10 w3 w0.heap.size (.slice A2 (n + 1) c2) (evs ++ [x]) ∧ w3.heap[E0]? = some (.cells #[.int .i64 x.f0, .int .i64 x.f1, .int .i64 x.f2, .int .u64 x.f3, .slice A4 x.f4.length c4, .slice A5 x.f5.length c5, .int .i64 x.f6.f0, .int .i64 x.f6.f1, .int .u64 x.f6.f2, .slice A9 x.f6.f3.length c9] 38 (0, 0)) ∧ a = ⟨#[.pointer (some ⟨M, 0, none⟩), .agg #[.int .i64 x.f0, .int .i64 x.f1, .int .i64 x.f2, .int .u64 x.f3, .slice A4 x.f4.length c4, .slice A5 x.f5.length c5, .int .i64 x.f6.f0, .int .i64 x.f6.f1, .int .u64 x.f6.f2, .slice A9 x.f6.f3.length c9], undef, .pointer (some ⟨E0, 0, none⟩), .int .i64 0, .slice A2 (n + 1) c2, undef, undef, undef, undef, undef, .pointer (some ⟨M, 0, none⟩), .pointer (some ⟨M, 0, none⟩), .pointer (some ⟨M, 0, none⟩), .slice A n c, .slice A1 n c1, .agg #[.int .i64 x.f0, .int .i64 x.f1, .int .i64 x.f2, .int .u64 x.f3, .slice A4 x.f4.length c4, .slice A5 x.f5.length c5, .int .i64 x.f6.f0, .int .i64 x.f6.f1, .int .u64 x.f6.f2, .slice A9 x.f6.f3.length c9], .agg #[.int .i64 x.f0, .int .i64 x.f1, .int .i64 x.f2, .int .u64 x.f3, .slice B4 x.f4.length d4, .slice B5 x.f5.length d5, .int .i64 x.f6.f0, .int .i64 x.f6.f1, .int .u64 x.f6.f2, .slice B9 x.f6.f3.length d9], .slice (some ⟨k, 0, none⟩) 1 1, .slice A2 (n + 1) c2, undef, undef, undef, undef, undef, undef, undef, undef, undef, undef, undef, undef, undef, undef, undef, undef, undef, undef, undef, undef, undef, undef, undef, undef, undef, undef, undef, undef, undef, undef, undef, undef, undef, undef, undef, undef, undef, undef, undef, undef, undef, undef, undef, undef, undef, undef, undef, undef, undef, undef, undef, undef, undef, undef, undef, undef, undef, undef, undef, undef, undef, undef, undef, undef, undef], []⟩) ?hq ?h
  case h =>
    go_region_law (first
      | (refine step_append_nil (R := EvR w0 W1.drew) rfl (.const (.slice none 0 0)) (.tmp 14) 22 rfl Tryz.underlying22 infoE rfl (by decide) (by decide) evs n (by exact hn.out.symm) A c rfl (by simp [Act.eval]) (by exact hRD.out) (by exact fun _ _ h => h.one) (by exact hn1.out) ?_; intro A1 c1 w1 own1 bel1; have hca := Lib.hid (hown.out w1 bel1); have hEw := blk_below hED.out bel1; have f0 := blk_cell hEw 0; have f1 := blk_cell hEw 1; have f2 := blk_cell hEw 2; have f3 := blk_cell hEw 3; have f4 := blk_cell hEw 4; have f5 := blk_cell hEw 5; have f6 := blk_cell hEw 6; have f7 := blk_cell hEw 7; have f8 := blk_cell hEw 8; have f9 := blk_cell hEw 9; simp only [List.getElem?_toArray, List.getElem?_cons_zero, List.getElem?_cons_succ] at f0 f1 f2 f3 f4 f5 f6 f7 f8 f9; clear hEw; replace own1 := Lib.hid own1; replace bel1 := Lib.hid bel1)
      | (go_simp; go_at_call 25; refine hca.out.mono ?_; rintro e w2 ⟨B4, d4, B5, d5, B9, d9, rfl, hw2, hb2⟩; replace hw2 := Lib.hid hw2; replace hb2 := Lib.hid hb2)
      | (refine step_append_row (R := EvR w0 (w2.alloc (.cells (evCells x B4 d4 B5 d5 B9 d9).toArray tE))) W1.drew.heap.size rfl (.tmp 15) (.tmp 18) 22 rfl Tryz.underlying22 infoE rfl (by decide) (by decide) evs [x] n 1 (by exact hn.out.symm) rfl (.slice A1 n c1) (some ⟨w2.heap.size, 0, none⟩) 1 (by simp [Act.eval]) (by simp [Act.eval]) (by exact ((own1.out.imp_ fun _ _ h => h.below bel1.out).below (hb2.out.alloc hb2.out.size _)).imp_ fun _ _ h => h.below (hb2.out.alloc hb2.out.size _)) (by exact Nat.le_trans bel1.out.size (hb2.out.alloc hb2.out.size _).size) (by exact new_row w2 tE (EvR.below ⟨B4, d4, B5, d5, B9, d9, rfl, hw2.out⟩ (below_alloc (Below.refl _ _) _)) rfl) (by exact fun _ _ h => h.one) (by exact hn2.out) ?_; intro A2 c2 w3 own3 bel3 gr3; have hz := ((own1.out.imp_ fun _ _ h => h.below bel1.out).below (hb2.out.alloc hb2.out.size (.cells (evCells x B4 d4 B5 d5 B9 d9).toArray tE))).imp_ fun _ _ h => h.below (hb2.out.alloc hb2.out.size (.cells (evCells x B4 d4 B5 d5 B9 d9).toArray tE)); have hown3 := Lib.hid ((row_grown hs0.out hz own3 gr3).lower hs0.out); have hb13 := (below_then bel1.out bel1.out.size (hb2.out.alloc hb2.out.size (.cells (evCells x B4 d4 B5 d5 B9 d9).toArray tE))).trans bel3; have hM3 := Lib.hid (hMD.out.below hb13); have hB3 := Lib.hid (below_then hBD.out hBD.out.size hb13); have hE3 := Lib.hid (blk_below hED.out hb13); clear hz own3 bel3 gr3 hb13))
    all_goals exact ⟨A1, c1, A2, c2, _, B4, d4, B5, d5, B9, d9, hM3.out, hB3.out, hown3.out, hE3.out, rfl⟩
  case hq =>
    intro e a w3 h
    cases e with
    | normal =>
      obtain ⟨A1, c1, A2, c2, k, B4, d4, B5, d5, B9, d9, hMa, hV3, hO3, hE3, rfl⟩ := h
      have e0 := blk_cell hE3 0
      have e1 := blk_cell hE3 1
      have e2 := blk_cell hE3 2
      have e3 := blk_cell hE3 3
      simp only [List.getElem?_toArray, List.getElem?_cons_zero, List.getElem?_cons_succ] at e0 e1 e2 e3
      have lE := blk_lt hE3
      have hlx : (evs ++ [x]).length = n + 1 := by rw [List.length_append, hn.out]; rfl
      have hC3 := evs_C hO3
      clear hED hMD hRD hBD hown hs0 m0
      replace hMa := Lib.hid hMa
      replace hV3 := Lib.hid hV3
      replace hO3 := Lib.hid hO3
      replace hE3 := Lib.hid hE3
      replace hlx := Lib.hid hlx
      by_cases hr : x.f0 = 1 ∧ x.f3 = 0
      · have b0 : (x.f0 == 1) = true := beq_iff_eq.2 hr.1
        have b3 : (x.f3 == 0) = true := beq_iff_eq.2 hr.2
        have hst : sw = if properB (evs ++ [x] ++ [refusedEv x]) = true then 0 else 1 := by rw [hsw.out]; unfold stepW; rw [if_pos hr]
        have hlr : (evs ++ [x] ++ [refusedEv x]).length = n + 1 + 1 := by rw [List.length_append, hlx.out]; rfl
        have hl2 : (evs ++ [x] ++ [refusedEv x]).length ≤ 1048576 := by rw [hlr]; omega
        have hrf : ∀ W, EvR w0 W (refusedEv x) (evCells (refusedEv x) none 0 none 0 none 0) := fun W => ⟨none, 0, none, 0, none, 0, rfl, ⟨OwnRow.none_ _ _ _ _ _, OwnRow.none_ _ _ _ _ _, OwnRow.none_ _ _ _ _ _⟩⟩
        have hn3 := Lib.hid (show (n + 1 + 1) * 128 ≤ 140737488355328 by omega)
        have bd : Below w3.heap.size w3 w3.drew := below_drew (Below.refl _ _)
        have hR3 := Lib.hid (reads_below (row_read hO3.out) bd)
        have hs0 := Lib.hid hMa.out.bel.size
        clear hsw hC3
        replace bd := Lib.hid bd
        replace hr := Lib.hid hr
        replace hlr := Lib.hid hlr
        replace hrf := Lib.hid hrf
        replace hl2 := Lib.hid hl2
        generalize hpp : properB (evs ++ [x] ++ [refusedEv x]) = pp at *
        replace hpp := Lib.hid hpp
        replace hst := Lib.hid hst
        go_upto_region 3 with (fail)
        go_cut [6] (fun s6 wx => ∃ A6 c6, s6 = .slice A6 (n + 1 + 1) c6 ∧ Kd.C kEvt wx A6 (evs ++ [x] ++ [refusedEv x]).length (evs ++ [x] ++ [refusedEv x]) ∧ Below w3.heap.size w3 wx)
        case first =>
          refine wp_region_noPanic ?_
          refine wp_region_F 12 (fun w' => w'.cell? ⟨E0, 1, none⟩ = some (.int .i64 x.f1) ∧ w'.cell? ⟨E0, 2, none⟩ = some (.int .i64 x.f2)) (by kernel_rfl) ?_
          have hHeld : w3.drew.cell? ⟨E0, 1, none⟩ = some (.int .i64 x.f1) ∧ w3.drew.cell? ⟨E0, 2, none⟩ = some (.int .i64 x.f2) := ⟨e1, e2⟩
          refine wpAnyF_take (i := 0) (v := ?_) rfl (by kernel_rfl) (by kernel_rfl) (by kernel_rfl) rfl (by kernel_rfl) rfl (fun _ _ _ _ _ h => h) hHeld rfl ?_ ?_
          rotate_left 1
          · rintro w' ⟨y1, y2⟩
            go_simp
            try with_reducible rfl
          simp only [Act.put]
          refine wpAnyF_take (i := 2) (v := ?_) rfl (by kernel_rfl) (by kernel_rfl) (by kernel_rfl) rfl (by kernel_rfl) rfl (fun _ _ _ _ _ h => h) hHeld rfl ?_ ?_
          rotate_left 1
          · rintro w' ⟨y1, y2⟩
            go_simp
            try with_reducible rfl
          simp only [Act.put]
          refine wpAnyF_take (i := 3) (v := ?_) rfl (by kernel_rfl) (by kernel_rfl) (by kernel_rfl) rfl (by kernel_rfl) rfl (fun _ _ _ _ _ h => h) hHeld rfl ?_ ?_
          rotate_left 1
          · rintro w' ⟨y1, y2⟩
            go_simp
            try with_reducible rfl
          simp only [Act.put]
          refine wpAnyF_take (i := 4) (v := ?_) rfl (by kernel_rfl) (by kernel_rfl) (by kernel_rfl) rfl (by kernel_rfl) rfl (fun _ _ _ _ _ h => h) hHeld rfl ?_ ?_
          rotate_left 1
          · rintro w' ⟨y1, y2⟩
            go_simp
            try with_reducible rfl
          simp only [Act.put]
          refine wpAnyF_take (i := 5) (v := ?_) rfl (by kernel_rfl) (by kernel_rfl) (by kernel_rfl) rfl (by kernel_rfl) rfl (fun _ _ _ _ _ h => h) hHeld rfl ?_ ?_
          rotate_left 1
          · rintro w' ⟨y1, y2⟩
            go_simp
            try with_reducible rfl
          simp only [Act.put]
          refine wpAnyF_take (i := 6) (v := ?_) rfl (by kernel_rfl) (by kernel_rfl) (by kernel_rfl) rfl (by kernel_rfl) rfl (fun _ _ _ _ _ h => h) hHeld rfl ?_ ?_
          rotate_left 1
          · rintro w' ⟨y1, y2⟩
            go_simp
            try with_reducible rfl
          simp only [Act.put]
          refine wpAnyF_take (i := 7) (v := ?_) rfl (by kernel_rfl) (by kernel_rfl) (by kernel_rfl) rfl (by kernel_rfl) rfl (fun _ _ _ _ _ h => h) hHeld rfl ?_ ?_
          rotate_left 1
          · rintro w' ⟨y1, y2⟩
            go_simp
            try with_reducible rfl
          simp only [Act.put]
          refine wpAnyF_take (i := 8) (v := ?_) rfl (by kernel_rfl) (by kernel_rfl) (by kernel_rfl) rfl (by kernel_rfl) rfl (fun _ _ _ _ _ h => h) hHeld rfl ?_ ?_
          rotate_left 1
          · rintro w' ⟨y1, y2⟩
            go_simp
            try with_reducible rfl
          simp only [Act.put]
          refine wpAnyF_take (i := 9) (v := ?_) rfl (by kernel_rfl) (by kernel_rfl) (by kernel_rfl) rfl (by kernel_rfl) rfl (fun _ _ _ _ _ h => h) hHeld rfl ?_ ?_
          rotate_left 1
          · rintro w' ⟨y1, y2⟩
            go_simp
            try with_reducible rfl
          simp only [Act.put]
          refine wpAnyF_two (i := 1) (j := 10) (by kernel_rfl) rfl rfl (fun K hK => ?_) (fun K hK => ?_)
          · refine step_append_nil (W := w3.drew) (R := EvR w0 w3.drew) rfl (.const (.slice none 0 0)) (.tmp 28) 22 rfl Tryz.underlying22 infoE rfl (by decide) (by decide) (evs ++ [x]) (n + 1) (by exact hlx.out) A2 c2 rfl (by simp [Act.eval]) (by exact hR3.out) (by exact fun _ _ h => h.one) (by exact hn2.out) ?_
            intro A5 c5' w4 own4 bel4
            refine hK.out _ _ ⟨pw_cell_below bel4 hHeld.1, pw_cell_below bel4 hHeld.2⟩ (fun hq => ?_)
            clear hK K hq
            have hba : Below w3.drew.heap.size w3.drew (w4.alloc (.cells (evCells (refusedEv x) none 0 none 0 none 0).toArray tE)) := below_then bel4 bel4.size (below_alloc (Below.refl _ _) _)
            have hz := (own4.below (below_alloc (Below.refl _ _) (.cells (evCells (refusedEv x) none 0 none 0 none 0).toArray tE))).imp_ fun _ _ h => (h.below bel4).below (below_alloc (Below.refl _ _) (.cells (evCells (refusedEv x) none 0 none 0 none 0).toArray tE))
            have hx := new_row w4 tE (hrf.out (w4.alloc (.cells (evCells (refusedEv x) none 0 none 0 none 0).toArray tE))) rfl
            simp only [Act.put]
            refine wpAnyF_one (i := 10) (by kernel_rfl) rfl (fun K hK => ?_)
            go_simp
            refine hK.out _ _ ⟨pw_cell_below hba hHeld.1, pw_cell_below hba hHeld.2⟩ (fun hq => ?_)
            clear hK K hq
            refine wpAnyF_one (i := 11) (by kernel_rfl) rfl (fun K hK => ?_)
            refine step_append_row (W := w4.alloc (.cells (evCells (refusedEv x) none 0 none 0 none 0).toArray tE)) (R := EvR w0 (w4.alloc (.cells (evCells (refusedEv x) none 0 none 0 none 0).toArray tE))) w3.drew.heap.size rfl (.tmp 29) (.tmp 38) 22 rfl Tryz.underlying22 infoE rfl (by decide) (by decide) (evs ++ [x]) [refusedEv x] (n + 1) 1 (by exact hlx.out) rfl (.slice A5 (n + 1) c5') (some ⟨w4.heap.size, 0, none⟩) 1 (by simp [Act.eval]) (by simp [Act.eval]) (by exact hz) (by exact hba.size) (by exact hx) (by exact fun _ _ h => h.one) (by exact hn3.out) ?_
            intro A6 c6 w6 own6 bel6 gr6
            have hb6 := hba.trans bel6
            have hz6 := evs_C (row_grown (Nat.le_trans hs0.out bd.out.size) hz own6 gr6)
            have hb36 := below_then bd.out bd.out.size hb6
            refine hK.out _ _ ⟨pw_cell_below hb6 hHeld.1, pw_cell_below hb6 hHeld.2⟩ (fun hq => ?_)
            clear hK K hq hHeld hz own6 bel6 gr6 hba hx own4 bel4 hb6
            replace hz6 := Lib.hid hz6
            replace hb36 := Lib.hid hb36
            simp only [Act.put]
            refine wpAnyF_last (by kernel_rfl) rfl (by kernel_rfl) rfl (fun K hK => ?_)
            go_simp
            refine hK.out _ _ (NoPanic.normal ?_)
            clear hK K
            go_wp2_with fail
            go_meet
            exact ⟨_, _, rfl, hz6.out, hb36.out⟩
          · go_simp
            have hba : Below w3.drew.heap.size w3.drew (w3.drew.alloc (.cells (evCells (refusedEv x) none 0 none 0 none 0).toArray tE)) := below_alloc (Below.refl _ _) _
            have hx := new_row w3.drew tE (hrf.out (w3.drew.alloc (.cells (evCells (refusedEv x) none 0 none 0 none 0).toArray tE))) rfl
            refine hK.out _ _ ⟨pw_cell_below hba hHeld.1, pw_cell_below hba hHeld.2⟩ (fun hq => ?_)
            clear hK K hq
            refine wpAnyF_one (i := 1) (by kernel_rfl) rfl (fun K hK => ?_)
            refine step_append_nil (W := w3.drew.alloc (.cells (evCells (refusedEv x) none 0 none 0 none 0).toArray tE)) (R := EvR w0 (w3.drew.alloc (.cells (evCells (refusedEv x) none 0 none 0 none 0).toArray tE))) rfl (.const (.slice none 0 0)) (.tmp 28) 22 rfl Tryz.underlying22 infoE rfl (by decide) (by decide) (evs ++ [x]) (n + 1) (by exact hlx.out) A2 c2 rfl (by simp [Act.eval]) (by exact reads_below hR3.out hba) (by exact fun _ _ h => h.one) (by exact hn2.out) ?_
            intro A5 c5' w4 own4 bel4
            have hbb := below_then hba hba.size bel4
            have hz := (own4.lower hba.size).imp_ fun _ _ h => h.below bel4
            have hx4 := reads_below hx bel4
            refine hK.out _ _ ⟨pw_cell_below hbb hHeld.1, pw_cell_below hbb hHeld.2⟩ (fun hq => ?_)
            clear hK K hq
            simp only [Act.put]
            refine wpAnyF_one (i := 11) (by kernel_rfl) rfl (fun K hK => ?_)
            refine step_append_row (W := w4) (R := EvR w0 w4) w3.drew.heap.size rfl (.tmp 29) (.tmp 38) 22 rfl Tryz.underlying22 infoE rfl (by decide) (by decide) (evs ++ [x]) [refusedEv x] (n + 1) 1 (by exact hlx.out) rfl (.slice A5 (n + 1) c5') (some ⟨w3.drew.heap.size, 0, none⟩) 1 (by simp [Act.eval]) (by simp [Act.eval]) (by exact hz) (by exact hbb.size) (by exact hx4) (by exact fun _ _ h => h.one) (by exact hn3.out) ?_
            intro A6 c6 w6 own6 bel6 gr6
            have hb6 := hbb.trans bel6
            have hz6 := evs_C (row_grown (Nat.le_trans hs0.out bd.out.size) hz own6 gr6)
            have hb36 := below_then bd.out bd.out.size hb6
            refine hK.out _ _ ⟨pw_cell_below hb6 hHeld.1, pw_cell_below hb6 hHeld.2⟩ (fun hq => ?_)
            clear hK K hq hHeld hz own6 bel6 gr6 hba hx hx4 own4 bel4 hb6 hbb
            replace hz6 := Lib.hid hz6
            replace hb36 := Lib.hid hb36
            simp only [Act.put]
            refine wpAnyF_last (by kernel_rfl) rfl (by kernel_rfl) rfl (fun K hK => ?_)
            go_simp
            refine hK.out _ _ (NoPanic.normal ?_)
            clear hK K
            go_wp2_with fail
            go_meet
            exact ⟨_, _, rfl, hz6.out, hb36.out⟩
        case rest =>
          obtain ⟨A6, c6, rfl, hC6, hb36⟩ := hcut
          have hpr := rproper_any A6 c6 _ wc hC6
          rw [hlr.out, hpp.out] at hpr
          replace hpr := Lib.hid hpr
          replace hb36 := Lib.hid hb36
          clear hC6 hR3 bd
          replace hst := hst.out
          cases pp
          all_goals
            first
            | (replace hst : sw = 0 := by rw [hst]; first | exact if_pos rfl | exact if_pos trivial)
            | (replace hst : sw = 1 := by rw [hst]; exact if_neg (by decide))
            subst hst
            go_wp2_with fail
            refine hpr.out.mono ?_
            rintro e w7 ⟨rfl, hb7⟩
            have hb37 := Lib.hid (below_then hb36.out hb36.out.size hb7)
            have hvf := Lib.hid (below_then hV3.out hV3.out.size hb37.out)
            have hfin := hMa.out.below hb37.out
            obtain ⟨⟨u6, k6⟩, z6⟩ := hfin.cell
            have hO6 := Lib.hid (row_below hO3.out hb37.out)
            replace hfin := Lib.hid hfin
            clear hb7
            go_wp2
            go_ret
            first
            | exact ⟨rfl, _, hvf.out, hfin.out, .inr ⟨rfl, ⟨_, rfl⟩, hfin.out.put hO6.out hlx.out⟩⟩
            | exact ⟨rfl, _, hvf.out, hfin.out, .inl ⟨by decide, rfl⟩⟩
      · have hpr := rproper_any A2 c2 (evs ++ [x]) w3 hC3
        rw [hlx.out] at hpr
        have hst : sw = if properB (evs ++ [x]) = true then judgedB (evs ++ [x]) else 1 := by rw [hsw.out]; unfold stepW; rw [if_neg hr]
        clear hsw
        replace hpr := Lib.hid hpr
        by_cases h0 : x.f0 = 1
        · have b0 : (x.f0 == 1) = true := beq_iff_eq.2 h0
          have b3 : (x.f3 == 0) = false := beq_eq_false_iff_ne.2 fun e => hr ⟨h0, e⟩
          replace h0 := Lib.hid h0
          replace hr := Lib.hid hr
          cases hp : properB (evs ++ [x])
          · rw [hp, if_neg (by decide)] at hst
            rw [hp] at hpr
            subst hst
            go_wp2_with fail
            refine hpr.out.mono ?_
            rintro e w4 ⟨rfl, hb4⟩
            have hvf := Lib.hid (below_then hV3.out hV3.out.size hb4)
            have hfin := hMa.out.below hb4
            replace hfin := Lib.hid hfin
            clear hb4 hC3
            go_wp2
            go_ret
            exact ⟨rfl, _, hvf.out, hfin.out, .inl ⟨by decide, rfl⟩⟩
          · rw [hp, if_pos rfl] at hst
            rw [hp] at hpr
            have hjd := Lib.hid fun W (hb : Below w3.heap.size w3 W) => rjudge_any A2 c2 (evs ++ [x]) hp hJ.out.few hV.out hJ.out.prs hv0.out W (Kd.C_below hC3 hb)
            replace hp := Lib.hid hp
            replace hst := Lib.hid hst
            clear hC3
            go_wp2_with fail
            refine hpr.out.mono ?_
            rintro e w4 ⟨rfl, hb4⟩
            have hjd4 := hjd.out w4 hb4
            rw [hlx.out] at hjd4
            replace hjd4 := Lib.hid hjd4
            replace hb4 := Lib.hid hb4
            go_wp2_with fail
            refine hjd4.out.mono ?_
            rintro e w5 ⟨A7, c7, L, rfl, hL, hru, hb5⟩
            have hb35 := Lib.hid (below_then hb4.out hb4.out.size hb5)
            have hjl := judged_least hp.out hv0.out (M := L.map Fnd.rule) fun r => by rw [List.mem_map]; exact hru r
            rw [← hst.out] at hjl
            have hmm : 0 ≤ (L.map Fnd.rule).foldl leastZ 0 ∧ (L.map Fnd.rule).foldl leastZ 0 ≤ 4 := by
              have hM : ∀ r ∈ L.map Fnd.rule, 1 ≤ r ∧ r ≤ 4 := fun r hr => rule_pos ((hru r).1 (List.mem_map.1 hr))
              rcases (leastZ_spec (L.map Fnd.rule) 0 (fun r hr => (hM r hr).1) (Int.le_refl _)).1 with e | e
              · omega
              · have := hM _ e
                omega
            replace hjl := Lib.hid hjl
            replace hmm := Lib.hid hmm
            have hml : L.length ≤ 9223372036854775807 := hL.2.1
            replace hL := Lib.hid hL
            clear hb5 hb4 hjd4 hjd hru hpr b0 e0 e1 e2 e3 lE
            go_wp2
            go_loopw [9, 10] (fun s9 s10 wr => RelLz w5 L s9 s10 wr) (fun _ s10 _ => L.length - (intOf s10).toNat)
            case atStart => exact ⟨0, Nat.zero_le _, rfl, rfl, Below.refl _ _⟩
            case round =>
              obtain ⟨i, hi, rfl, rfl, hB⟩ := hrel
              by_cases hlt : i < L.length
              · obtain ⟨ad, hA, g1⟩ := fnd_at (hL.out.below hB) hlt
                obtain rfl := hA
                have a1 : IntKind.i64.wrap ((i : Int) + 1) = (i : Int) + 1 := IntWalk.i64_in _ (by omega)
                have hnx := fold_next hlt
                generalize ((L.take i).map Fnd.rule).foldl leastZ 0 = m at *
                generalize L[i].rule = q at *
                generalize hF : ((L.take (i + 1)).map Fnd.rule).foldl leastZ 0 = F at *
                replace hF := Lib.hid hF
                replace hB := Lib.hid hB
                by_cases hz : m = 0
                · have c1 : (m == 0) = true := beq_iff_eq.2 hz
                  have hq : Hid (F = q) := Lib.hid (by rw [hnx]; unfold leastZ; rw [c1]; rfl)
                  replace hz := Lib.hid hz
                  clear hnx
                  go_wp2
                  go_roundw
                  case rel => exact ⟨i + 1, by omega, by go_num, by rw [hF.out, hq.out], hB.out⟩
                  case measure => simp [intOf]; omega
                · have c1 : (m == 0) = false := beq_eq_false_iff_ne.2 hz
                  by_cases hq : q < m
                  · have c2 : decide (q < m) = true := decide_eq_true hq
                    have hq2 : Hid (F = q) := Lib.hid (by rw [hnx]; unfold leastZ; rw [c1, c2]; rfl)
                    replace hz := Lib.hid hz
                    clear hnx
                    go_wp2
                    go_roundw
                    case rel => exact ⟨i + 1, by omega, by go_num, by rw [hF.out, hq2.out], hB.out⟩
                    case measure => simp [intOf]; omega
                  · have c2 : decide (q < m) = false := decide_eq_false hq
                    have hq2 : Hid (F = m) := Lib.hid (by rw [hnx]; unfold leastZ; rw [c1, c2]; rfl)
                    replace hz := Lib.hid hz
                    clear hnx
                    go_wp2
                    go_roundw
                    case rel => exact ⟨i + 1, by omega, by go_num, by rw [hF.out, hq2.out], hB.out⟩
                    case measure => simp [intOf]; omega
              · obtain rfl : i = L.length := by omega
                rw [List.take_length] at *
                generalize (L.map Fnd.rule).foldl leastZ 0 = m at *
                have hbf := below_then hb35.out hb35.out.size hB
                have hvf := Lib.hid (below_then hV3.out hV3.out.size hbf)
                have hfin := hMa.out.below hbf
                obtain ⟨⟨u6, k6⟩, z6⟩ := hfin.cell
                have hO6 := Lib.hid (row_below hO3.out hbf)
                replace hfin := Lib.hid hfin
                clear hB hbf
                by_cases hz : 0 < m
                · have c1 : decide (0 < m) = true := decide_eq_true hz
                  have a1 : IntKind.i64.wrap (m + 1) = m + 1 := IntWalk.i64_in _ (by have := hmm.out; omega)
                  have hj2 := hjl.out
                  rw [if_pos hz] at hj2
                  subst hj2
                  replace hz := Lib.hid hz
                  go_wp2
                  go_ret
                  exact ⟨rfl, _, hvf.out, hfin.out, .inl ⟨by have := hz.out; omega, rfl⟩⟩
                · have c1 : decide (0 < m) = false := decide_eq_false hz
                  have hj2 := hjl.out
                  rw [if_neg hz] at hj2
                  subst hj2
                  replace hz := Lib.hid hz
                  go_wp2
                  go_ret
                  exact ⟨rfl, _, hvf.out, hfin.out, .inr ⟨rfl, ⟨_, rfl⟩, hfin.out.put hO6.out hlx.out⟩⟩
        · have b0 : (x.f0 == 1) = false := beq_eq_false_iff_ne.2 h0
          replace h0 := Lib.hid h0
          replace hr := Lib.hid hr
          cases hp : properB (evs ++ [x])
          · rw [hp, if_neg (by decide)] at hst
            rw [hp] at hpr
            subst hst
            go_wp2_with fail
            refine hpr.out.mono ?_
            rintro e w4 ⟨rfl, hb4⟩
            have hvf := Lib.hid (below_then hV3.out hV3.out.size hb4)
            have hfin := hMa.out.below hb4
            replace hfin := Lib.hid hfin
            clear hb4 hC3
            go_wp2
            go_ret
            exact ⟨rfl, _, hvf.out, hfin.out, .inl ⟨by decide, rfl⟩⟩
          · rw [hp, if_pos rfl] at hst
            rw [hp] at hpr
            have hjd := Lib.hid fun W (hb : Below w3.heap.size w3 W) => rjudge_any A2 c2 (evs ++ [x]) hp hJ.out.few hV.out hJ.out.prs hv0.out W (Kd.C_below hC3 hb)
            replace hp := Lib.hid hp
            replace hst := Lib.hid hst
            clear hC3
            go_wp2_with fail
            refine hpr.out.mono ?_
            rintro e w4 ⟨rfl, hb4⟩
            have hjd4 := hjd.out w4 hb4
            rw [hlx.out] at hjd4
            replace hjd4 := Lib.hid hjd4
            replace hb4 := Lib.hid hb4
            go_wp2_with fail
            refine hjd4.out.mono ?_
            rintro e w5 ⟨A7, c7, L, rfl, hL, hru, hb5⟩
            have hb35 := Lib.hid (below_then hb4.out hb4.out.size hb5)
            have hjl := judged_least hp.out hv0.out (M := L.map Fnd.rule) fun r => by rw [List.mem_map]; exact hru r
            rw [← hst.out] at hjl
            have hmm : 0 ≤ (L.map Fnd.rule).foldl leastZ 0 ∧ (L.map Fnd.rule).foldl leastZ 0 ≤ 4 := by
              have hM : ∀ r ∈ L.map Fnd.rule, 1 ≤ r ∧ r ≤ 4 := fun r hr => rule_pos ((hru r).1 (List.mem_map.1 hr))
              rcases (leastZ_spec (L.map Fnd.rule) 0 (fun r hr => (hM r hr).1) (Int.le_refl _)).1 with e | e
              · omega
              · have := hM _ e
                omega
            replace hjl := Lib.hid hjl
            replace hmm := Lib.hid hmm
            have hml : L.length ≤ 9223372036854775807 := hL.2.1
            replace hL := Lib.hid hL
            clear hb5 hb4 hjd4 hjd hru hpr b0 e0 e1 e2 e3 lE
            go_wp2
            go_loopw [9, 10] (fun s9 s10 wr => RelLz w5 L s9 s10 wr) (fun _ s10 _ => L.length - (intOf s10).toNat)
            case atStart => exact ⟨0, Nat.zero_le _, rfl, rfl, Below.refl _ _⟩
            case round =>
              obtain ⟨i, hi, rfl, rfl, hB⟩ := hrel
              by_cases hlt : i < L.length
              · obtain ⟨ad, hA, g1⟩ := fnd_at (hL.out.below hB) hlt
                obtain rfl := hA
                have a1 : IntKind.i64.wrap ((i : Int) + 1) = (i : Int) + 1 := IntWalk.i64_in _ (by omega)
                have hnx := fold_next hlt
                generalize ((L.take i).map Fnd.rule).foldl leastZ 0 = m at *
                generalize L[i].rule = q at *
                generalize hF : ((L.take (i + 1)).map Fnd.rule).foldl leastZ 0 = F at *
                replace hF := Lib.hid hF
                replace hB := Lib.hid hB
                by_cases hz : m = 0
                · have c1 : (m == 0) = true := beq_iff_eq.2 hz
                  have hq : Hid (F = q) := Lib.hid (by rw [hnx]; unfold leastZ; rw [c1]; rfl)
                  replace hz := Lib.hid hz
                  clear hnx
                  go_wp2
                  go_roundw
                  case rel => exact ⟨i + 1, by omega, by go_num, by rw [hF.out, hq.out], hB.out⟩
                  case measure => simp [intOf]; omega
                · have c1 : (m == 0) = false := beq_eq_false_iff_ne.2 hz
                  by_cases hq : q < m
                  · have c2 : decide (q < m) = true := decide_eq_true hq
                    have hq2 : Hid (F = q) := Lib.hid (by rw [hnx]; unfold leastZ; rw [c1, c2]; rfl)
                    replace hz := Lib.hid hz
                    clear hnx
                    go_wp2
                    go_roundw
                    case rel => exact ⟨i + 1, by omega, by go_num, by rw [hF.out, hq2.out], hB.out⟩
                    case measure => simp [intOf]; omega
                  · have c2 : decide (q < m) = false := decide_eq_false hq
                    have hq2 : Hid (F = m) := Lib.hid (by rw [hnx]; unfold leastZ; rw [c1, c2]; rfl)
                    replace hz := Lib.hid hz
                    clear hnx
                    go_wp2
                    go_roundw
                    case rel => exact ⟨i + 1, by omega, by go_num, by rw [hF.out, hq2.out], hB.out⟩
                    case measure => simp [intOf]; omega
              · obtain rfl : i = L.length := by omega
                rw [List.take_length] at *
                generalize (L.map Fnd.rule).foldl leastZ 0 = m at *
                have hbf := below_then hb35.out hb35.out.size hB
                have hvf := Lib.hid (below_then hV3.out hV3.out.size hbf)
                have hfin := hMa.out.below hbf
                obtain ⟨⟨u6, k6⟩, z6⟩ := hfin.cell
                have hO6 := Lib.hid (row_below hO3.out hbf)
                replace hfin := Lib.hid hfin
                clear hB hbf
                by_cases hz : 0 < m
                · have c1 : decide (0 < m) = true := decide_eq_true hz
                  have a1 : IntKind.i64.wrap (m + 1) = m + 1 := IntWalk.i64_in _ (by have := hmm.out; omega)
                  have hj2 := hjl.out
                  rw [if_pos hz] at hj2
                  subst hj2
                  replace hz := Lib.hid hz
                  go_wp2
                  go_ret
                  exact ⟨rfl, _, hvf.out, hfin.out, .inl ⟨by have := hz.out; omega, rfl⟩⟩
                · have c1 : decide (0 < m) = false := decide_eq_false hz
                  have hj2 := hjl.out
                  rw [if_neg hz] at hj2
                  subst hj2
                  replace hz := Lib.hid hz
                  go_wp2
                  go_ret
                  exact ⟨rfl, _, hvf.out, hfin.out, .inr ⟨rfl, ⟨_, rfl⟩, hfin.out.put hO6.out hlx.out⟩⟩
    | _ => exact h.elim
end Go.Proofs.YtiibjgnmdieicaaGreat.Hist
