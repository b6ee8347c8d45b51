/- spec: the machine in memory; New, Count, Clip, walked. -/
import Derived.Test.YtiibjgnmdieicaaGreatQg
import Derived.Deep.RegionLawGrows
namespace Go.Proofs.YtiibjgnmdieicaaGreat.Hist
open Go.RowKit Go.Proofs.YtiibjgnmdieicaaGreatW.PrintWords Go.Sort
abbrev tM : TypeId := 52
def evCells (x : Evt) (A4 : Option Addr) (c4 : Nat) (A5 : Option Addr) (c5 : Nat) (A9 : Option Addr) (c9 : Nat) : List Value := [.int .i64 x.f0, .int .i64 x.f1, .int .i64 x.f2, .int .u64 x.f3, .slice A4 x.f4.length c4, .slice A5 x.f5.length c5, .int .i64 x.f6.f0, .int .i64 x.f6.f1, .int .u64 x.f6.f2, .slice A9 x.f6.f3.length c9]
/-- an event of the machine's -/
def EvR (w0 W : World) (x : Evt) (cs : List Value) : Prop := ∃ B4 d4 B5 d5 B9 d9, cs = evCells x B4 d4 B5 d5 B9 d9 ∧ EvOwn w0 W x B4 d4 B5 d5 B9 d9
theorem EvR.below {w0 W W1 : World} {x : Evt} {cs : List Value} (h : EvR w0 W x cs) (hb : Below W.heap.size W W1) : EvR w0 W1 x cs := by
  obtain ⟨B4, d4, B5, d5, B9, d9, e, h⟩ := h
  exact ⟨B4, d4, B5, d5, B9, d9, e, h.below hb⟩
theorem EvR.set_ {w0 W : World} {x : Evt} {cs : List Value} (h : EvR w0 W x cs) {g : Nat} {c : Array Value} {t : TypeId} (hg : W.heap[g]? = some (.cells c t (0, 0))) (h4 : tPr ≠ t) (h5 : tS ≠ t) (h9 : tV ≠ t) (hw : w0.heap.size ≤ g) (j : Nat) (u : Value) : EvR w0 (W.setCell ⟨g, j, none⟩ u) x cs := by
  obtain ⟨B4, d4, B5, d5, B9, d9, e, h⟩ := h
  exact ⟨B4, d4, B5, d5, B9, d9, e, h.set_ hg h4 h5 h9 hw j u⟩
theorem EvR.one {w0 W : World} {x : Evt} {cs : List Value} (h : EvR w0 W x cs) : ∀ u ∈ cs, u.oneCell' = true := by
  obtain ⟨B4, d4, B5, d5, B9, d9, rfl, h⟩ := h
  exact kEvt.K_one h.ev
theorem EvR.len {w0 W : World} {x : Evt} {cs : List Value} (h : EvR w0 W x cs) : cs.length = 10 := by
  obtain ⟨B4, d4, B5, d5, B9, d9, rfl, h⟩ := h
  rfl
/-- a row of the machine's events, read -/
theorem evs_C {w0 W : World} {base : Nat} {A : Option Addr} {n c : Nat} {l : List Evt} (h : OwnRow (EvR w0 W) tE 10 W base (.slice A n c) l) : Kd.C kEvt W A l.length l := by
  obtain ⟨A1, c1, e1, _, hr⟩ := h.reads
  injection e1 with e1 _ _
  subst e1
  refine ⟨hr.1, hr.2.1, fun h0 => ?_⟩
  obtain ⟨ad, ea, hc⟩ := hr.2.2 h0
  refine ⟨ad, ea, fun j q hq => ?_⟩
  obtain ⟨cs, h1, h2, h3⟩ := hc j q hq
  obtain ⟨B4, d4, B5, d5, B9, d9, e, hh⟩ := h2
  exact ⟨cs, h1, by rw [e]; exact hh.ev, h3⟩
/-- the machine in memory -/
structure MachAt (w0 W : World) (M : Nat) (evs : List Evt) : Prop where
  mem : ∃ A c, W.heap[M]? = some (.cells #[.slice A evs.length c] tM (0, 0)) ∧ OwnRow (EvR w0 W) tE 10 W w0.heap.size (.slice A evs.length c) evs
  base : w0.heap.size ≤ M
  bel : Below w0.heap.size w0 W
theorem MachAt.below {w0 W W1 : World} {M : Nat} {evs : List Evt} (h : MachAt w0 W M evs) (hb : Below W.heap.size W W1) : MachAt w0 W1 M evs := by
  obtain ⟨⟨A, c, h1, h2⟩, h3, h4⟩ := h
  exact ⟨⟨A, c, blk_below h1 hb, (h2.below hb).imp_ fun _ _ h => h.below hb⟩, h3, below_then h4 h4.size hb⟩
set_option maxHeartbeats 1000000 in
theorem new_any (w0 w : World) (hb : Below w0.heap.size w0 w) : Calls Tryz.prog 7 #[] w fun e w' => ∃ M, e = .returned (.pointer (some ⟨M, 0, none⟩)) ∧ MachAt w0 w' M [] ∧ Below w.heap.size w w' := by
  have hB := Lib.hid (below_alloc (Below.refl _ _) (.cells #[.slice none 0 0] 52) : Below w.heap.size w _)
  have hM := Lib.hid (heap_alloc_new w (.cells #[.slice none 0 0] 52))
  replace hb := Lib.hid hb
  go_enter Tryz.func7, Tryz.ntmps7
  go_wp2
  go_ret
  exact ⟨_, rfl, ⟨⟨none, 0, hM.out, OwnRow.none_ _ _ _ _ _⟩, hb.out.size, below_then hb.out hb.out.size hB.out⟩, hB.out⟩
set_option maxHeartbeats 1000000 in
theorem count_any (w0 w : World) (M : Nat) (evs : List Evt) (h : MachAt w0 w M evs) : Calls Tryz.prog 11 #[.pointer (some ⟨M, 0, none⟩)] w fun e w' => e = .returned (.int .i64 evs.length) ∧ w = w' := by
  obtain ⟨⟨A, c, h1, _⟩, _, _⟩ := h
  have c0 := blk_cell h1 0
  simp only [List.getElem?_toArray, List.getElem?_cons_zero] at c0
  clear h1
  go_enter Tryz.func11, Tryz.ntmps11
  go_wp2
  go_ret
  exact ⟨rfl, rfl⟩
set_option maxHeartbeats 1000000 in
theorem clip_any (A : Option Addr) (n c : Nat) (w : World) (hc : n ≤ c) : Calls Tryz.prog 21 #[.slice A n c] w fun e w' => e = .returned (.slice A n n) ∧ w = w' := by
  go_enter Tryz.func21, Tryz.ntmps21
  go_wp2
  go_ret
  exact ⟨rfl, rfl⟩
end Go.Proofs.YtiibjgnmdieicaaGreat.Hist
/- spec: append behind Clip: a new row. -/
namespace Go.Proofs.YtiibjgnmdieicaaGreat.Hist
open Go.RowKit Go.Proofs.YtiibjgnmdieicaaGreatW.PrintWords Go.Sort
theorem infoE : (Tryz.prog.info? 38).map (fun i => (i.zero, i.size, i.bytes)) = some (some (.agg #[.int .i64 0, .int .i64 0, .int .i64 0, .int .u64 0, .slice none 0 0, .slice none 0 0, .int .i64 0, .int .i64 0, .int .u64 0, .slice none 0 0]), 10, 128) := by kernel_rfl
theorem append_clip {ops : Array Oper} {o : Oper} {a : Act} {K : Act → World → Prop} {Q : Exit → Act → World → Prop} {E' : Prop} (w0 W : World) (hgd : o.guard = none) (s x : Operand)
    (hop : o.op = .call { callee := .builtin .append, args := #[s, x], argTypes := #[22, 22] }) (A : Option Addr) (n c b : Nat) (evs : List Evt) (hO : OwnRow (EvR w0 W) tE 10 W b (.slice A n c) evs) (hn : evs.length = n) (hs : a.eval s = .slice A n n)
    (p : Evt) (cs : List Value) (hx : a.eval x = .slice (some ⟨W.heap.size, 0, none⟩) 1 1) (hR : EvR w0 W p cs) (hl : n ≤ 1048576)
    (hK : ∀ A1 c1 w1, OwnRow (EvR w0 w1) tE 10 w1 W.heap.size (.slice A1 (n + 1) c1) (evs ++ [p]) → Below W.heap.size W w1 → K (a.put o.dst (.slice A1 (n + 1) c1)) w1) :
    if Region.wanted o (yielded ops a.tmps) = true then Oper.wp Tryz.prog o a (W.alloc (.cells cs.toArray tE)) K Q else E' := by
  obtain ⟨inner, hown, hrep⟩ := hO
  obtain ⟨i0, hi, hz0, hz1, hz2⟩ := info_parts infoE
  have hB : Below W.heap.size W (W.alloc (.cells cs.toArray tE)) := below_alloc (Below.refl _ _) _
  have hsz : W.heap.size ≤ (W.alloc (.cells cs.toArray tE)).heap.size := hB.size
  have hil : inner.length = n * 10 := by rw [← hn]; exact hown.1
  refine step_append_grows (w := W.alloc (.cells cs.toArray tE)) hgd s x 22 hop 38 i0 _ 10 128 Tryz.underlying22 hi hz0 hz1 hz2 rfl (by decide) A n n inner hs ?_ hil ?_ ⟨W.heap.size, 0, none⟩ 1 1 cs hx (by rw [hR.len]) ?_ hR.one (Nat.lt_succ_self _) (by unfold maxLen; omega) (by omega) fun v' w' hown' hgrow => ?_
  · intro e
    rcases hown.2 with ⟨_, h0⟩ | ⟨g, cap, cur, e2, _⟩
    · exact ⟨by rw [← hn]; exact h0, by rw [← hn]; exact h0⟩
    · have e2 := (Value.slice.inj e2).1
      rw [e] at e2
      cases e2
  · intro ad e j u hj
    refine pw_cell_below hB ?_
    rcases hown.2 with ⟨e2, h0⟩ | ⟨g, cap, cur, e2, hb, hg, h1, h2, h3, h4⟩
    · have : inner = [] := List.eq_nil_of_length_eq_zero (by rw [hil, ← hn, h0])
      subst this
      simp at hj
    · have e2 := (Value.slice.inj e2).1
      rw [e] at e2
      have e2 := Option.some.inj e2
      subst e2
      rw [show (⟨g, 0, none⟩ : Addr).add j = ⟨g, j, none⟩ from by unfold Addr.add; split <;> simp_all]
      rw [blk_cell hg]
      rw [← h4, List.getElem?_take] at hj
      split at hj
      · rw [← Array.getElem?_toList]
        exact hj
      · cases hj
  · intro j u hj
    rw [show (⟨W.heap.size, 0, none⟩ : Addr).add j = ⟨W.heap.size, j, none⟩ from by unfold Addr.add; split <;> simp_all]
    rw [blk_cell (heap_alloc_new W (.cells cs.toArray tE))]
    simpa using hj
  · have hB2 : Below W.heap.size W w' := below_then hB hsz (Below.grown (Below.refl _ _) hgrow (Nat.le_refl _) (fun k e => by cases e))
    have hrow : OwnRow (EvR w0 w') tE 10 w' W.heap.size v' (evs ++ [p]) := by
      refine OwnRow.lower (base := (W.alloc (.cells cs.toArray tE)).heap.size) ⟨inner ++ cs, ?_, (hrep.snoc hR hR.len).imp_ fun _ _ h => h.below hB2⟩ hsz
      rw [List.length_append, hn]
      exact hown'
    obtain ⟨A1, c1, rfl⟩ := slice_of hrow (n := n + 1) (by rw [List.length_append, hn]; rfl)
    exact hK A1 c1 w' hrow hB2
end Go.Proofs.YtiibjgnmdieicaaGreat.Hist
/- spec: Step, walked. -/
namespace Go.Proofs.YtiibjgnmdieicaaGreat.Hist
open Go.RowKit Go.Proofs.YtiibjgnmdieicaaGreatW.PrintWords Go.Sort
/-- the answer to a refused write -/
def refusedEv (x : Evt) : Evt := ⟨3, x.f1, x.f2, 0, [], [], ⟨x.f2, 5, 0, []⟩⟩
/-- why an event can't happen; 0: it can -/
def stepW (evs : List Evt) (x : Evt) : Int :=
  if x.f0 = 1 ∧ x.f3 = 0 then (if properB (evs ++ [x] ++ [refusedEv x]) = true then 0 else 1) else if properB (evs ++ [x]) = true then judgedB (evs ++ [x]) else 1
/-- what Step leaves -/
def Stepped (w0 : World) (M : Nat) (evs : List Evt) (x : Evt) (sw : Int) (e : Ending) (w' : World) : Prop := e = .returned (.int .i64 sw) ∧ MachAt w0 w' M (if sw = 0 then evs ++ [x] else evs)
/-- the machine's events are others -/
theorem MachAt.put {w0 W : World} {M : Nat} {evs evs' : List Evt} (h : MachAt w0 W M evs) {A1 : Option Addr} {c1 m : Nat} (hO : OwnRow (EvR w0 W) tE 10 W w0.heap.size (.slice A1 m c1) evs') (hm : evs'.length = m) : MachAt w0 (W.setCell ⟨M, 0, none⟩ (.slice A1 m c1)) M evs' := by
  obtain ⟨⟨A, c, h1, h2⟩, h3, h4⟩ := h
  subst hm
  exact ⟨⟨A1, c1, by simpa using blk_set h1 0 (.slice A1 evs'.length c1), (hO.imp_ fun _ _ hp => hp.set_ h1 (by decide) (by decide) (by decide) h3 _ _).set_ h1 (by decide) _ _⟩, h3, below_set_ h4 h3 _⟩
theorem MachAt.cell {w0 W : World} {M : Nat} {evs : List Evt} (h : MachAt w0 W M evs) : (∃ u, W.cell? ⟨M, 0, none⟩ = some u) ∧ W.frozen? ⟨M, 0, none⟩ = false := by
  obtain ⟨⟨A, c, h1, h2⟩, h3, h4⟩ := h
  exact ⟨⟨_, blk_cell h1 0⟩, blk_frozen h1 0⟩
/-- what Step leaves, and that it writes nothing else -/
def SteppedK (w0 W : World) (M : Nat) (evs : List Evt) (x : Evt) (sw : Int) (e : Ending) (w' : World) : Prop := e = .returned (.int .i64 sw) ∧ ∃ W3, Below W.heap.size W W3 ∧ MachAt w0 W3 M evs ∧ ((sw ≠ 0 ∧ w' = W3) ∨ (sw = 0 ∧ (∃ u, w' = W3.setCell ⟨M, 0, none⟩ u) ∧ MachAt w0 w' M (evs ++ [x])))
theorem SteppedK.plain {w0 W : World} {M : Nat} {evs : List Evt} {x : Evt} {sw : Int} {e : Ending} {w' : World} (h : SteppedK w0 W M evs x sw e w') : Stepped w0 M evs x sw e w' := by
  obtain ⟨h1, W3, _, h3, h4 | h4⟩ := h
  · exact ⟨h1, by rw [if_neg h4.1, h4.2]; exact h3⟩
  · exact ⟨h1, by rw [if_pos h4.1]; exact h4.2.2⟩
theorem row_below {w0 W W1 : World} {b : Nat} {v : Value} {l : List Evt} (h : OwnRow (EvR w0 W) tE 10 W b v l) (hb : Below W.heap.size W W1) : OwnRow (EvR w0 W1) tE 10 W1 b v l := (h.below hb).imp_ fun _ _ h => h.below hb
set_option maxHeartbeats 16000000 in
set_option maxRecDepth 100000 in
theorem step_keep (w0 W : World) (M : Nat) (evs : List Evt) (hM : MachAt w0 W M evs) (x : Evt) (A4 : Option Addr) (c4 : Nat) (A5 : Option Addr) (c5 : Nat) (A9 : Option Addr) (c9 : Nat) (hK : EvRd w0 W x A4 c4 A5 c5 A9 c9) (hI : EvIn x) (hJ : JudgeIn (evs ++ [x])) (hlen : evs.length + 2 ≤ 1048576) :
    Calls Tryz.prog 9 #[.pointer (some ⟨M, 0, none⟩), .agg #[.int .i64 x.f0, .int .i64 x.f1, .int .i64 x.f2, .int .u64 x.f3, .slice A4 x.f4.length c4, .slice A5 x.f5.length c5, .int .i64 x.f6.f0, .int .i64 x.f6.f1, .int .u64 x.f6.f2, .slice A9 x.f6.f3.length c9]] W (SteppedK w0 W M evs x (stepW evs x)) := by
  obtain ⟨sw, hsw⟩ : ∃ sw, sw = stepW evs x := ⟨_, rfl⟩
  rw [← hsw]
  replace hsw := Lib.hid hsw
  obtain ⟨⟨A, c, hMb, hO⟩, hMl, hb0⟩ := hM
  obtain ⟨V, hV⟩ : ∃ V, V = W := ⟨_, rfl⟩
  have hVW : Below V.heap.size V W := by rw [hV]; exact Below.refl _ _
  have h0V : Hid (Below w0.heap.size w0 V) := Lib.hid (by rw [hV]; exact hb0)
  obtain ⟨n, hn⟩ : ∃ n, n = evs.length := ⟨_, rfl⟩
  have hcl : evs.length ≤ c := by
    obtain ⟨_, _, e, h⟩ := hO.slice_
    rw [(Value.slice.inj e).2.2]
    exact h
  rw [← hn] at hMb hO hcl hlen
  have hE := heap_alloc_new W (.cells #[.int .i64 x.f0, .int .i64 x.f1, .int .i64 x.f2, .int .u64 x.f3, .slice A4 x.f4.length c4, .slice A5 x.f5.length c5, .int .i64 x.f6.f0, .int .i64 x.f6.f1, .int .u64 x.f6.f2, .slice A9 x.f6.f3.length c9] 38)
  have hbE : Below W.heap.size W (W.alloc (.cells #[.int .i64 x.f0, .int .i64 x.f1, .int .i64 x.f2, .int .u64 x.f3, .slice A4 x.f4.length c4, .slice A5 x.f5.length c5, .int .i64 x.f6.f0, .int .i64 x.f6.f1, .int .u64 x.f6.f2, .slice A9 x.f6.f3.length c9] 38)) := below_alloc (Below.refl _ _) _
  have hM1 := blk_below hMb hbE
  have hO1 : OwnRow (EvR w0 (W.alloc (.cells #[.int .i64 x.f0, .int .i64 x.f1, .int .i64 x.f2, .int .u64 x.f3, .slice A4 x.f4.length c4, .slice A5 x.f5.length c5, .int .i64 x.f6.f0, .int .i64 x.f6.f1, .int .u64 x.f6.f2, .slice A9 x.f6.f3.length c9] 38))) tE 10 (W.alloc (.cells #[.int .i64 x.f0, .int .i64 x.f1, .int .i64 x.f2, .int .u64 x.f3, .slice A4 x.f4.length c4, .slice A5 x.f5.length c5, .int .i64 x.f6.f0, .int .i64 x.f6.f1, .int .u64 x.f6.f2, .slice A9 x.f6.f3.length c9] 38)) w0.heap.size (.slice A n c) evs := (hO.below hbE).imp_ fun _ _ h => h.below hbE
  have hB1 := below_then hVW hVW.size hbE
  replace hE := Lib.hid hE
  replace hM1 := Lib.hid hM1
  replace hO1 := Lib.hid hO1
  replace hB1 := Lib.hid hB1
  replace hJ := Lib.hid hJ
  replace hI := Lib.hid hI
  replace hK := Lib.hid (hK.below hbE)
  replace hn := Lib.hid hn
  rw [show SteppedK w0 W M evs x sw = SteppedK w0 V M evs x sw by rw [hV]]
  clear hMb hO hb0 hbE hV hVW
  go_enter Tryz.func9, Tryz.ntmps9
  go_wp2
  generalize W.alloc (.cells #[.int .i64 x.f0, .int .i64 x.f1, .int .i64 x.f2, .int .u64 x.f3, .slice A4 x.f4.length c4, .slice A5 x.f5.length c5, .int .i64 x.f6.f0, .int .i64 x.f6.f1, .int .u64 x.f6.f2, .slice A9 x.f6.f3.length c9] 38) = W1 at *
  generalize W.heap.size = E0 at *
  clear W
  have bd : Below W1.heap.size W1 W1.drew := below_drew (Below.refl _ _)
  have hED := Lib.hid (blk_below hE.out bd)
  have hMD := Lib.hid (blk_below hM1.out bd)
  have hOD : OwnRow (EvR w0 W1.drew) tE 10 W1.drew w0.heap.size (.slice A n c) evs := (hO1.out.below bd).imp_ fun _ _ h => h.below bd
  replace hOD := Lib.hid hOD
  have hBD := Lib.hid (below_then hB1.out hB1.out.size bd)
  have m0 := blk_cell hM1.out 0
  have e0 := blk_cell hE.out 0
  have e1 := blk_cell hE.out 1
  have e2 := blk_cell hE.out 2
  have e3 := blk_cell hE.out 3
  have e4 := blk_cell hE.out 4
  have e5 := blk_cell hE.out 5
  have e6 := blk_cell hE.out 6
  have e7 := blk_cell hE.out 7
  have e8 := blk_cell hE.out 8
  have e9 := blk_cell hE.out 9
  simp only [List.getElem?_toArray, List.getElem?_cons_zero, List.getElem?_cons_succ] at m0 e0 e1 e2 e3 e4 e5 e6 e7 e8 e9
  have hKD := Lib.hid (hK.out.below bd)
  clear hE hM1 hO1 hB1 bd hK
  have hclip := clip_any A n c W1.drew hcl
  have hcop := copied_any x A4 c4 A5 c5 A9 c9 w0 W1.drew (Nat.le_trans h0V.out.size hBD.out.size) hKD.out hI.out
  replace hclip := Lib.hid hclip
  replace hcop := Lib.hid hcop
  have hn16 : n ≤ 1048576 := by omega
  refine Code.wp_mono (Q := QN fun a w3 => ∃ A1 c1 k B4 d4 B5 d5 B9 d9, MachAt w0 w3 M evs ∧ Below V.heap.size V w3 ∧ OwnRow (EvR w0 w3) tE 10 w3 w0.heap.size (.slice A1 (n + 1) c1) (evs ++ [x]) ∧ w3.heap[E0]? = some (.cells #[.int .i64 x.f0, .int .i64 x.f1, .int .i64 x.f2, .int .u64 x.f3, .slice A4 x.f4.length c4, .slice A5 x.f5.length c5, .int .i64 x.f6.f0, .int .i64 x.f6.f1, .int .u64 x.f6.f2, .slice A9 x.f6.f3.length c9] 38 (0, 0)) ∧ a = ⟨#[.pointer (some ⟨M, 0, none⟩), .agg #[.int .i64 x.f0, .int .i64 x.f1, .int .i64 x.f2, .int .u64 x.f3, .slice A4 x.f4.length c4, .slice A5 x.f5.length c5, .int .i64 x.f6.f0, .int .i64 x.f6.f1, .int .u64 x.f6.f2, .slice A9 x.f6.f3.length c9], undef, .pointer (some ⟨E0, 0, none⟩), .int .i64 0, .slice A1 (n + 1) c1, undef, undef, .pointer (some ⟨M, 0, none⟩), .pointer (some ⟨M, 0, none⟩), .pointer (some ⟨M, 0, none⟩), .slice A n c, .slice A n n, .agg #[.int .i64 x.f0, .int .i64 x.f1, .int .i64 x.f2, .int .u64 x.f3, .slice A4 x.f4.length c4, .slice A5 x.f5.length c5, .int .i64 x.f6.f0, .int .i64 x.f6.f1, .int .u64 x.f6.f2, .slice A9 x.f6.f3.length c9], .agg #[.int .i64 x.f0, .int .i64 x.f1, .int .i64 x.f2, .int .u64 x.f3, .slice B4 x.f4.length d4, .slice B5 x.f5.length d5, .int .i64 x.f6.f0, .int .i64 x.f6.f1, .int .u64 x.f6.f2, .slice B9 x.f6.f3.length d9], .slice (some ⟨k, 0, none⟩) 1 1, .slice A1 (n + 1) c1, undef, undef, undef, undef, undef, undef, undef, undef, undef, undef, undef, undef, undef, undef, undef, undef, undef, undef, undef, undef, undef, undef, undef, undef, undef, undef, undef, undef, undef, undef, undef, undef, undef, undef, undef], []⟩) ?hq ?h
  case h =>
    go_region_law (first
      | (refine append_clip w0 w2 rfl (.tmp 12) (.tmp 15) rfl A n c w0.heap.size evs (by exact hO2.out) (by exact hn.out.symm) (by simp [Act.eval]) x (evCells x B4 d4 B5 d5 B9 d9) (by simp [Act.eval]) (by exact ⟨B4, d4, B5, d5, B9, d9, rfl, hown.out⟩) (by exact hn16) ?_; intro A1 c1 w3 own3 bel3; have hE3 := Lib.hid (blk_below hE2.out bel3); have hM3 := Lib.hid (blk_below hM2.out bel3); have hB3 := Lib.hid (below_then hB2.out hB2.out.size bel3); replace own3 := Lib.hid own3; replace bel3 := Lib.hid bel3)
      | (go_simp; go_at_call 21; refine hclip.out.mono ?_; rintro e w1 ⟨rfl, rfl⟩)
      | (go_simp; go_at_call 22; refine hcop.out.mono ?_; rintro e w2 ⟨B4, d4, B5, d5, B9, d9, rfl, hown, hb2⟩; have hO2 := (hOD.out.below hb2).imp_ fun _ _ h => h.below hb2; have hE2 := Lib.hid (blk_below hED.out hb2); have hM2 := Lib.hid (blk_below hMD.out hb2); have hB2 := Lib.hid (below_then hBD.out hBD.out.size hb2); replace hO2 := Lib.hid hO2; replace hown := Lib.hid hown; replace hb2 := Lib.hid hb2))
    all_goals exact ⟨A1, c1, _, B4, d4, B5, d5, B9, d9, ⟨⟨A, c, by rw [← hn.out]; exact hM3.out, by rw [← hn.out]; exact (hO2.out.below bel3.out).imp_ fun _ _ h => h.below bel3.out⟩, hMl, below_then h0V.out h0V.out.size hB3.out⟩, hB3.out, own3.out.lower (Nat.le_trans h0V.out.size hB2.out.size), hE3.out, rfl⟩
  case hq =>
    intro e a w3 h
    cases e with
    | normal =>
      obtain ⟨A1, c1, k, B4, d4, B5, d5, B9, d9, hMa, hV3, hO3, hE3, rfl⟩ := h
      replace hV3 := Lib.hid hV3
      have e0 := blk_cell hE3 0
      have e1 := blk_cell hE3 1
      have e2 := blk_cell hE3 2
      have e3 := blk_cell hE3 3
      simp only [List.getElem?_toArray, List.getElem?_cons_zero, List.getElem?_cons_succ] at e0 e1 e2 e3
      have lE := blk_lt hE3
      have hlx : (evs ++ [x]).length = n + 1 := by rw [List.length_append, hn.out]; rfl
      have hC3 := evs_C hO3
      clear hED hMD hOD hBD hclip hcop
      replace hMa := Lib.hid hMa
      replace hO3 := Lib.hid hO3
      replace hE3 := Lib.hid hE3
      replace hlx := Lib.hid hlx
      by_cases hr : x.f0 = 1 ∧ x.f3 = 0
      · have b0 : (x.f0 == 1) = true := beq_iff_eq.2 hr.1
        have b3 : (x.f3 == 0) = true := beq_iff_eq.2 hr.2
        have hst : sw = if properB (evs ++ [x] ++ [refusedEv x]) = true then 0 else 1 := by rw [hsw.out]; unfold stepW; rw [if_pos hr]
        have hc1 : n + 1 ≤ c1 := by
          obtain ⟨_, _, e, h⟩ := hO3.out.slice_
          rw [(Value.slice.inj e).2.2, ← hlx.out]
          exact h
        have hb4 : Below w3.heap.size w3 (w3.alloc (.cells #[.int .i64 3, .int .i64 x.f1, .int .i64 x.f2, .int .u64 0, .slice none 0 0, .slice none 0 0, .int .i64 x.f2, .int .i64 5, .int .u64 0, .slice none 0 0] 38)) := below_alloc (Below.refl _ _) _
        have hR4 := heap_alloc_new w3 (.cells #[.int .i64 3, .int .i64 x.f1, .int .i64 x.f2, .int .u64 0, .slice none 0 0, .slice none 0 0, .int .i64 x.f2, .int .i64 5, .int .u64 0, .slice none 0 0] 38)
        have hb4d : Below w3.heap.size w3 (w3.alloc (.cells #[.int .i64 3, .int .i64 x.f1, .int .i64 x.f2, .int .u64 0, .slice none 0 0, .slice none 0 0, .int .i64 x.f2, .int .i64 5, .int .u64 0, .slice none 0 0] 38)).drew := below_drew hb4
        have hO4 := row_below hO3.out hb4d
        have hlr : (evs ++ [x] ++ [refusedEv x]).length = n + 1 + 1 := by rw [List.length_append, hlx.out]; rfl
        have hrf : EvR w0 (w3.alloc (.cells #[.int .i64 3, .int .i64 x.f1, .int .i64 x.f2, .int .u64 0, .slice none 0 0, .slice none 0 0, .int .i64 x.f2, .int .i64 5, .int .u64 0, .slice none 0 0] 38)).drew (refusedEv x) (evCells (refusedEv x) none 0 none 0 none 0) := ⟨none, 0, none, 0, none, 0, rfl, ⟨OwnRow.none_ _ _ _ _ _, OwnRow.none_ _ _ _ _ _, OwnRow.none_ _ _ _ _ _⟩⟩
        have hl2 : (evs ++ [x] ++ [refusedEv x]).length ≤ 1048576 := by rw [hlr]; omega
        have hclip := fun W => clip_any A1 (n + 1) c1 W hc1
        have hn17 : n + 1 ≤ 1048576 := by omega
        clear hsw hC3
        replace hr := Lib.hid hr
        replace hb4 := Lib.hid hb4
        replace hb4d := Lib.hid hb4d
        replace hR4 := Lib.hid hR4
        replace hO4 := Lib.hid hO4
        replace hlr := Lib.hid hlr
        replace hrf := Lib.hid hrf
        replace hl2 := Lib.hid hl2
        replace hclip := Lib.hid hclip
        generalize hpp : properB (evs ++ [x] ++ [refusedEv x]) = pp at *
        replace hpp := Lib.hid hpp
        cases pp
        all_goals
          go_wp2
          have y0 := blk_cell hR4.out 0
          have y1 := blk_cell hR4.out 1
          have y2 := blk_cell hR4.out 2
          have y3 := blk_cell hR4.out 3
          have y4 := blk_cell hR4.out 4
          have y5 := blk_cell hR4.out 5
          have y6 := blk_cell hR4.out 6
          have y7 := blk_cell hR4.out 7
          have y8 := blk_cell hR4.out 8
          have y9 := blk_cell hR4.out 9
          simp only [List.getElem?_toArray, List.getElem?_cons_zero, List.getElem?_cons_succ] at y0 y1 y2 y3 y4 y5 y6 y7 y8 y9
          generalize w3.alloc (.cells #[.int .i64 3, .int .i64 x.f1, .int .i64 x.f2, .int .u64 0, .slice none 0 0, .slice none 0 0, .int .i64 x.f2, .int .i64 5, .int .u64 0, .slice none 0 0] 38) = W4 at *
          go_region_law (first
            | (refine append_clip w0 W4.drew rfl (.tmp 34) (.tmp 36) rfl A1 (n + 1) c1 w0.heap.size (evs ++ [x]) (by exact hO4.out) (by exact hlx.out) (by simp [Act.eval]) (refusedEv x) (evCells (refusedEv x) none 0 none 0 none 0) (by simp [Act.eval]) (by exact hrf.out) (by exact hn17) ?_; intro A2 c2 w5 own5 bel5; have hpr := proper_any A2 c2 _ w5 (evs_C own5) hl2.out; rw [hlr.out, hpp.out] at hpr; replace hpr := Lib.hid hpr; have hb5 := Lib.hid (below_then hb4d.out hb4d.out.size bel5); clear own5 bel5)
            | (go_simp; go_at_call 21; refine (hclip.out _).mono ?_; rintro e w1 ⟨rfl, rfl⟩)
            | (go_simp; go_at_call 23; refine hpr.out.mono ?_; rintro e w6 ⟨rfl, hb6⟩; have hb36 := Lib.hid (below_then hb5.out hb5.out.size hb6); have hvf := Lib.hid (below_then hV3.out hV3.out.size hb36.out); have hfin := hMa.out.below hb36.out; obtain ⟨⟨u6, k6⟩, z6⟩ := hfin.cell; have hO6 := Lib.hid (row_below hO3.out hb36.out); replace hfin := Lib.hid hfin; clear hb6))
          all_goals first
            | (replace hst : sw = 0 := by rw [hst]; first | exact if_pos rfl | exact if_pos trivial
               subst hst
               go_wp2
               go_ret
               exact ⟨rfl, _, hvf.out, hfin.out, .inr ⟨rfl, ⟨_, rfl⟩, hfin.out.put hO6.out hlx.out⟩⟩)
            | (replace hst : sw = 1 := by rw [hst]; exact if_neg (by decide)
               subst hst
               go_wp2
               go_ret
               exact ⟨rfl, _, hvf.out, hfin.out, .inl ⟨by decide, rfl⟩⟩)
      · have hpr := proper_any A1 c1 (evs ++ [x]) w3 hC3 hJ.out.few
        rw [hlx.out] at hpr
        have hjd := fun W (hb : Below w3.heap.size w3 W) => judged_any A1 c1 (evs ++ [x]) W (Kd.C_below hC3 hb) hJ.out
        rw [hlx.out] at hjd
        have hst : sw = if properB (evs ++ [x]) = true then judgedB (evs ++ [x]) else 1 := by rw [hsw.out]; unfold stepW; rw [if_neg hr]
        clear hsw
        replace hpr := Lib.hid hpr
        replace hjd := Lib.hid hjd
        replace hC3 := Lib.hid hC3
        by_cases h0 : x.f0 = 1
        · have b0 : (x.f0 == 1) = true := beq_iff_eq.2 h0
          have b3 : (x.f3 == 0) = false := beq_eq_false_iff_ne.2 fun e => hr ⟨h0, e⟩
          replace h0 := Lib.hid h0
          replace hr := Lib.hid hr
          cases hp : properB (evs ++ [x])
          · rw [hp, if_neg (by decide)] at hst
            rw [hp] at hpr
            subst hst
            go_wp2_with fail
            refine hpr.out.mono ?_
            rintro e w4 ⟨rfl, hb4⟩
            have hvf := Lib.hid (below_then hV3.out hV3.out.size hb4)
            have hfin := hMa.out.below hb4
            replace hfin := Lib.hid hfin
            clear hb4
            go_wp2
            go_ret
            exact ⟨rfl, _, hvf.out, hfin.out, .inl ⟨by decide, rfl⟩⟩
          · rw [hp, if_pos rfl] at hst
            rw [hp] at hpr
            go_wp2_with fail
            refine hpr.out.mono ?_
            rintro e w4 ⟨rfl, hb4⟩
            have hjd4 := hjd.out w4 hb4
            rw [← hst] at hjd4
            replace hjd4 := Lib.hid hjd4
            replace hb4 := Lib.hid hb4
            replace hst := Lib.hid hst
            go_wp2_with fail
            refine hjd4.out.mono ?_
            rintro e w5 ⟨rfl, hb5⟩
            have hb35 := below_then hb4.out hb4.out.size hb5
            have hvf := Lib.hid (below_then hV3.out hV3.out.size hb35)
            have hfin := hMa.out.below hb35
            obtain ⟨⟨u5, k5⟩, z5⟩ := hfin.cell
            have hO5 := row_below hO3.out hb35
            replace hfin := Lib.hid hfin
            replace hO5 := Lib.hid hO5
            clear hb5 hb35
            by_cases hz : sw = 0
            · subst hz
              go_wp2
              go_ret
              exact ⟨rfl, _, hvf.out, hfin.out, .inr ⟨rfl, ⟨_, rfl⟩, hfin.out.put hO5.out hlx.out⟩⟩
            · have b : (sw == 0) = false := beq_eq_false_iff_ne.2 hz
              replace hz := Lib.hid hz
              go_wp2
              go_ret
              exact ⟨rfl, _, hvf.out, hfin.out, .inl ⟨hz.out, rfl⟩⟩
        · have b0 : (x.f0 == 1) = false := beq_eq_false_iff_ne.2 h0
          replace h0 := Lib.hid h0
          replace hr := Lib.hid hr
          cases hp : properB (evs ++ [x])
          · rw [hp, if_neg (by decide)] at hst
            rw [hp] at hpr
            subst hst
            go_wp2_with fail
            refine hpr.out.mono ?_
            rintro e w4 ⟨rfl, hb4⟩
            have hvf := Lib.hid (below_then hV3.out hV3.out.size hb4)
            have hfin := hMa.out.below hb4
            replace hfin := Lib.hid hfin
            clear hb4
            go_wp2
            go_ret
            exact ⟨rfl, _, hvf.out, hfin.out, .inl ⟨by decide, rfl⟩⟩
          · rw [hp, if_pos rfl] at hst
            rw [hp] at hpr
            go_wp2_with fail
            refine hpr.out.mono ?_
            rintro e w4 ⟨rfl, hb4⟩
            have hjd4 := hjd.out w4 hb4
            rw [← hst] at hjd4
            replace hjd4 := Lib.hid hjd4
            replace hb4 := Lib.hid hb4
            replace hst := Lib.hid hst
            go_wp2_with fail
            refine hjd4.out.mono ?_
            rintro e w5 ⟨rfl, hb5⟩
            have hb35 := below_then hb4.out hb4.out.size hb5
            have hvf := Lib.hid (below_then hV3.out hV3.out.size hb35)
            have hfin := hMa.out.below hb35
            obtain ⟨⟨u5, k5⟩, z5⟩ := hfin.cell
            have hO5 := row_below hO3.out hb35
            replace hfin := Lib.hid hfin
            replace hO5 := Lib.hid hO5
            clear hb5 hb35
            by_cases hz : sw = 0
            · subst hz
              go_wp2
              go_ret
              exact ⟨rfl, _, hvf.out, hfin.out, .inr ⟨rfl, ⟨_, rfl⟩, hfin.out.put hO5.out hlx.out⟩⟩
            · have b : (sw == 0) = false := beq_eq_false_iff_ne.2 hz
              replace hz := Lib.hid hz
              go_wp2
              go_ret
              exact ⟨rfl, _, hvf.out, hfin.out, .inl ⟨hz.out, rfl⟩⟩
    | _ => exact h.elim
theorem step_any (w0 W : World) (M : Nat) (evs : List Evt) (hM : MachAt w0 W M evs) (x : Evt) (A4 : Option Addr) (c4 : Nat) (A5 : Option Addr) (c5 : Nat) (A9 : Option Addr) (c9 : Nat) (hK : EvRd w0 W x A4 c4 A5 c5 A9 c9) (hI : EvIn x) (hJ : JudgeIn (evs ++ [x])) (hlen : evs.length + 2 ≤ 1048576) :
    Calls Tryz.prog 9 #[.pointer (some ⟨M, 0, none⟩), .agg #[.int .i64 x.f0, .int .i64 x.f1, .int .i64 x.f2, .int .u64 x.f3, .slice A4 x.f4.length c4, .slice A5 x.f5.length c5, .int .i64 x.f6.f0, .int .i64 x.f6.f1, .int .u64 x.f6.f2, .slice A9 x.f6.f3.length c9]] W (Stepped w0 M evs x (stepW evs x)) :=
  (step_keep w0 W M evs hM x A4 c4 A5 c5 A9 c9 hK hI hJ hlen).mono fun _ _ h => h.plain
end Go.Proofs.YtiibjgnmdieicaaGreat.Hist
