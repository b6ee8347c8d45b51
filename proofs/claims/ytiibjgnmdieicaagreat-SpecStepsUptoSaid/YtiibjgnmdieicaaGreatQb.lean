/- history: asks, walked. -/
import Derived.Test.YtiibjgnmdieicaaGreatQa
import Derived.Deep.RegionWith
namespace Go.Proofs.YtiibjgnmdieicaaGreat.Hist
open Go.RowKit Go.Proofs.YtiibjgnmdieicaaGreatW.PrintWords
/-- whose an ID is, as the program reckons it -/
def cliOf (id : Int) : Int := IntKind.i64.wrap (id.tmod 65536)
def nextB (x : Evt) : Option Evt → Bool
  | none => false
  | some n => n.f0 == 3 && n.f1 == x.f1 && n.f2 == x.f2
def idB (c : Cl) (x : Evt) : Bool := decide (65536 ≤ x.f3) && (cliOf x.f3 == x.f1) && decide (c.last < x.f3)
def asksB (c : Cl) (x : Evt) (nx : Option Evt) : Bool :=
  if x.f2 ≠ (c.rqs.length : Int) + 1 then false else if x.f0 = 2 then true else if x.f3 = 0 then nextB x nx else idB c x
def asksC (c : Cl) (x : Evt) (place : Int) : Cl := ⟨c.rqs ++ [⟨x, place, false⟩], if x.f0 = 2 ∨ x.f3 = 0 then c.last else x.f3⟩
/-- where the event behind stands -/
def NextAt (W : World) : Option Addr → Option Evt → Prop
  | none, none => True
  | some p, some n => W.cell? p = some (.int .i64 n.f0) ∧ W.cell? ⟨p.block, p.off + 1, none⟩ = some (.int .i64 n.f1) ∧ W.cell? ⟨p.block, p.off + 2, none⟩ = some (.int .i64 n.f2)
  | _, _ => False
theorem NextAt.below {W W1 : World} {np : Option Addr} {nx : Option Evt} (h : NextAt W np nx) (hb : Below W.heap.size W W1) : NextAt W1 np nx := by
  cases np <;> cases nx
  · trivial
  · exact h
  · exact h
  · exact ⟨pw_cell_below hb h.1, pw_cell_below hb h.2.1, pw_cell_below hb h.2.2⟩
def Asked (w0 : World) (B0 : Nat) (cl : Nat → Cl) (r : Bool) (e : Ending) (w' : World) : Prop := e = .returned (.bool r) ∧ Below w0.heap.size w0 w' ∧ (r = true → St w0 w' B0 cl)
theorem own_row_slice {R : Rq → List Value → Prop} {e size : Nat} {W : World} {base : Nat} {v : Value} {l : List Rq} (h : OwnRow R e size W base v l) : ∃ A c, v = .slice A l.length c := by
  obtain ⟨A, c, e, _⟩ := h.slice_
  exact ⟨A, c, e⟩
theorem own_row_slice1 {R : Rq → List Value → Prop} {e size : Nat} {W : World} {base : Nat} {v : Value} {l : List Rq} {q : Rq} (h : OwnRow R e size W base v (l ++ [q])) : ∃ A c, v = .slice A (l.length + 1) c := by
  obtain ⟨A, c, e⟩ := own_row_slice h
  exact ⟨A, c, by rw [e, List.length_append]; rfl⟩
theorem infoRq : (Tryz.prog.info? 114).map (fun i => (i.zero, i.size, i.bytes)) = some (some (.agg #[.int .i64 0, .int .i64 0, .int .i64 0, .int .u64 0, .slice none 0 0, .slice none 0 0, .int .i64 0, .int .i64 0, .int .u64 0, .slice none 0 0, .int .i64 0, .bool false]), 12, 144) := by kernel_rfl
/-- what stays behind the append to a client's row -/
theorem keep_cells {w0 W W1 : World} {B0 E0 : Nat} {vs : Nat → Value} {cl : Nat → Cl} {C : Array Value} (h : StV w0 W B0 vs cl) {j : Nat} (hj : j < 16) (hE : W.heap[E0]? = some (.cells C 38 (0, 0))) (hg : W.grownBy W1 (vs j).ownBlock) :
    W1.cell? ⟨B0, j * 2, none⟩ = some (vs j) ∧ W1.frozen? ⟨B0, j * 2, none⟩ = false ∧ ∀ u, (W1.setCell ⟨B0, j * 2, none⟩ u).heap[E0]? = some (.cells C 38 (0, 0)) := by
  obtain ⟨cells, hB⟩ := h.blk
  have hneB : some B0 ≠ (vs j).ownBlock := (h.row j hj).ne_block hB (by decide)
  have hneE : some E0 ≠ (vs j).ownBlock := (h.row j hj).ne_block hE (by decide)
  have hB1 : W1.heap[B0]? = some (.cells cells 82 (0, 0)) := (hg.block B0 (blk_lt hB) hneB).trans hB
  have hE1 : W1.heap[E0]? = some (.cells C 38 (0, 0)) := (hg.block E0 (blk_lt hE) hneE).trans hE
  exact ⟨(World.cell?_of_block (hg.block B0 (blk_lt hB) hneB)).trans (h.val j hj), blk_frozen hB1 _, fun u => blk_far hE1 (blk_ne hE1 hB1 (by decide)) u⟩
theorem upd_upd {α : Type} (f : Nat → α) (j : Nat) (a b : α) : upd (upd f j a) j b = upd f j b := by
  funext i
  unfold upd
  split <;> rfl
theorem asksB_read {c : Cl} {x : Evt} {nx : Option Evt} (h2 : x.f2 = (c.rqs.length : Int) + 1) (h0 : x.f0 = 2) : asksB c x nx = true := by simp [asksB, h2, h0]
theorem asksB_zero {c : Cl} {x : Evt} {nx : Option Evt} (h2 : x.f2 = (c.rqs.length : Int) + 1) (h0 : x.f0 ≠ 2) (h3 : x.f3 = 0) : asksB c x nx = nextB x nx := by simp [asksB, h2, h0, h3]
theorem asksB_id {c : Cl} {x : Evt} {nx : Option Evt} (h2 : x.f2 = (c.rqs.length : Int) + 1) (h0 : x.f0 ≠ 2) (h3 : x.f3 ≠ 0) : asksB c x nx = idB c x := by simp [asksB, h2, h0, h3]
theorem asksC_keep {c : Cl} {x : Evt} {place : Int} (h : x.f0 = 2 ∨ x.f3 = 0) : asksC c x place = ⟨c.rqs ++ [⟨x, place, false⟩], c.last⟩ := by simp [asksC, h]
theorem asksC_id {c : Cl} {x : Evt} {place : Int} (h0 : x.f0 ≠ 2) (h3 : x.f3 ≠ 0) : asksC c x place = ⟨c.rqs ++ [⟨x, place, false⟩], x.f3⟩ := by simp [asksC, h0, h3]
set_option maxHeartbeats 8000000 in
set_option maxRecDepth 100000 in
theorem asks_no (w0 W : World) (B0 : Nat) (cl : Nat → Cl) (j : Nat) (hj : j < 16) (x : Evt) (A4 : Option Addr) (c4 : Nat) (A5 : Option Addr) (c5 : Nat) (A9 : Option Addr) (c9 : Nat) (place : Int) (np : Option Addr) (hS : St w0 W B0 cl) (hn : (cl j).rqs.length ≤ 1048576)
    (h2 : x.f2 ≠ ((cl j).rqs.length : Int) + 1) :
    Calls Tryz.prog 40 #[.pointer (some ⟨B0, j * 2, none⟩), .agg #[.int .i64 x.f0, .int .i64 x.f1, .int .i64 x.f2, .int .u64 x.f3, .slice A4 x.f4.length c4, .slice A5 x.f5.length c5, .int .i64 x.f6.f0, .int .i64 x.f6.f1, .int .u64 x.f6.f2, .slice A9 x.f6.f3.length c9], .int .i64 place, .pointer np] W fun e w' => e = .returned (.bool false) ∧ Below w0.heap.size w0 w' := by
  obtain ⟨vs, h⟩ := hS
  have hv := h.val j hj
  obtain ⟨A, c, e⟩ := own_row_slice (h.row j hj)
  rw [e] at hv
  have hB := Lib.hid h.bel
  have hlt : B0 < W.heap.size := World.block_lt_of_cell? W _ hv
  generalize (cl j).rqs.length = n at *
  have d1 : (x.f2 != (n : Int) + 1) = true := by simpa using h2
  clear h e
  replace h2 := Lib.hid h2
  have hw : IntKind.i64.wrap ((n : Int) + 1) = (n : Int) + 1 := IntWalk.i64_in _ (by omega)
  go_enter Tryz.func40, Tryz.ntmps40
  go_wp2
  go_quiet (fail)
  go_wp2
  go_ret
  exact ⟨rfl, below_then hB.out hB.out.size (pw_below_drewN (below_alloc (Below.refl _ _) _) _)⟩
set_option maxHeartbeats 16000000 in
set_option maxRecDepth 100000 in
theorem asks_yes (w0 W : World) (B0 : Nat) (cl : Nat → Cl) (j : Nat) (hj : j < 16) (x : Evt) (A4 : Option Addr) (c4 : Nat) (A5 : Option Addr) (c5 : Nat) (A9 : Option Addr) (c9 : Nat) (place : Int) (np : Option Addr) (nx : Option Evt) (hS : St w0 W B0 cl)
    (hK : kEvt.K w0 x [.int .i64 x.f0, .int .i64 x.f1, .int .i64 x.f2, .int .u64 x.f3, .slice A4 x.f4.length c4, .slice A5 x.f5.length c5, .int .i64 x.f6.f0, .int .i64 x.f6.f1, .int .u64 x.f6.f2, .slice A9 x.f6.f3.length c9])
    (hn : (cl j).rqs.length ≤ 1048576) (h2 : x.f2 = ((cl j).rqs.length : Int) + 1) (hN : NextAt w0 np nx) :
    Calls Tryz.prog 40 #[.pointer (some ⟨B0, j * 2, none⟩), .agg #[.int .i64 x.f0, .int .i64 x.f1, .int .i64 x.f2, .int .u64 x.f3, .slice A4 x.f4.length c4, .slice A5 x.f5.length c5, .int .i64 x.f6.f0, .int .i64 x.f6.f1, .int .u64 x.f6.f2, .slice A9 x.f6.f3.length c9], .int .i64 place, .pointer np] W (Asked w0 B0 (upd cl j (asksC (cl j) x place)) (asksB (cl j) x nx)) := by
  obtain ⟨vs, h⟩ := hS
  have hv := h.val j hj
  obtain ⟨A, c, e⟩ := own_row_slice (h.row j hj)
  have hrow := h.row j hj
  rw [e] at hv hrow
  have h0s : w0.heap.size ≤ W.heap.size := h.bel.size
  have hlt : B0 < W.heap.size := World.block_lt_of_cell? W _ hv
  have hl := h.num j hj
  have hfz := h.frozen (j * 2)
  obtain ⟨n, hnn⟩ : ∃ n, n = (cl j).rqs.length := ⟨_, rfl⟩
  rw [← hnn] at hv hn h2 hrow e
  have d1 : (x.f2 != (n : Int) + 1) = false := by simp [h2]
  have hw : IntKind.i64.wrap ((n : Int) + 1) = (n : Int) + 1 := IntWalk.i64_in _ (by omega)
  replace h2 := Lib.hid h2
  replace hnn := Lib.hid hnn
  replace e := Lib.hid e
  replace hK := Lib.hid hK
  replace h := Lib.hid h
  replace hrow := Lib.hid hrow
  replace hN := Lib.hid hN
  go_enter Tryz.func40, Tryz.ntmps40
  go_wp2
  go_quiet (fail)
  go_wp2
  have hbk : ((W.alloc (.cells #[.int .i64 x.f0, .int .i64 x.f1, .int .i64 x.f2, .int .u64 x.f3, .slice A4 x.f4.length c4, .slice A5 x.f5.length c5, .int .i64 x.f6.f0, .int .i64 x.f6.f1, .int .u64 x.f6.f2, .slice A9 x.f6.f3.length c9] 38)).drewN nq).heap[W.heap.size]? = some (.cells #[.int .i64 x.f0, .int .i64 x.f1, .int .i64 x.f2, .int .u64 x.f3, .slice A4 x.f4.length c4, .slice A5 x.f5.length c5, .int .i64 x.f6.f0, .int .i64 x.f6.f1, .int .u64 x.f6.f2, .slice A9 x.f6.f3.length c9] 38 (0, 0)) := blk_drewN (heap_alloc_new W _) _
  have b1 : Below W.heap.size W ((W.alloc (.cells #[.int .i64 x.f0, .int .i64 x.f1, .int .i64 x.f2, .int .u64 x.f3, .slice A4 x.f4.length c4, .slice A5 x.f5.length c5, .int .i64 x.f6.f0, .int .i64 x.f6.f1, .int .u64 x.f6.f2, .slice A9 x.f6.f3.length c9] 38)).drewN nq) := pw_below_drewN (below_alloc (Below.refl _ _) _) _
  replace h := Lib.hid (h.out.below b1)
  have hEw : w0.heap.size ≤ W.heap.size := h0s
  clear b1 hv hl hfz hlt hrow
  generalize (W.alloc (.cells #[.int .i64 x.f0, .int .i64 x.f1, .int .i64 x.f2, .int .u64 x.f3, .slice A4 x.f4.length c4, .slice A5 x.f5.length c5, .int .i64 x.f6.f0, .int .i64 x.f6.f1, .int .u64 x.f6.f2, .slice A9 x.f6.f3.length c9] 38)).drewN nq = W1 at *
  generalize W.heap.size = E0 at *
  have e0 := blk_cell hbk 0
  have e1 := blk_cell hbk 1
  have e2 := blk_cell hbk 2
  have e3 := blk_cell hbk 3
  have e4 := blk_cell hbk 4
  have e5 := blk_cell hbk 5
  have e6 := blk_cell hbk 6
  have e7 := blk_cell hbk 7
  have e8 := blk_cell hbk 8
  have e9 := blk_cell hbk 9
  simp only [List.getElem?_toArray, List.getElem?_cons_zero, List.getElem?_cons_succ] at e0 e1 e2 e3 e4 e5 e6 e7 e8 e9
  have hEl : E0 < W1.heap.size := blk_lt hbk
  have hv := h.out.val j hj
  have hrow := h.out.row j hj
  rw [e.out] at hv hrow
  have hlt : B0 < W1.heap.size := World.block_lt_of_cell? W1 _ hv
  have hl := h.out.num j hj
  have hfz := h.out.frozen (j * 2)
  replace hrow := Lib.hid hrow
  replace hbk := Lib.hid hbk
  have bd : Below W1.heap.size W1 W1.drew := below_drew (Below.refl _ _)
  have hD := Lib.hid (h.out.below bd)
  have rD := Lib.hid (hrow.out.below bd)
  have kD : Hid (W1.drew.heap[E0]? = _) := hbk.out
  have sB : Hid (Below w0.heap.size w0 W1.drew) := hD.out.bel
  have s5 : ((cl j).rqs.length + 1) * 144 ≤ 140737488355328 := by have := hnn.out; omega
  have sP : Hid (RqR w0 ⟨x, place, false⟩ [.int .i64 x.f0, .int .i64 x.f1, .int .i64 x.f2, .int .u64 x.f3, .slice A4 x.f4.length c4, .slice A5 x.f5.length c5, .int .i64 x.f6.f0, .int .i64 x.f6.f1, .int .u64 x.f6.f2, .slice A9 x.f6.f3.length c9, .int .i64 place, .bool false]) := ⟨_, hK.out, rfl⟩
  have s1 : Hid (∀ u ∈ ([.int .i64 x.f0, .int .i64 x.f1, .int .i64 x.f2, .int .u64 x.f3, .slice A4 x.f4.length c4, .slice A5 x.f5.length c5, .int .i64 x.f6.f0, .int .i64 x.f6.f1, .int .u64 x.f6.f2, .slice A9 x.f6.f3.length c9, .int .i64 place, .bool false] : List Value), u.oneCell' = true) := by
    intro u hu
    simp only [List.mem_cons, List.not_mem_nil, or_false] at hu
    rcases hu with rfl | rfl | rfl | rfl | rfl | rfl | rfl | rfl | rfl | rfl | rfl | rfl <;> rfl
  go_region_law (refine OwnRow.append_step (P := Tryz.prog) (R := RqR w0) (w0 := w0) (W := W1.drew) w0.heap.size rfl (.tmp 23) (.tmp 27) 79 114 (.agg #[.int .i64 0, .int .i64 0, .int .i64 0, .int .u64 0, .slice none 0 0, .slice none 0 0, .int .i64 0, .int .i64 0, .int .u64 0, .slice none 0 0, .int .i64 0, .bool false]) 12 144 rfl Tryz.underlying79 infoRq rfl (by decide) (by decide) (.slice A n c) (cl j).rqs ⟨x, place, false⟩ [.int .i64 x.f0, .int .i64 x.f1, .int .i64 x.f2, .int .u64 x.f3, .slice A4 x.f4.length c4, .slice A5 x.f5.length c5, .int .i64 x.f6.f0, .int .i64 x.f6.f1, .int .u64 x.f6.f2, .slice A9 x.f6.f3.length c9, .int .i64 place, .bool false] (by simp [Act.eval]) (by simp [Act.eval]) sP.out rfl s1.out rD.out sB.out sB.out.size s5 ?_; intro v1 w1 own1 bel1 gr1 at1; obtain ⟨A1, cc1, rfl⟩ := own_row_slice1 own1; have hset := Lib.hid (hD.out.setRow hj (by rw [e.out]; exact gr1) own1 (by rw [e.out]; exact at1)); obtain ⟨hv1, hf1, hk1⟩ := keep_cells hD.out hj kD.out (by rw [e.out]; exact gr1); replace hk1 := Lib.hid hk1; clear own1 bel1 gr1 at1)
  all_goals (
    have f0 := blk_cell (hk1.out (.slice A1 ((cl j).rqs.length + 1) cc1)) 0
    have f1 := blk_cell (hk1.out (.slice A1 ((cl j).rqs.length + 1) cc1)) 1
    have f2 := blk_cell (hk1.out (.slice A1 ((cl j).rqs.length + 1) cc1)) 2
    have f3 := blk_cell (hk1.out (.slice A1 ((cl j).rqs.length + 1) cc1)) 3
    simp only [List.getElem?_toArray, List.getElem?_cons_zero, List.getElem?_cons_succ] at f0 f1 f2 f3
    have hnum := hset.out.num j hj
    rw [upd_same] at hnum
    have sBn := hset.out.bel
    have hfn := hset.out.frozen (j * 2 + 1)
    clear e0 e1 e2 e3 e4 e5 e6 e7 e8 e9 hv hl hfz hlt hEl hrow hbk bd hD rD kD sB s5 sP s1 hv1 hf1 hk1 h
    generalize (w1.setCell ⟨B0, j * 2, none⟩ (.slice A1 ((cl j).rqs.length + 1) cc1)) = W2 at *
    go_wp2
    · have k0 : (x.f0 == 2) = true := by assumption
      have hq2 : x.f2 = ((cl j).rqs.length : Int) + 1 := by rw [← hnn.out]; exact h2.out
      go_ret
      refine ⟨by rw [asksB_read hq2 (beq_iff_eq.1 k0)]; rfl, sBn, fun _ => ?_⟩
      rw [asksC_keep (.inl (beq_iff_eq.1 k0))]
      exact ⟨_, hset.out⟩
    · have k0 : (x.f0 == 2) = false := by assumption
      have k3 : (x.f3 == 0) = true := by assumption
      have hq2 : x.f2 = ((cl j).rqs.length : Int) + 1 := by rw [← hnn.out]; exact h2.out
      have hr := asksB_zero (nx := nx) hq2 (beq_eq_false_iff_ne.1 k0) (beq_iff_eq.1 k3)
      have hc := asksC_keep (c := cl j) (place := place) (.inr (beq_iff_eq.1 k3))
      have hN2 := hN.out.below sBn
      clear hq2 hN h2 hnn
      replace hr := Lib.hid hr
      replace hc := Lib.hid hc
      rcases np with _ | p <;> rcases nx with _ | nx
      · go_quiet (fail)
        go_wp2
        go_ret
        refine ⟨by rw [hr.out]; rfl, below_then sBn sBn.size (pw_below_drewN (Below.refl _ _) _), fun h => ?_⟩
        rw [hc.out]
        exact ⟨_, hset.out.below (pw_below_drewN (Below.refl _ _) _)⟩
      · exact hN2.elim
      · exact hN2.elim
      · obtain ⟨n0, n1, n2⟩ := hN2
        have hnb : nextB x (some nx) = (nx.f0 == 3 && nx.f1 == x.f1 && nx.f2 == x.f2) := rfl
        replace hnb := Lib.hid hnb
        cases q0 : (nx.f0 == 3) <;> cases q1 : (nx.f1 == x.f1) <;> cases q2 : (nx.f2 == x.f2)
        all_goals
          replace hnb := Lib.hid (by rw [hnb.out, q0, q1, q2] : nextB x (some nx) = _)
          go_quiet (fail)
          go_wp2
          go_ret
          refine ⟨by rw [hr.out, hnb.out]; rfl, below_then sBn sBn.size (pw_below_drewN (Below.refl _ _) _), fun h => ?_⟩
          rw [hc.out]
          exact ⟨_, hset.out.below (pw_below_drewN (Below.refl _ _) _)⟩
    · have k0 : (x.f0 == 2) = false := by assumption
      have k3 : (x.f3 == 0) = false := by assumption
      have hq2 : x.f2 = ((cl j).rqs.length : Int) + 1 := by rw [← hnn.out]; exact h2.out
      have hr := asksB_id (nx := nx) hq2 (beq_eq_false_iff_ne.1 k0) (beq_eq_false_iff_ne.1 k3)
      have hc := asksC_id (c := cl j) (place := place) (beq_eq_false_iff_ne.1 k0) (beq_eq_false_iff_ne.1 k3)
      have hi : idB (cl j) x = (decide (65536 ≤ x.f3) && (cliOf x.f3 == x.f1) && decide ((cl j).last < x.f3)) := rfl
      rw [hi] at hr
      unfold cliOf at hr
      clear hi hq2 hN h2 hnn
      replace hc := Lib.hid hc
      have hfin : Hid (∀ n, StV w0 ((W2.drewN n).setCell ⟨B0, j * 2 + 1, none⟩ (.int .u64 x.f3)) B0 (upd vs j (.slice A1 ((cl j).rqs.length + 1) cc1)) (upd cl j ⟨(cl j).rqs ++ [⟨x, place, false⟩], x.f3⟩)) := fun n => by
        have := (hset.out.below (pw_below_drewN (Below.refl _ _) n)).setLast hj x.f3
        rw [upd_upd, upd_same] at this
        exact this
      generalize q3 : decide ((cl j).last < x.f3) = b3 at *
      generalize hT : IntKind.i64.wrap (x.f3.tmod 65536) = t at *
      cases q1 : decide ((65536 : Int) ≤ x.f3)
      · replace hr := Lib.hid (by rw [hr, q1]; rfl : asksB (cl j) x nx = false)
        go_quiet (fail)
        go_wp2
        go_ret
        refine ⟨by rw [hr.out]; rfl, (hfin.out _).bel, fun h => ?_⟩
        rw [hc.out]
        exact ⟨_, hfin.out _⟩
      · cases q2 : (t == x.f1)
        · replace hr := Lib.hid (by rw [hr, q1, q2]; rfl : asksB (cl j) x nx = false)
          go_quiet (fail)
          go_wp2
          go_ret
          refine ⟨by rw [hr.out]; rfl, (hfin.out _).bel, fun h => ?_⟩
          rw [hc.out]
          exact ⟨_, hfin.out _⟩
        · replace hr := Lib.hid (by rw [hr, q1, q2]; rfl : asksB (cl j) x nx = b3)
          go_quiet (fail)
          go_wp2
          go_ret
          refine ⟨by rw [hr.out]; rfl, (hfin.out _).bel, fun h => ?_⟩
          rw [hc.out]
          exact ⟨_, hfin.out _⟩)
end Go.Proofs.YtiibjgnmdieicaaGreat.Hist
/- history: answers, walked. -/
namespace Go.Proofs.YtiibjgnmdieicaaGreat.Hist
open Go.RowKit Go.Proofs.YtiibjgnmdieicaaGreatW.PrintWords
theorem cut_get {α : Type} (l : List α) (k i : Nat) (u : α) (h : ((l.drop (k * 12)).take 12)[i]? = some u) : i < 12 ∧ l[k * 12 + i]? = some u := by
  rw [List.getElem?_take] at h
  split at h
  · rw [List.getElem?_drop] at h
    exact ⟨by assumption, h⟩
  · cases h
theorem cut_ext {α : Type} {a b : List α} (h : ∀ i : Nat, a[i]? = b[i]?) : a = b := List.ext_getElem? h
theorem cut_set_ne {α : Type} (l : List α) (j k m : Nat) (x : α) (hm : m < 12) (h : j ≠ k) : ((l.set (k * 12 + m) x).drop (j * 12)).take 12 = (l.drop (j * 12)).take 12 := by
  apply cut_ext
  intro i
  rw [List.getElem?_take, List.getElem?_take]
  split
  · rw [List.getElem?_drop, List.getElem?_drop, List.getElem?_set_ne (by omega)]
  · rfl
theorem cut_set {α : Type} (l : List α) (k m : Nat) (x : α) (hm : m < 12) : ((l.set (k * 12 + m) x).drop (k * 12)).take 12 = ((l.drop (k * 12)).take 12).set m x := by
  apply cut_ext
  intro i
  rw [List.getElem?_take, List.getElem?_set, List.getElem?_take]
  by_cases e : m = i
  · subst e
    rw [if_pos hm, List.getElem?_drop, List.getElem?_set, if_pos rfl, if_pos rfl]
    simp only [List.length_take, List.length_drop]
    split <;> split <;> first | rfl | omega
  · rw [if_neg e]
    split
    · rw [List.getElem?_drop, List.getElem?_drop, List.getElem?_set_ne (by omega)]
    · rfl
/-- A request is marked in its row. -/
theorem own_mark {w0 W : World} {base : Nat} {e : TypeId} {v : Value} {rqs : List Rq} (h : OwnRow (RqR w0) e 12 W base v rqs) (k : Nat) (hk : k < rqs.length) :
    ∃ g c cs, v = .slice (some ⟨g, 0, none⟩) rqs.length c ∧ base ≤ g ∧ W.heap[g]?.isSome = true ∧ cs.length = 12 ∧ RqR w0 rqs[k] cs ∧ (∀ i u, cs[i]? = some u → W.cell? ⟨g, k * 12 + i, none⟩ = some u) ∧ (∀ i, W.frozen? ⟨g, i, none⟩ = false)
      ∧ OwnRow (RqR w0) e 12 (W.setCell ⟨g, k * 12 + 11, none⟩ (.bool true)) base v (rqs.set k ⟨rqs[k].ev, rqs[k].place, true⟩) := by
  obtain ⟨inner, ⟨hl, hor⟩, hrep⟩ := h
  rcases hor with ⟨_, h0⟩ | ⟨g, cap, cur, rfl, hg, hh, hnc, hcm, hcs, htk⟩
  · omega
  have hlen : ((inner.drop (k * 12)).take 12).length = 12 := by
    rw [List.length_take, List.length_drop, hl]
    omega
  have hR := hrep.2 k _ (List.getElem?_eq_getElem hk)
  refine ⟨g, cap, (inner.drop (k * 12)).take 12, rfl, hg, by rw [hh]; rfl, hlen, hR, fun i u hu => ?_, fun i => blk_frozen hh i, ?_⟩
  · obtain ⟨hi, hu⟩ := cut_get _ _ _ _ hu
    rw [blk_cell hh]
    rw [← htk, List.getElem?_take] at hu
    split at hu
    · rw [← Array.getElem?_toList]; exact hu
    · cases hu
  · refine ⟨inner.set (k * 12 + 11) (.bool true), ⟨by rw [List.length_set, hl, List.length_set], .inr ⟨g, cap, _, by rw [List.length_set], hg, blk_set hh _ _, by rw [List.length_set]; exact hnc, hcm, by rw [Array.size_setIfInBounds]; exact hcs, ?_⟩⟩, ?_, fun j p hj => ?_⟩
    · rw [Array.toList_setIfInBounds, List.take_set, List.length_set, htk]
    · rw [List.length_set, List.length_set, hl]
    · by_cases e : k = j
      · subst e
        rw [List.getElem?_set_self hk] at hj
        injection hj with hj
        subst hj
        rw [cut_set _ _ _ _ (by decide)]
        obtain ⟨c10, hc, he⟩ := hR
        have h10 : c10.length = 10 := by
          have := congrArg List.length he
          rw [hlen, List.length_append] at this
          simpa using this.symm
        refine ⟨c10, hc, ?_⟩
        rw [he, List.set_append_right _ _ (by omega), h10]
        rfl
      · rw [List.getElem?_set_ne e] at hj
        rw [cut_set_ne _ _ _ _ _ (by decide) (fun h => e h.symm)]
        exact hrep.2 j p hj
theorem cell_far {W : World} {B0 k : Nat} {p : Addr} {u v : Value} (h : W.cell? ⟨B0, k, none⟩ = some v) (hne : B0 ≠ p.block) : (W.setCell p u).cell? ⟨B0, k, none⟩ = some v := by
  rw [World.cell?_setCell_other]
  · exact h
  · intro e
    exact hne (by rw [e])
/-- a request of a client is marked -/
theorem StV.mark {w0 W : World} {B0 : Nat} {vs : Nat → Value} {cl : Nat → Cl} (h : StV w0 W B0 vs cl) {j : Nat} (hj : j < 16) (k : Nat) (hk : k < (cl j).rqs.length) :
    ∃ g c cs, vs j = .slice (some ⟨g, 0, none⟩) (cl j).rqs.length c ∧ cs.length = 12 ∧ RqR w0 (cl j).rqs[k] cs ∧ (∀ i u, cs[i]? = some u → W.cell? ⟨g, k * 12 + i, none⟩ = some u) ∧ (∀ i, W.frozen? ⟨g, i, none⟩ = false) ∧ w0.heap.size ≤ g ∧ g < W.heap.size
      ∧ StV w0 (W.setCell ⟨g, k * 12 + 11, none⟩ (.bool true)) B0 vs (upd cl j ⟨(cl j).rqs.set k ⟨(cl j).rqs[k].ev, (cl j).rqs[k].place, true⟩, (cl j).last⟩) := by
  obtain ⟨g, c, cs, hv, hg, hs, hl, hR, hcell, hfz, hown⟩ := own_mark (h.row j hj) k hk
  obtain ⟨cells, hB⟩ := h.blk
  have hneB : some B0 ≠ (vs j).ownBlock := (h.row j hj).ne_block hB (by decide)
  have hgo : (vs j).ownBlock = some g := by rw [hv]; rfl
  have hne : B0 ≠ g := fun e => hneB (by rw [hgo, e])
  have hlt : g < W.heap.size := by
    rcases hh : W.heap[g]? with _ | o
    · rw [hh] at hs; cases hs
    · exact blk_lt hh
  refine ⟨g, c, cs, hv, hl, hR, hcell, hfz, hg, hlt, ⟨⟨_, blk_far hB hne _⟩, h.base, fun i hi => cell_far (h.val i hi) hne, fun i hi => ?_, fun i hi => ?_, h.far, below_set_ h.bel hg _⟩⟩
  · have hn := cell_far (p := ⟨g, k * 12 + 11, none⟩) (u := .bool true) (h.num i hi) hne
    by_cases e : i = j
    · subst e
      rw [upd_same]
      exact hn
    · rw [upd_ne _ _ e]
      exact hn
  · by_cases e : i = j
    · subst e
      rw [upd_same]
      exact hown
    · rw [upd_ne _ _ e]
      obtain ⟨inner, ho, hr⟩ := h.row i hi
      refine ⟨inner, own_setCell ho ?_ _, hr⟩
      have := h.far i j hi hj e
      rw [hgo] at this
      rcases this with h0 | h0
      · rw [h0]; simp
      · exact Ne.symm h0
theorem StV.marked {w0 W : World} {B0 : Nat} {vs : Nat → Value} {cl : Nat → Cl} (h : StV w0 W B0 vs cl) {j : Nat} (hj : j < 16) (k : Nat) (hk : k < (cl j).rqs.length) {g n c : Nat} (hv : vs j = .slice (some ⟨g, 0, none⟩) n c) :
    StV w0 (W.setCell ⟨g, k * 12 + 11, none⟩ (.bool true)) B0 vs (upd cl j ⟨(cl j).rqs.set k ⟨(cl j).rqs[k].ev, (cl j).rqs[k].place, true⟩, (cl j).last⟩) := by
  obtain ⟨g', c', cs, hv', _, _, _, _, _, _, hst⟩ := h.mark hj k hk
  rw [hv] at hv'
  injection hv' with e _ _
  injection e with e
  injection e with e _
  subst e
  exact hst
end Go.Proofs.YtiibjgnmdieicaaGreat.Hist
/- history: answers, walked. -/
namespace Go.Proofs.YtiibjgnmdieicaaGreat.Hist
open Go.RowKit Go.Proofs.YtiibjgnmdieicaaGreatW.PrintWords
def ansB (c : Cl) (x : Evt) (place : Int) : Bool :=
  if (c.rqs.length : Int) < x.f2 then false
  else match c.rqs[(x.f2 - 1).toNat]? with
    | none => false
    | some q => if q.ans then false else if q.ev.f0 = 1 then writtenB q.ev x.f6 else readB q.ev x.f6 (place == IntKind.i64.wrap (q.place + 1))
def ansC (c : Cl) (x : Evt) : Cl :=
  match c.rqs[(x.f2 - 1).toNat]? with
  | none => c
  | some q => ⟨c.rqs.set (x.f2 - 1).toNat ⟨q.ev, q.place, true⟩, c.last⟩
set_option maxHeartbeats 8000000 in
set_option maxRecDepth 100000 in
theorem answers_far (w0 W : World) (B0 : Nat) (cl : Nat → Cl) (j : Nat) (hj : j < 16) (x : Evt) (A4 : Option Addr) (c4 : Nat) (A5 : Option Addr) (c5 : Nat) (A9 : Option Addr) (c9 : Nat) (place : Int) (hS : St w0 W B0 cl)
    (h2 : ((cl j).rqs.length : Int) < x.f2) :
    Calls Tryz.prog 39 #[.pointer (some ⟨B0, j * 2, none⟩), .agg #[.int .i64 x.f0, .int .i64 x.f1, .int .i64 x.f2, .int .u64 x.f3, .slice A4 x.f4.length c4, .slice A5 x.f5.length c5, .int .i64 x.f6.f0, .int .i64 x.f6.f1, .int .u64 x.f6.f2, .slice A9 x.f6.f3.length c9], .int .i64 place] W fun e w' => e = .returned (.bool false) ∧ Below w0.heap.size w0 w' := by
  obtain ⟨vs, h⟩ := hS
  have hv := h.val j hj
  obtain ⟨A, c, e⟩ := own_row_slice (h.row j hj)
  rw [e] at hv
  have hB := Lib.hid h.bel
  have hlt : B0 < W.heap.size := World.block_lt_of_cell? W _ hv
  generalize (cl j).rqs.length = n at *
  have d1 : decide ((n : Int) < x.f2) = true := decide_eq_true h2
  clear h e
  replace h2 := Lib.hid h2
  go_enter Tryz.func39, Tryz.ntmps39
  go_wp2
  go_quiet (fail)
  go_wp2
  go_ret
  exact ⟨rfl, below_then hB.out hB.out.size (pw_below_drewN (below_alloc (Below.refl _ _) _) _)⟩
/-- written, by its contract, at any later world -/
theorem written_any (w0 w : World) (q x : Evt) (Q4 : Option Addr) (q4 : Nat) (Q5 : Option Addr) (q5 : Nat) (Q9 : Option Addr) (q9 : Nat) (A9 : Option Addr) (c9 : Nat)
    (hq : kEvt.K w0 q [.int .i64 q.f0, .int .i64 q.f1, .int .i64 q.f2, .int .u64 q.f3, .slice Q4 q.f4.length q4, .slice Q5 q.f5.length q5, .int .i64 q.f6.f0, .int .i64 q.f6.f1, .int .u64 q.f6.f2, .slice Q9 q.f6.f3.length q9])
    (h9 : x.f6.f3.length ≤ c9) (hC : kVer.C w0 A9 x.f6.f3.length x.f6.f3) (hb : Below w0.heap.size w0 w) :
    Calls Tryz.prog 63 #[.agg #[.int .i64 q.f0, .int .i64 q.f1, .int .i64 q.f2, .int .u64 q.f3, .slice Q4 q.f4.length q4, .slice Q5 q.f5.length q5, .int .i64 q.f6.f0, .int .i64 q.f6.f1, .int .u64 q.f6.f2, .slice Q9 q.f6.f3.length q9], .agg #[.int .i64 x.f6.f0, .int .i64 x.f6.f1, .int .u64 x.f6.f2, .slice A9 x.f6.f3.length c9]] w fun e w' => e = .returned (.bool (writtenB q x.f6)) ∧ Below w.heap.size w w' := by
  obtain ⟨_, _, _, _, _, _, e, l4, k4, l5, k5, l9, k9⟩ := G.k38_open hq
  simp only [List.cons.injEq, Value.slice.injEq, and_true, true_and] at e
  obtain ⟨⟨rfl, rfl⟩, ⟨rfl, rfl⟩, ⟨rfl, rfl⟩⟩ := e
  exact G.history_written.calls 2 _ _ _ _ _ _ _ _ _ _ _ _ _ _ _ _ _ _ _ _ _ _ _ _ (Kd.C_below k4 hb) l4 (Kd.C_below k5 hb) l5 (Kd.C_below k9 hb) l9 (Kd.C_below hC hb) h9 (written_is q x.f6)
set_option maxHeartbeats 8000000 in
set_option maxRecDepth 100000 in
theorem answers_near (w0 W : World) (B0 : Nat) (cl : Nat → Cl) (j : Nat) (hj : j < 16) (x : Evt) (A4 : Option Addr) (c4 : Nat) (A5 : Option Addr) (c5 : Nat) (A9 : Option Addr) (c9 : Nat) (place : Int) (hS : St w0 W B0 cl) (hn : (cl j).rqs.length ≤ 1048576)
    (hA : x.f6.f3.length ≤ c9) (hC : kVer.C w0 A9 x.f6.f3.length x.f6.f3) (k : Nat) (hk : k < (cl j).rqs.length) (h2 : x.f2 = (k : Int) + 1) :
    Calls Tryz.prog 39 #[.pointer (some ⟨B0, j * 2, none⟩), .agg #[.int .i64 x.f0, .int .i64 x.f1, .int .i64 x.f2, .int .u64 x.f3, .slice A4 x.f4.length c4, .slice A5 x.f5.length c5, .int .i64 x.f6.f0, .int .i64 x.f6.f1, .int .u64 x.f6.f2, .slice A9 x.f6.f3.length c9], .int .i64 place] W fun e w' => e = .returned (.bool (ansB (cl j) x place)) ∧ Below w0.heap.size w0 w' ∧ (ansB (cl j) x place = true → St w0 w' B0 (upd cl j (ansC (cl j) x))) := by
  obtain ⟨vs, h⟩ := hS
  have hget : (cl j).rqs[(x.f2 - 1).toNat]? = some (cl j).rqs[k] := by
    rw [h2, show ((k : Int) + 1 - 1).toNat = k by omega]
    exact List.getElem?_eq_getElem hk
  have hb : ansB (cl j) x place = if (cl j).rqs[k].ans then false else if (cl j).rqs[k].ev.f0 = 1 then writtenB (cl j).rqs[k].ev x.f6 else readB (cl j).rqs[k].ev x.f6 (place == IntKind.i64.wrap ((cl j).rqs[k].place + 1)) := by
    unfold ansB
    rw [if_neg (by omega), hget]
  have hc : ansC (cl j) x = ⟨(cl j).rqs.set k ⟨(cl j).rqs[k].ev, (cl j).rqs[k].place, true⟩, (cl j).last⟩ := by
    unfold ansC
    rw [hget, h2, show ((k : Int) + 1 - 1).toNat = k by omega]
  obtain ⟨q0, hq0⟩ : ∃ q, (cl j).rqs[k] = q := ⟨_, rfl⟩
  rw [hq0] at hb hc
  rw [hb, hc]
  clear hget hb hc
  generalize hR : (if q0.ans then false else if q0.ev.f0 = 1 then writtenB q0.ev x.f6 else readB q0.ev x.f6 (place == IntKind.i64.wrap (q0.place + 1)) : Bool) = R
  replace hR := Lib.hid hR
  replace hq0 := Lib.hid hq0
  have hv := h.val j hj
  obtain ⟨A, c, e⟩ := own_row_slice (h.row j hj)
  rw [e] at hv
  have hlt : B0 < W.heap.size := World.block_lt_of_cell? W _ hv
  have h0s : w0.heap.size ≤ W.heap.size := h.bel.size
  obtain ⟨n, hnn⟩ : ∃ n, n = (cl j).rqs.length := ⟨_, rfl⟩
  rw [← hnn] at hv hn
  have d1 : decide ((n : Int) < x.f2) = false := decide_eq_false (by omega)
  have hw : IntKind.i64.wrap (x.f2 - 1) = (k : Int) := by rw [h2, show (k : Int) + 1 - 1 = (k : Int) by omega]; exact IntWalk.i64_in _ (by omega)
  have hkn : k < n := by omega
  replace e := Lib.hid e
  replace h := Lib.hid h
  replace h2 := Lib.hid h2
  replace hnn := Lib.hid hnn
  replace hA := Lib.hid hA
  replace hC := Lib.hid hC
  go_enter Tryz.func39, Tryz.ntmps39
  go_wp2
  go_quiet (fail)
  go_wp2
  have hbk : ((W.alloc (.cells #[.int .i64 x.f0, .int .i64 x.f1, .int .i64 x.f2, .int .u64 x.f3, .slice A4 x.f4.length c4, .slice A5 x.f5.length c5, .int .i64 x.f6.f0, .int .i64 x.f6.f1, .int .u64 x.f6.f2, .slice A9 x.f6.f3.length c9] 38)).drewN nq).heap[W.heap.size]? = some (.cells #[.int .i64 x.f0, .int .i64 x.f1, .int .i64 x.f2, .int .u64 x.f3, .slice A4 x.f4.length c4, .slice A5 x.f5.length c5, .int .i64 x.f6.f0, .int .i64 x.f6.f1, .int .u64 x.f6.f2, .slice A9 x.f6.f3.length c9] 38 (0, 0)) := blk_drewN (heap_alloc_new W _) _
  have b1 : Below W.heap.size W ((W.alloc (.cells #[.int .i64 x.f0, .int .i64 x.f1, .int .i64 x.f2, .int .u64 x.f3, .slice A4 x.f4.length c4, .slice A5 x.f5.length c5, .int .i64 x.f6.f0, .int .i64 x.f6.f1, .int .u64 x.f6.f2, .slice A9 x.f6.f3.length c9] 38)).drewN nq) := pw_below_drewN (below_alloc (Below.refl _ _) _) _
  replace h := Lib.hid (h.out.below b1)
  clear b1 hv hlt
  generalize (W.alloc (.cells #[.int .i64 x.f0, .int .i64 x.f1, .int .i64 x.f2, .int .u64 x.f3, .slice A4 x.f4.length c4, .slice A5 x.f5.length c5, .int .i64 x.f6.f0, .int .i64 x.f6.f1, .int .u64 x.f6.f2, .slice A9 x.f6.f3.length c9] 38)).drewN nq = W1 at *
  generalize W.heap.size = E0 at *
  have hmk : Hid (∀ W2, Below W1.heap.size W1 W2 → StV w0 W2 B0 vs cl) := fun W2 hb => h.out.below hb
  obtain ⟨g, c', cs, e', _, ⟨c10, hq, hcs⟩, hcell, hfz, hgb, hglt, _⟩ := h.out.mark hj k hk
  obtain ⟨Q4, q4, Q5, q5, Q9, q9, hc10, _, _, hle5, hK5, _, _⟩ := G.k38_open hq
  subst hc10
  subst hcs
  have hset : Hid (∀ W2, Below W1.heap.size W1 W2 → StV w0 (W2.setCell ⟨g, k * 12 + 11, none⟩ (.bool true)) B0 vs (upd cl j ⟨(cl j).rqs.set k ⟨(cl j).rqs[k].ev, (cl j).rqs[k].place, true⟩, (cl j).last⟩)) := fun W2 hb => (hmk.out W2 hb).marked hj k hk e'
  have hgE : g ≠ E0 := by
    rintro rfl
    exact (h.out.row j hj).ne_block hbk (by decide) (by rw [e']; rfl)
  have hv := h.out.val j hj
  rw [e.out] at e'
  injection e' with e1' _ e3'
  subst e1' e3'
  rw [e.out] at hv
  have m0 : W1.cell? ⟨g, k * 12, none⟩ = _ := hcell 0 _ rfl
  have m1 := hcell 1 _ rfl
  have m2 := hcell 2 _ rfl
  have m3 := hcell 3 _ rfl
  have m4 := hcell 4 _ rfl
  have m5 := hcell 5 _ rfl
  have m6 := hcell 6 _ rfl
  have m7 := hcell 7 _ rfl
  have m8 := hcell 8 _ rfl
  have m9 := hcell 9 _ rfl
  have m10 := hcell 10 _ rfl
  have m11 := hcell 11 _ rfl
  have hfz11 := hfz (k * 12 + 11)
  have hB := Lib.hid h.out.bel
  have hlt : B0 < W1.heap.size := World.block_lt_of_cell? W1 _ hv
  have e0 := blk_cell hbk 0
  have e1 := blk_cell hbk 1
  have e2 := blk_cell hbk 2
  have e3 := blk_cell hbk 3
  have e4 := blk_cell hbk 4
  have e5 := blk_cell hbk 5
  have e6 := blk_cell hbk 6
  have e7 := blk_cell hbk 7
  have e8 := blk_cell hbk 8
  have e9 := blk_cell hbk 9
  simp only [List.getElem?_toArray, List.getElem?_cons_zero, List.getElem?_cons_succ] at e0 e1 e2 e3 e4 e5 e6 e7 e8 e9
  have hEl : E0 < W1.heap.size := blk_lt hbk
  rw [← hnn.out] at hv
  clear hcell hfz hbk e
  replace hK5 := Lib.hid hK5
  replace hq := Lib.hid hq
  replace hgb := Lib.hid hgb
  have hwk : IntKind.i64.wrap (k : Int) = (k : Int) := IntWalk.i64_in _ (by omega)
  generalize (cl j).rqs[k] = q at *
  have hq1 := hq0.out
  subst hq1
  have hkz : decide ((k : Int) < (n : Int)) = true := decide_eq_true (by omega)
  cases hans : q.ans
  · rw [hans] at m11
    go_quiet (fail)
    go_wp2
    · have hwr : Hid (∀ W2, Below w0.heap.size w0 W2 → Calls Tryz.prog 63 #[.agg #[.int .i64 q.ev.f0, .int .i64 q.ev.f1, .int .i64 q.ev.f2, .int .u64 q.ev.f3, .slice Q4 q.ev.f4.length q4, .slice Q5 q.ev.f5.length q5, .int .i64 q.ev.f6.f0, .int .i64 q.ev.f6.f1, .int .u64 q.ev.f6.f2, .slice Q9 q.ev.f6.f3.length q9], .agg #[.int .i64 x.f6.f0, .int .i64 x.f6.f1, .int .u64 x.f6.f2, .slice A9 x.f6.f3.length c9]] W2 fun e w' => e = .returned (.bool (writtenB q.ev x.f6)) ∧ Below W2.heap.size W2 w') := fun W2 hb => written_any w0 _ q.ev x Q4 q4 Q5 q5 Q9 q9 A9 c9 hq.out hA.out hC.out hb
      have k0 : (q.ev.f0 == 1) = true := by assumption
      have hr : Hid (R = writtenB q.ev x.f6) := by
        rw [← hR.out, hans, if_pos (beq_iff_eq.1 k0)]
        rfl
      have hst : Hid (∀ n, StV w0 ((W1.drewN n).setCell ⟨g, k * 12 + 11, none⟩ (.bool true)) B0 vs _) := fun n => hset.out _ (pw_below_drewN (Below.refl _ _) n)
      go_region_with (go_at_call 63; refine (hwr.out _ (below_then (hst.out _).bel (hst.out _).bel.size (below_drew (Below.refl _ _)))).mono ?_; rintro e w1 ⟨rfl, hb⟩; replace hb := Lib.hid hb)
      all_goals
        have hend := Lib.hid (((hst.out _).below (below_drew (Below.refl _ _))).below hb.out)
        go_wp2
        go_ret
        exact ⟨by rw [hr.out]; rfl, hend.out.bel, fun _ => ⟨_, hend.out⟩⟩
    · have hrd : Hid (∀ W2 b, Below w0.heap.size w0 W2 → Calls Tryz.prog 64 #[.agg #[.int .i64 q.ev.f0, .int .i64 q.ev.f1, .int .i64 q.ev.f2, .int .u64 q.ev.f3, .slice Q4 q.ev.f4.length q4, .slice Q5 q.ev.f5.length q5, .int .i64 q.ev.f6.f0, .int .i64 q.ev.f6.f1, .int .u64 q.ev.f6.f2, .slice Q9 q.ev.f6.f3.length q9], .agg #[.int .i64 x.f6.f0, .int .i64 x.f6.f1, .int .u64 x.f6.f2, .slice A9 x.f6.f3.length c9], .bool b] W2 fun e w' => e = .returned (.bool (readB q.ev x.f6 b)) ∧ Below W2.heap.size W2 w') := fun W2 b hb => read_any q.ev Q4 q4 Q5 q5 Q9 q9 x.f6 A9 c9 b W2 (Kd.C_below hK5.out hb) (Kd.C_below hC.out hb)
      have k0 : (q.ev.f0 == 1) = false := by assumption
      have hr : Hid (R = readB q.ev x.f6 (place == IntKind.i64.wrap (q.place + 1))) := by
        rw [← hR.out, hans, if_neg (beq_eq_false_iff_ne.1 k0)]
        rfl
      have hst : Hid (∀ n, StV w0 ((W1.drewN n).setCell ⟨g, k * 12 + 11, none⟩ (.bool true)) B0 vs _) := fun n => hset.out _ (pw_below_drewN (Below.refl _ _) n)
      go_region_with (go_at_call 64; refine (hrd.out _ _ (below_then (hst.out _).bel (hst.out _).bel.size (below_drew (Below.refl _ _)))).mono ?_; rintro e w1 ⟨rfl, hb⟩; replace hb := Lib.hid hb)
      all_goals
        have hend := Lib.hid (((hst.out _).below (below_drew (Below.refl _ _))).below hb.out)
        go_wp2
        go_ret
        exact ⟨by rw [hr.out]; rfl, hend.out.bel, fun _ => ⟨_, hend.out⟩⟩
  · rw [hans] at m11
    go_quiet (fail)
    go_wp2
    go_ret
    have hr : R = false := by rw [← hR.out, hans]; rfl
    exact ⟨by rw [hr]; rfl, below_then hB.out hB.out.size (pw_below_drewN (Below.refl _ _) _), fun h => by rw [hr] at h; cases h⟩
end Go.Proofs.YtiibjgnmdieicaaGreat.Hist
/- history: Proper, walked. -/
namespace Go.Proofs.YtiibjgnmdieicaaGreat.Hist
open Go.RowKit Go.Proofs.YtiibjgnmdieicaaGreatW.PrintWords
def stepB (cl : Nat → Cl) (x : Evt) (nx : Option Evt) (place : Int) : Bool :=
  mayB x && (if x.f0 = 3 then ansB (cl x.f1.toNat) x place else asksB (cl x.f1.toNat) x nx)
def stepC (cl : Nat → Cl) (x : Evt) (place : Int) : Nat → Cl :=
  upd cl x.f1.toNat (if x.f0 = 3 then ansC (cl x.f1.toNat) x else asksC (cl x.f1.toNat) x place)
def properAt : List Evt → Int → (Nat → Cl) → Bool
  | [], _, _ => true
  | x :: r, i, cl => stepB cl x r.head? i && properAt r (i + 1) (stepC cl x i)
def cl0 : Nat → Cl := fun _ => ⟨[], 0⟩
def properB (l : List Evt) : Bool := properAt l 0 cl0
theorem asks_any (w0 W : World) (B0 : Nat) (cl : Nat → Cl) (j : Nat) (hj : j < 16) (x : Evt) (A4 : Option Addr) (c4 : Nat) (A5 : Option Addr) (c5 : Nat) (A9 : Option Addr) (c9 : Nat) (place : Int) (np : Option Addr) (nx : Option Evt) (hS : St w0 W B0 cl)
    (hK : kEvt.K w0 x [.int .i64 x.f0, .int .i64 x.f1, .int .i64 x.f2, .int .u64 x.f3, .slice A4 x.f4.length c4, .slice A5 x.f5.length c5, .int .i64 x.f6.f0, .int .i64 x.f6.f1, .int .u64 x.f6.f2, .slice A9 x.f6.f3.length c9])
    (hn : (cl j).rqs.length ≤ 1048576) (hN : NextAt w0 np nx) :
    Calls Tryz.prog 40 #[.pointer (some ⟨B0, j * 2, none⟩), .agg #[.int .i64 x.f0, .int .i64 x.f1, .int .i64 x.f2, .int .u64 x.f3, .slice A4 x.f4.length c4, .slice A5 x.f5.length c5, .int .i64 x.f6.f0, .int .i64 x.f6.f1, .int .u64 x.f6.f2, .slice A9 x.f6.f3.length c9], .int .i64 place, .pointer np] W (Asked w0 B0 (upd cl j (asksC (cl j) x place)) (asksB (cl j) x nx)) := by
  by_cases h2 : x.f2 = ((cl j).rqs.length : Int) + 1
  · exact asks_yes w0 W B0 cl j hj x A4 c4 A5 c5 A9 c9 place np nx hS hK hn h2 hN
  · have hr : asksB (cl j) x nx = false := by unfold asksB; rw [if_pos h2]
    rw [hr]
    exact (asks_no w0 W B0 cl j hj x A4 c4 A5 c5 A9 c9 place np hS hn h2).mono fun e w' h => ⟨h.1, h.2, fun h => by cases h⟩
theorem answers_any (w0 W : World) (B0 : Nat) (cl : Nat → Cl) (j : Nat) (hj : j < 16) (x : Evt) (A4 : Option Addr) (c4 : Nat) (A5 : Option Addr) (c5 : Nat) (A9 : Option Addr) (c9 : Nat) (place : Int) (hS : St w0 W B0 cl) (hn : (cl j).rqs.length ≤ 1048576)
    (hA : x.f6.f3.length ≤ c9) (hC : kVer.C w0 A9 x.f6.f3.length x.f6.f3) (h1 : 1 ≤ x.f2) :
    Calls Tryz.prog 39 #[.pointer (some ⟨B0, j * 2, none⟩), .agg #[.int .i64 x.f0, .int .i64 x.f1, .int .i64 x.f2, .int .u64 x.f3, .slice A4 x.f4.length c4, .slice A5 x.f5.length c5, .int .i64 x.f6.f0, .int .i64 x.f6.f1, .int .u64 x.f6.f2, .slice A9 x.f6.f3.length c9], .int .i64 place] W (Asked w0 B0 (upd cl j (ansC (cl j) x)) (ansB (cl j) x place)) := by
  by_cases h2 : ((cl j).rqs.length : Int) < x.f2
  · have hr : ansB (cl j) x place = false := by unfold ansB; rw [if_pos h2]
    rw [hr]
    exact (answers_far w0 W B0 cl j hj x A4 c4 A5 c5 A9 c9 place hS h2).mono fun e w' h => ⟨h.1, h.2, fun h => by cases h⟩
  · exact answers_near w0 W B0 cl j hj x A4 c4 A5 c5 A9 c9 place hS hn hA hC (x.f2 - 1).toNat (by omega) (by omega)
def sixteen : Array Value := #[.slice none 0 0, .int .u64 0, .slice none 0 0, .int .u64 0, .slice none 0 0, .int .u64 0, .slice none 0 0, .int .u64 0, .slice none 0 0, .int .u64 0, .slice none 0 0, .int .u64 0, .slice none 0 0, .int .u64 0, .slice none 0 0, .int .u64 0, .slice none 0 0, .int .u64 0, .slice none 0 0, .int .u64 0, .slice none 0 0, .int .u64 0, .slice none 0 0, .int .u64 0, .slice none 0 0, .int .u64 0, .slice none 0 0, .int .u64 0, .slice none 0 0, .int .u64 0, .slice none 0 0, .int .u64 0]
theorem sixteen_at : ∀ i, i < 16 → sixteen[i * 2]? = some (.slice none 0 0) ∧ sixteen[i * 2 + 1]? = some (.int .u64 0)
  | 0, _ | 1, _ | 2, _ | 3, _ | 4, _ | 5, _ | 6, _ | 7, _ | 8, _ | 9, _ | 10, _ | 11, _ | 12, _ | 13, _ | 14, _ | 15, _ => ⟨rfl, rfl⟩
  | _ + 16, h => absurd h (by omega)
theorem st_start (w : World) : St w (w.alloc (.cells sixteen 82)) w.heap.size cl0 := by
  have hB : (w.alloc (.cells sixteen 82)).heap[w.heap.size]? = some (.cells sixteen 82 (0, 0)) := heap_alloc_new w _
  exact ⟨fun _ => .slice none 0 0, ⟨⟨_, hB⟩, Nat.le_refl _, fun i hi => (blk_cell hB _).trans (sixteen_at i hi).1, fun i hi => (blk_cell hB _).trans (sixteen_at i hi).2, fun i _ => OwnRow.none_ _ _ _ _ _, fun _ _ _ _ _ => .inl rfl, below_alloc (Below.refl _ _) _⟩⟩
theorem mayB_in {x : Evt} (h : mayB x = true) : 0 ≤ x.f1 ∧ x.f1 < 16 ∧ 1 ≤ x.f2 := by
  unfold mayB at h
  by_cases c : x.f1 < 0 ∨ 16 ≤ x.f1 ∨ x.f2 < 1
  · rw [if_pos c] at h
    cases h
  · omega
/-- an element of a row of events -/
theorem evt_at {W : World} {A : Option Addr} {l : List Evt} (h : kEvt.C W A l.length l) {j : Nat} (hj : j < l.length) : ∃ ad A4 c4 A5 c5 A9 c9, A = some ad ∧ W.cell? (ad.add (j * 10)) = some (.int .i64 l[j].f0) ∧ W.cell? ⟨(ad.add (j * 10)).block, (ad.add (j * 10)).off + 1, none⟩ = some (.int .i64 l[j].f1) ∧ W.cell? ⟨(ad.add (j * 10)).block, (ad.add (j * 10)).off + 2, none⟩ = some (.int .i64 l[j].f2) ∧ W.cell? ⟨(ad.add (j * 10)).block, (ad.add (j * 10)).off + 3, none⟩ = some (.int .u64 l[j].f3) ∧ W.cell? ⟨(ad.add (j * 10)).block, (ad.add (j * 10)).off + 4, none⟩ = some (.slice A4 l[j].f4.length c4) ∧ W.cell? ⟨(ad.add (j * 10)).block, (ad.add (j * 10)).off + 5, none⟩ = some (.slice A5 l[j].f5.length c5) ∧ W.cell? ⟨(ad.add (j * 10)).block, (ad.add (j * 10)).off + 6, none⟩ = some (.int .i64 l[j].f6.f0) ∧ W.cell? ⟨(ad.add (j * 10)).block, (ad.add (j * 10)).off + 7, none⟩ = some (.int .i64 l[j].f6.f1) ∧ W.cell? ⟨(ad.add (j * 10)).block, (ad.add (j * 10)).off + 8, none⟩ = some (.int .u64 l[j].f6.f2) ∧ W.cell? ⟨(ad.add (j * 10)).block, (ad.add (j * 10)).off + 9, none⟩ = some (.slice A9 l[j].f6.f3.length c9) ∧ kEvt.K W l[j] [.int .i64 l[j].f0, .int .i64 l[j].f1, .int .i64 l[j].f2, .int .u64 l[j].f3, .slice A4 l[j].f4.length c4, .slice A5 l[j].f5.length c5, .int .i64 l[j].f6.f0, .int .i64 l[j].f6.f1, .int .u64 l[j].f6.f2, .slice A9 l[j].f6.f3.length c9] ∧ l[j].f6.f3.length ≤ c9 ∧ kVer.C W A9 l[j].f6.f3.length l[j].f6.f3 := by
  have h2 := G.at_T38 h (j : Int) (by omega) (by omega)
  rw [Int.toNat_natCast, show G.rd_T38 l (j : Int) = l[j] from by simp [G.rd_T38, hj]] at h2
  obtain ⟨ad, A4, c4, A5, c5, A9, c9, e, q0, q1, q2, q3, q4, q5, q6, q7, q8, q9, l4, k4, l5, k5, l9, k9⟩ := h2
  exact ⟨ad, A4, c4, A5, c5, A9, c9, e, q0, q1, q2, q3, q4, q5, q6, q7, q8, q9, G.k38_mk W _ l4 k4 l5 k5 l9 k9, l9, k9⟩
theorem proper_step {l : List Evt} {j : Nat} {cl : Nat → Cl} (hlt : j < l.length) (hp : properB l = properAt (l.drop j) j cl) : properB l = (stepB cl l[j] l[j + 1]? j && properAt (l.drop (j + 1)) ((j + 1 : Nat) : Int) (stepC cl l[j] j)) := by
  rw [hp, List.drop_eq_getElem_cons hlt, properAt, List.head?_drop]
  rfl
theorem asksC_len (c : Cl) (x : Evt) (p : Int) : (asksC c x p).rqs.length = c.rqs.length + 1 := by
  unfold asksC
  split <;> simp
theorem ansC_len (c : Cl) (x : Evt) : (ansC c x).rqs.length = c.rqs.length := by
  unfold ansC
  split <;> simp
theorem lens_upd {cl : Nat → Cl} {j u : Nat} {c : Cl} (h : ∀ i, i < 16 → (cl i).rqs.length ≤ j) (hc : c.rqs.length ≤ j + 1) : ∀ i, i < 16 → (upd cl u c i).rqs.length ≤ j + 1 := fun i hi => by
  unfold upd
  split
  · exact hc
  · have := h i hi
    omega
def RelP (w : World) (l : List Evt) (s : Value) (wr : World) : Prop :=
  ∃ (j : Nat) (cl : Nat → Cl), j ≤ l.length ∧ s = .int .i64 j ∧ properB l = properAt (l.drop j) j cl ∧ (∀ i, i < 16 → (cl i).rqs.length ≤ j) ∧ Below w.heap.size w wr ∧ St w wr w.heap.size cl
set_option maxHeartbeats 8000000 in
set_option maxRecDepth 100000 in
theorem proper_any (A : Option Addr) (c : Nat) (l : List Evt) (w : World) (hC : kEvt.C w A l.length l) (hn : l.length ≤ 1048576) :
    Calls Tryz.prog 23 #[.slice A l.length c] w fun e w' => e = .returned (.bool (properB l)) ∧ Below w.heap.size w w' := by
  have hst := Lib.hid (st_start w)
  replace hC := Lib.hid hC
  replace hn := Lib.hid hn
  go_enter Tryz.func23, Tryz.ntmps23
  go_wp2
  go_loopw [11] (fun s wr => RelP w l s wr) (fun s _ => l.length - (intOf s).toNat)
  case atStart => exact ⟨0, cl0, Nat.zero_le _, rfl, rfl, fun _ _ => Nat.zero_le _, below_alloc (Below.refl _ _) _, hst.out⟩
  case round =>
    obtain ⟨j, cl, hj, rfl, hp, hle, hB, hS⟩ := hrel
    replace hp := Lib.hid hp
    replace hle := Lib.hid hle
    replace hB := Lib.hid hB
    replace hS := Lib.hid hS
    by_cases hlt : j < l.length
    · obtain ⟨ad, A4, c4, A5, c5, A9, c9, rfl, q0, q1, q2, q3, q4, q5, q6, q7, q8, q9, hK, hl9, hk9⟩ := evt_at hC.out hlt
      replace q0 := pw_cell_below hB.out q0
      replace q1 := pw_cell_below hB.out q1
      replace q2 := pw_cell_below hB.out q2
      replace q3 := pw_cell_below hB.out q3
      replace q4 := pw_cell_below hB.out q4
      replace q5 := pw_cell_below hB.out q5
      replace q6 := pw_cell_below hB.out q6
      replace q7 := pw_cell_below hB.out q7
      replace q8 := pw_cell_below hB.out q8
      replace q9 := pw_cell_below hB.out q9
      replace hK := Lib.hid hK
      replace hl9 := Lib.hid hl9
      replace hk9 := Lib.hid hk9
      have hcall : Hid (∀ W, Below w.heap.size w W → Calls Tryz.prog 38 #[.agg #[.int .i64 l[j].f0, .int .i64 l[j].f1, .int .i64 l[j].f2, .int .u64 l[j].f3, .slice A4 l[j].f4.length c4, .slice A5 l[j].f5.length c5, .int .i64 l[j].f6.f0, .int .i64 l[j].f6.f1, .int .u64 l[j].f6.f2, .slice A9 l[j].f6.f3.length c9]] W fun e w' => e = .returned (.bool (mayB l[j])) ∧ Below W.heap.size W w') := fun W hb => may_any l[j] A4 c4 A5 c5 A9 c9 W (Kd.C_below hk9.out hb) hl9.out
      have hS1 : Hid (∀ W, Below wr.heap.size wr W → St w W w.heap.size cl) := fun W hb => by
        obtain ⟨vs, h⟩ := hS.out
        exact ⟨vs, h.below hb⟩
      go_wp2_with fail
      refine (hcall.out _ (below_then hB.out hB.out.size (below_alloc (Below.refl _ _) _))).mono ?_
      rintro e w1 ⟨rfl, hb⟩
      have b1 := Lib.hid ((below_alloc (Below.refl _ _) _ : Below wr.heap.size wr _).trans (hb.mono (by simp)))
      have hbk := blk_below (heap_alloc_new wr _) hb
      have e0 := blk_cell hbk 0
      have e1 := blk_cell hbk 1
      have e2 := blk_cell hbk 2
      have e3 := blk_cell hbk 3
      have e4 := blk_cell hbk 4
      have e5 := blk_cell hbk 5
      have e6 := blk_cell hbk 6
      have e7 := blk_cell hbk 7
      have e8 := blk_cell hbk 8
      have e9 := blk_cell hbk 9
      simp only [List.getElem?_toArray, List.getElem?_cons_zero, List.getElem?_cons_succ] at e0 e1 e2 e3 e4 e5 e6 e7 e8 e9
      clear hb
      replace hbk := Lib.hid hbk
      cases hm : mayB l[j]
      · have hfin := Lib.hid (below_then hB.out hB.out.size b1.out)
        have hr : Hid (properB l = false) := by
          rw [hp.out, List.drop_eq_getElem_cons hlt, properAt, stepB, hm]
          rfl
        go_wp2
        go_ret
        exact ⟨by rw [hr.out]; rfl, hfin.out⟩
      · obtain ⟨i0, i1, i2⟩ := mayB_in hm
        obtain ⟨u, hu⟩ : ∃ u : Nat, l[j].f1 = u := ⟨l[j].f1.toNat, by omega⟩
        have hu16 : u < 16 := by omega
        have hn2 := hn.out
        have hw : wrap64 ((j : Int) + 1) = ((j + 1 : Nat) : Int) := by rw [show (j : Int) + 1 = ((j + 1 : Nat) : Int) by omega]; exact IntWalk.wrap64_in _ (by omega)
        have huN : l[j].f1.toNat = u := by omega
        have hst := proper_step hlt hp.out
        unfold stepB stepC at hst
        rw [hm, Bool.true_and, huN] at hst
        clear hp
        cases h3 : (l[j].f0 == 3)
        · rw [if_neg (beq_eq_false_iff_ne.1 h3), if_neg (beq_eq_false_iff_ne.1 h3)] at hst
          by_cases hj2 : j + 1 < l.length
          · obtain ⟨ad2, B4, d4, B5, d5, B9, d9, he2, p0, p1, p2, _, _, _, _, _, _, _, _, _, _⟩ := evt_at hC.out hj2
            injection he2 with he2
            subst he2
            have hN : Hid (NextAt w (some (ad.add ((j + 1) * 10))) (some l[j + 1])) := ⟨p0, p1, p2⟩
            clear p0 p1 p2
            rw [List.getElem?_eq_getElem hj2] at hst
            replace hst := Lib.hid hst
            have hask := asks_any w w1 w.heap.size cl u hu16 l[j] A4 c4 A5 c5 A9 c9 j _ _ (hS1.out _ b1.out) hK.out (by have := hle.out u hu16; omega) hN.out
            rw [hu] at hask
            replace hask := Lib.hid hask
            go_wp2_with fail
            refine hask.out.mono ?_
            rintro e w2 ⟨rfl, hb2, hs2⟩
            replace hb2 := Lib.hid hb2
            replace hs2 := Lib.hid hs2
            cases hok : asksB (cl u) l[j] (some l[j + 1])
            · have hr : Hid (properB l = false) := by
                rw [hst.out, hok]
                rfl
              go_wp2
              go_ret
              exact ⟨by rw [hr.out]; rfl, hb2.out⟩
            · have hr : Hid (properB l = properAt (l.drop (j + 1)) ((j + 1 : Nat) : Int) (upd cl u (asksC (cl u) l[j] j))) := by
                have := hst.out
                rw [hok, Bool.true_and] at this
                exact this
              go_wp2
              go_roundw
              case rel => exact ⟨j + 1, _, by omega, by go_num, hr.out, lens_upd hle.out (by rw [asksC_len]; have := hle.out u hu16; omega), hb2.out, hs2.out hok⟩
              case measure => simp [intOf]; omega
          · rw [List.getElem?_eq_none (by omega)] at hst
            replace hst := Lib.hid hst
            have hask := asks_any w w1 w.heap.size cl u hu16 l[j] A4 c4 A5 c5 A9 c9 j none none (hS1.out _ b1.out) hK.out (by have := hle.out u hu16; omega) trivial
            rw [hu] at hask
            replace hask := Lib.hid hask
            go_wp2_with fail
            refine hask.out.mono ?_
            rintro e w2 ⟨rfl, hb2, hs2⟩
            replace hb2 := Lib.hid hb2
            replace hs2 := Lib.hid hs2
            cases hok : asksB (cl u) l[j] none
            · have hr : Hid (properB l = false) := by
                rw [hst.out, hok]
                rfl
              go_wp2
              go_ret
              exact ⟨by rw [hr.out]; rfl, hb2.out⟩
            · have hr : Hid (properB l = properAt (l.drop (j + 1)) ((j + 1 : Nat) : Int) (upd cl u (asksC (cl u) l[j] j))) := by
                have := hst.out
                rw [hok, Bool.true_and] at this
                exact this
              go_wp2
              go_roundw
              case rel => exact ⟨j + 1, _, by omega, by go_num, hr.out, lens_upd hle.out (by rw [asksC_len]; have := hle.out u hu16; omega), hb2.out, hs2.out hok⟩
              case measure => simp [intOf]; omega
        · rw [if_pos (beq_iff_eq.1 h3), if_pos (beq_iff_eq.1 h3)] at hst
          replace hst := Lib.hid hst
          have hask := answers_any w w1 w.heap.size cl u hu16 l[j] A4 c4 A5 c5 A9 c9 j (hS1.out _ b1.out) (by have := hle.out u hu16; omega) hl9.out hk9.out i2
          rw [hu] at hask
          replace hask := Lib.hid hask
          go_wp2_with fail
          refine hask.out.mono ?_
          rintro e w2 ⟨rfl, hb2, hs2⟩
          replace hb2 := Lib.hid hb2
          replace hs2 := Lib.hid hs2
          cases hok : ansB (cl u) l[j] j
          · have hr : Hid (properB l = false) := by
              rw [hst.out, hok]
              rfl
            go_wp2
            go_ret
            exact ⟨by rw [hr.out]; rfl, hb2.out⟩
          · have hr : Hid (properB l = properAt (l.drop (j + 1)) ((j + 1 : Nat) : Int) (upd cl u (ansC (cl u) l[j]))) := by
              have := hst.out
              rw [hok, Bool.true_and] at this
              exact this
            go_wp2
            go_roundw
            case rel => exact ⟨j + 1, _, by omega, by go_num, hr.out, lens_upd hle.out (by rw [ansC_len]; have := hle.out u hu16; omega), hb2.out, hs2.out hok⟩
            case measure => simp [intOf]; omega
    · go_wp2
      go_ret
      exact ⟨by rw [hp.out, List.drop_of_length_le (by omega)]; rfl, hB.out⟩
end Go.Proofs.YtiibjgnmdieicaaGreat.Hist
