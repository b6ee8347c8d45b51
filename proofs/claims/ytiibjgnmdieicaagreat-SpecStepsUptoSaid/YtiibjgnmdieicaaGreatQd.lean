/- judge: hear, walked. -/
import Derived.Test.YtiibjgnmdieicaaGreatQc
namespace Go.Proofs.YtiibjgnmdieicaaGreat.Hist
open Go.RowKit Go.Proofs.YtiibjgnmdieicaaGreatW.PrintWords Go.Sort
open Go.Maps (Keyed)
theorem zeroInt (w : World) : (zeroValue 3).run Tryz.prog w = .ok (.int .i64 0) w := by kernel_rfl
theorem zeroPtrW (w : World) : (zeroValue 147).run Tryz.prog w = .ok (.pointer none) w := by kernel_rfl
theorem hear_step {l : List Evt} {j : Nat} {s s0 : Hs} (hlt : j < l.length) (hp : hearAll l 0 s0 = hearAll (l.drop j) j s) : hearAll l 0 s0 = hearAll (l.drop (j + 1)) ((j + 1 : Nat) : Int) (hearS s j l[j]) := by
  rw [hp, List.drop_eq_getElem_cons hlt, hearAll]
  rfl
/-- what hear is handed -/
structure HearIn (l : List Evt) : Prop where
  few : l.length ≤ 1048576
  kind : ∀ j (h : j < l.length), l[j].f0 = 1 ∨ l[j].f0 = 2 ∨ l[j].f0 = 3
  c64 : ∀ j (h : j < l.length), in64 l[j].f1
  t64 : ∀ j (h : j < l.length), in64 l[j].f2
  prs : ∀ j (h : j < l.length), l[j].f4.length ≤ 1048576
theorem infoStr : (Tryz.prog.info? 9).map (fun i => (i.zero, i.size, i.bytes)) = some (some (.string ByteArray.empty), 1, 16) := by kernel_rfl
theorem infoPtrW : (Tryz.prog.info? 147).map (fun i => (i.zero, i.size, i.bytes)) = some (some (.pointer none), 1, 8) := by kernel_rfl
/-- a block of cells stays when a map is written -/
theorem blk_map {κ : Type} {P : Program} {k : TypeId} {kv : κ → Value} {W W1 : World} {b n : Nat} {f : κ → Option Value} (h : MapIs P k kv W b n f) (hg : W.grownBy W1 (some b)) {g : Nat} {t : TypeId} {c : Array Value} (hb : W.heap[g]? = some (.cells c t (0, 0))) : W1.heap[g]? = some (.cells c t (0, 0)) :=
  blk_grown hb hg (fun e => by
    injection e with e
    subst e
    exact h.no_cells hb)
theorem slice_of {α : Type} {R : α → List Value → Prop} {e size : Nat} {W : World} {base : Nat} {v : Value} {l : List α} (h : OwnRow R e size W base v l) {n : Nat} (hn : l.length = n) : ∃ A c, v = .slice A n c := by
  obtain ⟨A, c, e, _⟩ := h.slice_
  exact ⟨A, c, by rw [e, hn]⟩
theorem own_ge {α : Type} {R : α → List Value → Prop} {e size : Nat} {W : World} {base : Nat} {v : Value} {l : List α} (h : OwnRow R e size W base v l) : ∀ k, v.ownBlock = some k → base ≤ k := fun k hk => by
  obtain ⟨inner, ho, _⟩ := h
  exact own_base ho k hk
theorem evt_open {w : World} {x : Evt} {A4 : Option Addr} {c4 : Nat} {A5 : Option Addr} {c5 : Nat} {A9 : Option Addr} {c9 : Nat} (hK : kEvt.K w x [.int .i64 x.f0, .int .i64 x.f1, .int .i64 x.f2, .int .u64 x.f3, .slice A4 x.f4.length c4, .slice A5 x.f5.length c5, .int .i64 x.f6.f0, .int .i64 x.f6.f1, .int .u64 x.f6.f2, .slice A9 x.f6.f3.length c9]) :
    x.f4.length ≤ c4 ∧ Kd.C kPai w A4 x.f4.length x.f4 ∧ x.f5.length ≤ c5 ∧ Kd.C Kd.string w A5 x.f5.length x.f5 ∧ x.f6.f3.length ≤ c9 ∧ Kd.C kVer w A9 x.f6.f3.length x.f6.f3 := by
  obtain ⟨A4', c4', A5', c5', A9', c9', he, l4, g4, l5, g5, l9, g9⟩ := G.k38_open hK
  simp only [List.cons.injEq, Value.slice.injEq] at he
  obtain ⟨_, _, _, _, ⟨rfl, _, rfl⟩, ⟨rfl, _, rfl⟩, _, _, _, ⟨rfl, _, rfl⟩, _⟩ := he
  exact ⟨l4, g4, l5, g5, l9, g9⟩
section
variable {P : Program} {ops : Array Oper} {o : Oper} {a : Act} {K : Act → World → Prop} {Q : Exit → Act → World → Prop} {α : Type} {R : α → List Value → Prop}
/-- append at a drawing region's step, the slice's shape written out -/
theorem append_shape {w0 W : World} (base : Nat) (hw : Region.wanted o (yielded ops a.tmps) = true) (s x : Operand) (t e : TypeId) (z : Value) (size bytes : Nat)
    (ho : o.op = .call { callee := .builtin .append, args := #[s, x], argTypes := #[t, t] })
    (ht : P.underlying t = some (.slice e)) (hinfo : (P.info? e).map (fun i => (i.zero, i.size, i.bytes)) = some (some z, size, bytes)) (hz : z.cells.size = size) (hs0 : 0 < size) (hb0 : 0 < bytes)
    (v : Value) (ps : List α) (p : α) (cs : List Value) (hs : a.eval s = v) (hx : a.eval x = .slice (some ⟨W.heap.size, 0, none⟩) 1 1) (hp : R p cs) (hcs : cs.length = size) (h1 : ∀ u ∈ cs, u.oneCell' = true)
    (HO : OwnRow R e size W base v ps) (HB : Below base w0 W) (hbase : base ≤ W.heap.size) (hl : (ps.length + 1) * bytes ≤ 140737488355328) (n : Nat) (hn : (ps ++ [p]).length = n)
    (h : ∀ A1 c1 w1, OwnRow R e size w1 base (.slice A1 n c1) (ps ++ [p]) → Below base w0 w1 → W.grownBy w1 v.ownBlock → K (a.put o.dst (.slice A1 n c1)) w1) :
    if Region.wanted o (yielded ops a.tmps) = true then Oper.wp P o a (W.alloc (.cells cs.toArray e)) K Q else K (a.put o.dst undef) (W.alloc (.cells cs.toArray e)) :=
  OwnRow.append_step base hw s x t e z size bytes ho ht hinfo hz hs0 hb0 v ps p cs hs hx hp hcs h1 HO HB hbase hl fun v1 w1 own1 bel1 gr1 _ => by
    obtain ⟨A1, c1, rfl⟩ := slice_of own1 hn
    exact h A1 c1 w1 own1 bel1 gr1
end
section
variable {P : Program} {ops : Array Oper} {rest : List Oper} {o : Oper} {a : Act} {Q : Exit → Act → World → Prop} {α : Type} {R : α → List Value → Prop}
/-- append at a plain region's operation, the slice's shape written out -/
theorem append_plain {w0 W : World} (base : Nat) (hgd : o.guard = none) (s x : Operand) (t e : TypeId) (z : Value) (size bytes : Nat)
    (ho : o.op = .call { callee := .builtin .append, args := #[s, x], argTypes := #[t, t] })
    (ht : P.underlying t = some (.slice e)) (hinfo : (P.info? e).map (fun i => (i.zero, i.size, i.bytes)) = some (some z, size, bytes)) (hz : z.cells.size = size) (hs0 : 0 < size) (hb0 : 0 < bytes)
    (v : Value) (ps : List α) (p : α) (cs : List Value) (hs : a.eval s = v) (hx : a.eval x = .slice (some ⟨W.heap.size, 0, none⟩) 1 1) (hp : R p cs) (hcs : cs.length = size) (h1 : ∀ u ∈ cs, u.oneCell' = true)
    (HO : OwnRow R e size W base v ps) (HB : Below base w0 W) (hbase : base ≤ W.heap.size) (hl : (ps.length + 1) * bytes ≤ 140737488355328) (n : Nat) (hn : (ps ++ [p]).length = n)
    (h : ∀ A1 c1 w1, OwnRow R e size w1 base (.slice A1 n c1) (ps ++ [p]) → Below base w0 w1 → W.grownBy w1 v.ownBlock → wpList P ops Q rest (a.put o.dst (.slice A1 n c1)) w1) :
    wpList P ops Q (o :: rest) a (W.alloc (.cells cs.toArray e)) :=
  OwnRow.append base hgd s x t e z size bytes ho ht hinfo hz hs0 hb0 v ps p cs hs hx hp hcs h1 HO HB hbase hl fun v1 w1 own1 bel1 gr1 _ => by
    obtain ⟨A1, c1, rfl⟩ := slice_of own1 hn
    exact h A1 c1 w1 own1 bel1 gr1
end
theorem oneP (b : Nat) : ∀ u ∈ ([.pointer (some ⟨b, 0, none⟩)] : List Value), u.oneCell' = true := by
  intro u hu
  simp at hu
  subst hu
  rfl
theorem HS.lt {w0 W : World} {Bc Ba Bb : Nat} {rv : Value} {bs : List Nat} {na nb : Nat} {s : Hs} (h : HS w0 W Bc Ba Bb rv bs na nb s) : W.heap.size ∉ bs := fun hb => by
  obtain ⟨i, hi, e⟩ := List.getElem_of_mem hb
  have hl : i < s.ws.length := by rw [← h.len]; exact hi
  obtain ⟨_, _, _, hB, _⟩ := h.wr i bs[i] s.ws[i] (List.getElem?_eq_getElem hi) (List.getElem?_eq_getElem hl)
  have := blk_lt hB
  omega
/-- a key is appended to the keys of the write in the making -/
theorem keepK {w2 W w1 : World} {v v1 : Value} {ks ks1 : List ByteArray} {a0 a1 a2 a4 a5 : Value} (hrow : OwnRow RS tS 1 W w2.heap.size v ks) (hX : W.heap[w2.heap.size]? = some (.cells #[a0, a1, a2, v, a4, a5] tW (0, 0))) (hg : W.grownBy w1 v.ownBlock)
    (own1 : OwnRow RS tS 1 w1 w2.heap.size v1 ks1) (bel1 : Below w2.heap.size w2 w1) : w1.cell? ⟨w2.heap.size, 3, none⟩ = some v ∧ w1.frozen? ⟨w2.heap.size, 3, none⟩ = false ∧ (Below w2.heap.size w2 (w1.setCell ⟨w2.heap.size, 3, none⟩ v1) ∧ (w1.setCell ⟨w2.heap.size, 3, none⟩ v1).heap[w2.heap.size]? = some (.cells #[a0, a1, a2, v1, a4, a5] tW (0, 0)) ∧ OwnRow RS tS 1 (w1.setCell ⟨w2.heap.size, 3, none⟩ v1) w2.heap.size v1 ks1) := by
  have h1 : w1.heap[w2.heap.size]? = some (.cells #[a0, a1, a2, v, a4, a5] tW (0, 0)) := blk_grown hX hg (hrow.ne_block hX (by decide))
  exact ⟨blk_cell h1 3, blk_frozen h1 3, below_set_ bel1 (Nat.le_refl _) _, by simpa using blk_set h1 3 v1, own1.set_ h1 (by decide) _ _⟩
theorem oneS (k : ByteArray) : ∀ u ∈ ([.string k] : List Value), u.oneCell' = true := by
  intro u hu
  simp at hu
  subst hu
  rfl
/-- the keys of a write in the making -/
def RelK (w2 : World) (place id : Int) (A4 : Option Addr) (c4 : Nat) (l4 : List Pai) (s51 : Value) (wr : World) : Prop :=
  ∃ (t : Nat) (A : Option Addr) (c : Nat), t ≤ l4.length ∧ s51 = .int .i64 t ∧ Below w2.heap.size w2 wr ∧ wr.heap[w2.heap.size]? = some (.cells #[.int .i64 place, .int .u64 id, .slice A4 l4.length c4, .slice A t c, .int .i64 0, .int .i64 0] tW (0, 0)) ∧ OwnRow RS tS 1 wr w2.heap.size (.slice A t c) ((l4.take t).map fun p => p.f0)
def RelH (w : World) (l : List Evt) (s21 : Value) (wr : World) : Prop :=
  ∃ (j : Nat) (s : Hs) (rv : Value) (bs : List Nat) (na nb : Nat), j ≤ l.length ∧ s21 = .int .i64 j ∧ hearAll l 0 hs0 = hearAll (l.drop j) j s ∧ HS w wr w.heap.size (w.heap.size + 1) (w.heap.size + 2) rv bs na nb s ∧ na ≤ j ∧ nb ≤ j ∧ s.ws.length ≤ j
theorem hs_start (w : World) : HS w (((w.alloc (.cells #[.slice none 0 0] 145)).alloc (.map #[] 0)).alloc (.map #[] 0)) w.heap.size (w.heap.size + 1) (w.heap.size + 2) (.slice none 0 0) [] 0 0 hs0 := by
  have h1 : Below w.heap.size w (w.alloc (.cells #[.slice none 0 0] 145)) := below_alloc (Below.refl _ _) _
  have h2 : ∀ (W : World) (o : Obj), Below W.heap.size W (W.alloc o) := fun W o => below_alloc (Below.refl _ _) _
  have m1 := MapIs.made Tryz.prog tQ kvReq (w.alloc (.cells #[.slice none 0 0] 145))
  have m2 := MapIs.made Tryz.prog tQ kvReq ((w.alloc (.cells #[.slice none 0 0] 145)).alloc (.map #[] 0))
  refine ⟨blk_below (blk_below (heap_alloc_new w _) (h2 _ _)) (h2 _ _), OwnRow.none_ _ _ _ _ _, ?_, ?_, fun q n h => (by cases h), rfl, fun i b x h _ => (by simp at h), fun i j b h _ => (by simp at h), fun b h => (by simp at h), ⟨Nat.le_refl _, by omega, by omega⟩, by omega, below_then (below_then h1 h1.size (h2 _ _)) (Nat.le_trans h1.size (h2 _ _).size) (h2 _ _)⟩
  · have h3 := m1.below (h2 _ (.map #[] 0))
    rw [show (w.alloc (.cells #[.slice none 0 0] 145)).heap.size = w.heap.size + 1 by simp] at h3
    exact h3
  · rw [show ((w.alloc (.cells #[.slice none 0 0] 145)).alloc (.map #[] 0)).heap.size = w.heap.size + 2 by simp] at m2
    exact m2
set_option maxHeartbeats 16000000 in
set_option maxRecDepth 100000 in
theorem hear_any (A : Option Addr) (c : Nat) (l : List Evt) (w : World) (hC : kEvt.C w A l.length l) (hI : HearIn l) :
    Calls Tryz.prog 65 #[.slice A l.length c] w fun e w' => ∃ Bc Ba n, e = .returned (.tuple #[.pointer (some ⟨Bc, 0, none⟩), .map (some Ba)]) ∧ CourtAt w' Bc (hearAll l 0 hs0).ws ∧ MapIs Tryz.prog tQ kvReq w' Ba n (fun q => ((hearAll l 0 hs0).at_ q).map (Value.int .i64)) ∧ Below w.heap.size w w' := by
  have hst := Lib.hid (hs_start w)
  have hm : l.length ≤ 9223372036854775807 := hC.2.1
  replace hC := Lib.hid hC
  replace hI := Lib.hid hI
  have hmm := @run_makeMap Tryz.prog
  go_enter Tryz.func65, Tryz.ntmps65
  go_wp2
  go_loopw [21] (fun s wr => RelH w l s wr) (fun s _ => l.length - (intOf s).toNat)
  case atStart => exact ⟨0, hs0, _, [], 0, 0, Nat.zero_le _, rfl, rfl, hst.out, Nat.le_refl _, Nat.le_refl _, Nat.le_refl _⟩
  case round =>
    clear hmm hst
    obtain ⟨j, s, rv, bs, na, nb, hj, rfl, hp, hS, hna, hnb, hwl⟩ := hrel
    by_cases hlt : j < l.length
    · have hjl := hI.out.few
      have hkind := hI.out.kind j hlt
      have hq64 := keyReq (qOf l[j]) (hI.out.c64 j hlt) (hI.out.t64 j hlt)
      obtain ⟨ad, A4, c4, A5, c5, A9, c9, rfl, q0, q1, q2, q3, q4, q5, q6, q7, q8, q9, hK, hl9, hk9⟩ := evt_at hC.out hlt
      have hb0 := hS.bel
      replace q0 := pw_cell_below hb0 q0
      replace q1 := pw_cell_below hb0 q1
      replace q2 := pw_cell_below hb0 q2
      replace q3 := pw_cell_below hb0 q3
      replace q4 := pw_cell_below hb0 q4
      replace q5 := pw_cell_below hb0 q5
      replace q6 := pw_cell_below hb0 q6
      replace q7 := pw_cell_below hb0 q7
      replace q8 := pw_cell_below hb0 q8
      replace q9 := pw_cell_below hb0 q9
      have hstep := hear_step hlt hp
      clear hp hb0 hk9 hl9
      replace hK := Lib.hid hK
      have hsz : w.heap.size + 2 < wr.heap.size := hS.mb.lt
      have hS1 := hS.below (below2 wr (.cells #[.int .i64 l[j].f0, .int .i64 l[j].f1, .int .i64 l[j].f2, .int .u64 l[j].f3, .slice A4 l[j].f4.length c4, .slice A5 l[j].f5.length c5, .int .i64 l[j].f6.f0, .int .i64 l[j].f6.f1, .int .u64 l[j].f6.f2, .slice A9 l[j].f6.f3.length c9] 38) (.cells #[.int .i64 l[j].f1, .int .i64 l[j].f2] 128))
      replace hS1 := Lib.hid hS1
      have hin := Lib.hid hS.inb
      clear hS
      unfold hearS at hstep
      rcases hkind with k1 | k1 | k1
      · have b1 : (l[j].f0 == 1) = true := beq_iff_eq.2 k1
        rw [if_pos k1] at hstep
        replace k1 := Lib.hid k1
        have hE1 := blk_below (heap_alloc_new wr (.cells #[.int .i64 l[j].f0, .int .i64 l[j].f1, .int .i64 l[j].f2, .int .u64 l[j].f3, .slice A4 l[j].f4.length c4, .slice A5 l[j].f5.length c5, .int .i64 l[j].f6.f0, .int .i64 l[j].f6.f1, .int .u64 l[j].f6.f2, .slice A9 l[j].f6.f3.length c9] 38)) (below_alloc (Below.refl _ _) (.cells #[.int .i64 l[j].f1, .int .i64 l[j].f2] 128))
        have hQ1 := heap_alloc_new (wr.alloc (.cells #[.int .i64 l[j].f0, .int .i64 l[j].f1, .int .i64 l[j].f2, .int .u64 l[j].f3, .slice A4 l[j].f4.length c4, .slice A5 l[j].f5.length c5, .int .i64 l[j].f6.f0, .int .i64 l[j].f6.f1, .int .u64 l[j].f6.f2, .slice A9 l[j].f6.f3.length c9] 38)) (.cells #[.int .i64 l[j].f1, .int .i64 l[j].f2] 128)
        rw [World.size_alloc] at hQ1
        replace hE1 := Lib.hid hE1
        replace hQ1 := Lib.hid hQ1
        by_cases h0 : l[j].f3 = 0
        · have b0 : (l[j].f3 != 0) = false := by simp [h0]
          rw [if_pos h0] at hstep
          replace h0 := Lib.hid h0
          replace hstep := Lib.hid hstep
          replace hq64 := Lib.hid hq64
          go_wp2_with (first | (at_mapUpdate; refine wpList_put_map (κ := Int × Int) rfl _ _ _ 118 rfl 3 keyedReq kvReq_inj Tryz.underlying118 rfl hS1.out.ma (by unfold maxLen; omega) (qOf l[j]) _ rfl rfl hq64.out ?_; intro w2 hm2 hg2; have hS2 := Lib.hid (hS1.out.putA hg2 hm2); have hE2 := blk_map hS1.out.ma hg2 hE1.out; have hQ2 := blk_map hS1.out.ma hg2 hQ1.out; have z1 := blk_lt hE2; have z2 := blk_lt hQ2; have r3 := blk_cell hE2 3; have r4 := blk_cell hE2 4; simp only [List.getElem?_toArray, List.getElem?_cons_zero, List.getElem?_cons_succ] at r3 r4; replace hE2 := Lib.hid hE2; replace hQ2 := Lib.hid hQ2; clear hm2 hg2) | go_in)
          go_wp2
          go_roundw
          case rel => exact ⟨j + 1, _, _, _, _, _, by omega, by go_num, hstep.out, hS2.out, by omega, by omega, Nat.le_succ_of_le hwl⟩
          case measure => simp [intOf]; omega
        · have b0 : (l[j].f3 != 0) = true := by simp [h0]
          rw [if_neg h0] at hstep
          replace h0 := Lib.hid h0
          replace hstep := Lib.hid hstep
          replace hq64 := Lib.hid hq64
          go_wp2_with (first | (at_mapUpdate; refine wpList_put_map (κ := Int × Int) rfl _ _ _ 118 rfl 3 keyedReq kvReq_inj Tryz.underlying118 rfl hS1.out.ma (by unfold maxLen; omega) (qOf l[j]) _ rfl rfl hq64.out ?_; intro w2 hm2 hg2; have hS2 := Lib.hid (hS1.out.putA hg2 hm2); have hE2 := blk_map hS1.out.ma hg2 hE1.out; have hQ2 := blk_map hS1.out.ma hg2 hQ1.out; have z1 := blk_lt hE2; have z2 := blk_lt hQ2; have r3 := blk_cell hE2 3; have r4 := blk_cell hE2 4; simp only [List.getElem?_toArray, List.getElem?_cons_zero, List.getElem?_cons_succ] at r3 r4; replace hE2 := Lib.hid hE2; replace hQ2 := Lib.hid hQ2; clear hm2 hg2) | go_in)
          clear q0 q1 q2 q3 q4 q5 q6 q7 q8 q9 hS1 hE1 hQ1
          generalize wr.heap.size = E0 at *
          clear wr
          obtain ⟨_, hP4, _⟩ := evt_open hK.out
          have hl4 := hI.out.prs j hlt
          have hm4 : l[j].f4.length ≤ 9223372036854775807 := hP4.2.1
          have hnw : newW j l[j] = ⟨j, l[j].f3, l[j].f4, compS (sortS (l[j].f4.map fun p => p.f0)), 0, 0⟩ := rfl
          generalize newW j l[j] = nw at *
          generalize l[j].f4 = l4 at *
          generalize l[j].f3 = id at *
          replace hnw := Lib.hid hnw
          replace hP4 := Lib.hid hP4
          have hq1 : qOf l[j] = (l[j].f1, l[j].f2) := rfl
          generalize qOf l[j] = q at *
          generalize l[j].f1 = cli at *
          generalize l[j].f2 = txn at *
          subst hq1
          obtain ⟨RA, rc, rfl⟩ := slice_of hS2.out.row rfl
          have hX0 := Lib.hid (heap_alloc_new w2 (.cells #[.int .i64 j, .int .u64 id, .slice A4 l4.length c4, .slice none 0 0, .int .i64 0, .int .i64 0] 149))
          have hXb := Lib.hid (below_alloc (Below.refl _ _) (.cells #[.int .i64 j, .int .u64 id, .slice A4 l4.length c4, .slice none 0 0, .int .i64 0, .int .i64 0] 149) : Below w2.heap.size w2 _)
          go_wp2
          go_loopw [51] (fun s51 wr2 => RelK w2 j id A4 c4 l4 s51 wr2) (fun s51 _ => l4.length - (intOf s51).toNat)
          case atStart => exact ⟨0, none, 0, Nat.zero_le _, rfl, hXb.out, hX0.out, OwnRow.none_ _ _ _ _ _⟩
          case round =>
            obtain ⟨t, KA, kc, ht, rfl, hbK, hXK, hrow⟩ := hrel
            by_cases htl : t < l4.length
            · obtain ⟨pd, rfl, p0, p1⟩ := pair_at (Kd.C_below hP4.out (below_then hS2.out.bel hS2.out.bel.size hbK)) htl
              have hP := heap_alloc_new wr (.cells #[.string l4[t].f0, .string l4[t].f1] 75)
              have hb3 : Below wr.heap.size wr (wr.alloc (.cells #[.string l4[t].f0, .string l4[t].f1] 75)) := below_alloc (Below.refl _ _) _
              have hX3 := blk_below hXK hb3
              have hr3 := hrow.below hb3
              have hK3 := below_then hbK hbK.size hb3
              have hs3 : ((l4.take t).map fun p => p.f0) ++ [l4[t].f0] = (l4.take (t + 1)).map fun p => p.f0 := by rw [← List.take_append_getElem htl, List.map_append]; rfl
              have hlen : (((l4.take t).map fun p => p.f0) ++ [l4[t].f0]).length = t + 1 := by simp; omega
              have s5 : (((l4.take t).map fun p => p.f0).length + 1) * 16 ≤ 140737488355328 := by simp; omega
              replace hs3 := Lib.hid hs3
              replace hlen := Lib.hid hlen
              replace hb3 := Lib.hid hb3
              replace hrow := Lib.hid hrow
              replace hX3 := Lib.hid hX3
              replace hr3 := Lib.hid hr3
              replace hK3 := Lib.hid hK3
              replace hP := Lib.hid hP
              replace s5 := Lib.hid s5
              replace hbK := Lib.hid hbK
              replace hXK := Lib.hid hXK
              go_wp2
              have c0 := blk_cell hP.out 0
              have x3 := blk_cell hX3.out 3
              have z3 := blk_frozen hX3.out 3
              have l0 := blk_lt hP.out
              have l1 := blk_lt hX3.out
              simp only [List.getElem?_toArray, List.getElem?_cons_zero, List.getElem?_cons_succ] at c0 x3
              clear hb3 hrow hbK hXK hP p0 p1
              generalize (wr.alloc (.cells #[.string l4[t].f0, .string l4[t].f1] 75)) = W3 at *
              generalize wr.heap.size = P0 at *
              clear wr
              have bd : Below W3.heap.size W3 W3.drew := below_drew (Below.refl _ _)
              have rD := Lib.hid (hr3.out.below bd)
              have xD := Lib.hid (blk_below hX3.out bd)
              have sB := Lib.hid (below_then hK3.out hK3.out.size bd)
              clear bd hr3 hX3 hK3
              generalize l4[t].f0 = k0 at *
              go_region_law (refine append_shape (P := Tryz.prog) (R := RS) (w0 := w2) (W := W3.drew) w2.heap.size rfl (.tmp 59) (.tmp 62) 33 9 (.string ByteArray.empty) 1 16 rfl Tryz.underlying33 infoStr rfl (by decide) (by decide) (.slice KA t kc) ((l4.take t).map fun p => p.f0) k0 [.string k0] (by simp [Act.eval]) (by simp [Act.eval]) rfl rfl (oneS k0) (by exact rD.out) (by exact sB.out) (by exact sB.out.size) (by exact s5.out) (t + 1) (by exact hlen.out) ?_; intro A1 cc1 w1 own1 bel1 gr1; obtain ⟨g0, g1, g2⟩ := keepK rD.out xD.out gr1 own1 bel1; replace g2 := Lib.hid g2; clear own1 bel1 gr1)
              all_goals
                go_wp2
                go_roundw
                case rel => exact ⟨t + 1, A1, cc1, by omega, by go_num, g2.out.1, g2.out.2.1, by rw [← hs3.out]; exact g2.out.2.2⟩
                case measure => simp [intOf]; omega
            · obtain rfl : t = l4.length := by omega
              rw [List.take_of_length_le (Nat.le_refl _)] at hrow
              have hbw : ∀ {W : World}, Below w2.heap.size w2 W → ∀ {o : Obj} {g : Nat}, w2.heap[g]? = some o → W.heap[g]? = some o := fun hb _ _ hg => blk_below hg hb
              have hsort := sortRow_any wr w2.heap.size _ _ hrow (by simp; omega)
              have x3 := blk_cell hXK 3
              have l1 := blk_lt hXK
              simp only [List.getElem?_toArray, List.getElem?_cons_zero, List.getElem?_cons_succ] at x3
              have hge := own_ge hrow
              have hXn := hrow.ne_block hXK (by decide)
              replace hsort := Lib.hid hsort
              replace hrow := Lib.hid hrow
              replace hbK := Lib.hid hbK
              replace hXK := Lib.hid hXK
              go_wp2_with fail
              refine hsort.out.mono ?_
              rintro e W4 ⟨rfl, hr4, hg4⟩
              have hB4 := pw_below_grown hbK.out _ hbK.out.size hg4 hge
              have hX4 := blk_grown hXK.out hg4 hXn
              have hcomp := compactRow_any W4 w2.heap.size _ _ hr4 (by rw [sortS_len]; simp; omega)
              have x4 := blk_cell hX4 3
              have l4' := blk_lt hX4
              simp only [List.getElem?_toArray, List.getElem?_cons_zero, List.getElem?_cons_succ] at x4
              clear x3 l1 hr4 hg4 hsort hrow hbK hXK
              replace hcomp := Lib.hid hcomp
              replace hB4 := Lib.hid hB4
              replace hX4 := Lib.hid hX4
              clear wr
              go_wp2_with fail
              refine hcomp.out.mono ?_
              rintro e W5 ⟨v5, rfl, hr5, hg5, hv5⟩
              obtain ⟨A5', c5', rfl⟩ := slice_of hr5 rfl
              have hB5 := pw_below_grown hB4.out _ hB4.out.size hg5 hge
              have hX5 := blk_grown hX4.out hg5 hXn
              have hX6 := blk_set hX5 3 (.slice A5' (compS (sortS (l4.map fun p => p.f0))).length c5')
              have hr6 := hr5.set_ hX5 (by decide) 3 (.slice A5' (compS (sortS (l4.map fun p => p.f0))).length c5')
              have hB6 := below_set_ hB5 (p := ⟨w2.heap.size, 3, none⟩) (Nat.le_refl _) (.slice A5' (compS (sortS (l4.map fun p => p.f0))).length c5')
              have hS6 := hS2.out.below hB6
              have hw6 : WrB w (W5.setCell ⟨w2.heap.size, 3, none⟩ (.slice A5' (compS (sortS (l4.map fun p => p.f0))).length c5')) w2.heap.size nw := by
                rw [hnw.out]
                exact ⟨A4, c4, _, by simpa using hX6, hP4.out, hr6.lower hS2.out.bel.size⟩
              have hQ6 := blk_below hQ2.out hB6
              have x5 := blk_cell hX5 3
              have z5 := blk_frozen hX5 3
              have l5 := blk_lt hX5
              simp only [List.getElem?_toArray, List.getElem?_cons_zero, List.getElem?_cons_succ] at x5
              have xB := blk_cell (blk_below hS2.out.bc hB5) 0
              simp only [List.getElem?_toArray, List.getElem?_cons_zero] at xB
              have nB : w.heap.size ≠ w2.heap.size := by omega
              have s5 : (bs.length + 1) * 8 ≤ 140737488355328 := by
                have h7 : bs.length = s.ws.length := hS2.out.len
                omega
              have hnX := hS2.out.lt
              clear x4 l4' hr5 hg5 hcomp hB4 hX4 hX5 hX6 hr6 hB5 hB6
              replace hS6 := Lib.hid hS6
              replace hw6 := Lib.hid hw6
              replace hQ6 := Lib.hid hQ6
              replace s5 := Lib.hid s5
              replace hnX := Lib.hid hnX
              clear W4
              generalize (compS (sortS (l4.map fun p => p.f0))).length = kn at *
              have hone := Lib.hid (oneP w2.heap.size)
              have hln := Lib.hid (by simp : (bs ++ [w2.heap.size]).length = bs.length + 1)
              have nQ : E0 + 1 ≠ w.heap.size := by omega
              have hXw := Lib.hid (by omega : w.heap.size ≤ w2.heap.size)
              have hmx : nb < maxLen := by unfold maxLen; omega
              replace hmx := Lib.hid hmx
              clear hin hE2 hK
              go_wp2_with (first
                | (at_builtin; refine append_plain (P := Tryz.prog) (R := RB) (w0 := w) (W := W5.setCell ⟨w2.heap.size, 3, none⟩ (.slice A5' kn c5')) w.heap.size rfl (.tmp 84) (.tmp 86) 143 147 (.pointer none) 1 8 rfl Tryz.underlying143 infoPtrW rfl (by decide) (by decide) (.slice RA bs.length rc) bs w2.heap.size [.pointer (some ⟨w2.heap.size, 0, none⟩)] rfl (by simp [Act.eval]) rfl rfl (by exact hone.out) (by exact hS6.out.row) (by exact hS6.out.bel) (by exact hS6.out.bel.size) (by exact s5.out) (bs.length + 1) (by exact hln.out) ?_; intro A7 c7 W7 own7 bel7 gr7; have hS8 := Lib.hid (hS6.out.push hXw.out hnX.out hw6.out gr7 own7); have ho7 := Off.row hS6.out.row; have hB7 := blk_grown hS6.out.bc gr7 (ho7.ne hS6.out.bc (by decide)); have hQ7 := blk_grown hQ6.out gr7 (ho7.ne hQ6.out (by decide)); have x7 := blk_cell hB7 0; have z7 := blk_frozen hB7 0; have l7 := blk_lt hB7; have y0 := blk_cell hQ7 0; have y1 := blk_cell hQ7 1; simp only [List.getElem?_toArray, List.getElem?_cons_zero, List.getElem?_cons_succ] at x7 y0 y1; replace hQ7 := Lib.hid hQ7; clear own7 bel7 gr7 ho7 hB7)
                | (at_mapUpdate; refine wpList_put_map (κ := Int × Int) rfl _ _ _ 146 rfl 147 keyedReq kvReq_inj Tryz.underlying146 rfl (by exact hS8.out.mb) (by exact hmx.out) (cli, txn) (.pointer (some ⟨w2.heap.size, 0, none⟩)) rfl rfl (by exact hq64.out) ?_; intro W9 hm9 hg9; have hS9 := Lib.hid (hS8.out.putB (m := s.ws.length) (b := w2.heap.size) (by simp) (by rw [List.getD_eq_getElem?_getD, List.getElem?_append_right (by rw [← hS6.out.len]; exact Nat.le_refl _)]; simp [← hS6.out.len]) hg9 hm9); clear hm9 hg9)
                | go_in)
              go_roundw
              case rel => exact ⟨j + 1, _, _, _, _, _, by omega, by go_num, hstep.out, hS9.out, by omega, by omega, (by show (s.ws ++ [nw]).length ≤ _; simp; omega)⟩
              case measure => simp [intOf]; omega
      · have b1 : (l[j].f0 == 1) = false := by rw [k1]; rfl
        have b2 : (l[j].f0 == 2) = true := beq_iff_eq.2 k1
        rw [if_neg (by omega), if_pos k1] at hstep
        replace k1 := Lib.hid k1
        replace hstep := Lib.hid hstep
        replace hq64 := Lib.hid hq64
        go_wp2_with (first | (at_mapUpdate; refine wpList_put_map (κ := Int × Int) rfl _ _ _ 118 rfl 3 keyedReq kvReq_inj Tryz.underlying118 rfl hS1.out.ma (by unfold maxLen; omega) (qOf l[j]) _ rfl rfl hq64.out ?_; intro w2 hm2 hg2) | go_in)
        have hS2 := Lib.hid (hS1.out.putA hg2 hm2)
        clear hm2 hg2
        go_wp2
        go_roundw
        case rel => exact ⟨j + 1, _, _, _, _, _, by omega, by go_num, hstep.out, hS2.out, by omega, by omega, Nat.le_succ_of_le hwl⟩
        case measure => simp [intOf]; omega
      · have b1 : (l[j].f0 == 1) = false := by rw [k1]; rfl
        have b2 : (l[j].f0 == 2) = false := by rw [k1]; rfl
        have b3 : (l[j].f0 == 3) = true := beq_iff_eq.2 k1
        rw [if_neg (by omega), if_neg (by omega)] at hstep
        replace k1 := Lib.hid k1
        replace hq64 := Lib.hid hq64
        cases hby : s.by_ (qOf l[j]) with
        | none =>
          rw [hby] at hstep
          replace hstep := Lib.hid hstep
          have hl1 : (((s.by_ (qOf l[j])).map fun n => Value.pointer (some ⟨bs.getD n 0, 0, none⟩)).getD (.pointer none) = .pointer none) ∧ ((s.by_ (qOf l[j])).map fun n => Value.pointer (some ⟨bs.getD n 0, 0, none⟩)).isSome = false := by rw [hby]; exact ⟨rfl, rfl⟩
          replace hl1 := Lib.hid hl1
          replace hby := Lib.hid hby
          go_wp2_with (first | (at_lookup; refine wpList_look2_map (κ := Int × Int) rfl _ _ 146 rfl 147 keyedReq Tryz.underlying146 (zeroPtrW _) rfl hS1.out.mb (qOf l[j]) rfl hq64.out _ _ hl1.out.1 hl1.out.2 ?_) | go_in)
          go_wp2
          go_roundw
          case rel => exact ⟨j + 1, _, _, _, _, _, by omega, by go_num, hstep.out, hS1.out, by omega, by omega, Nat.le_succ_of_le hwl⟩
          case measure => simp [intOf]; omega
        | some m =>
          have hml := hin.out _ _ hby
          rw [hby] at hstep
          replace hstep := Lib.hid hstep
          have hl1 : (((s.by_ (qOf l[j])).map fun n => Value.pointer (some ⟨bs.getD n 0, 0, none⟩)).getD (.pointer none) = .pointer (some ⟨bs.getD m 0, 0, none⟩)) ∧ ((s.by_ (qOf l[j])).map fun n => Value.pointer (some ⟨bs.getD n 0, 0, none⟩)).isSome = true := by rw [hby]; exact ⟨rfl, rfl⟩
          replace hl1 := Lib.hid hl1
          replace hby := Lib.hid hby
          obtain ⟨xA, xc, xv, hxB⟩ : ∃ xA xc xv, _ := by
            have hlen := hS1.out.len
            obtain ⟨xA, xc, xv, hB, _⟩ := hS1.out.wr m (bs.getD m 0) s.ws[m] (by simp [List.getD_eq_getElem?_getD, show m < bs.length by omega]) (List.getElem?_eq_getElem hml)
            exact ⟨xA, xc, xv, hB⟩
          have hx4 := blk_cell hxB 4
          have hx5 := blk_cell hxB 5
          have hf4 := blk_frozen hxB 4
          have hf5 := blk_frozen hxB 5
          simp only [List.getElem?_toArray, List.getElem?_cons_zero, List.getElem?_cons_succ] at hx4 hx5
          replace hxB := Lib.hid hxB
          have hS2 := Lib.hid (hS1.out.mark hml l[j].f6.f1 j)
          generalize bs.getD m 0 = b at *
          go_wp2_with (first | (at_lookup; refine wpList_look2_map (κ := Int × Int) rfl _ _ 146 rfl 147 keyedReq Tryz.underlying146 (zeroPtrW _) rfl hS1.out.mb (qOf l[j]) rfl hq64.out _ _ hl1.out.1 hl1.out.2 ?_) | go_in)
          go_wp2
          go_roundw
          case rel => exact ⟨j + 1, _, _, _, _, _, by omega, by go_num, hstep.out, hS2.out, by omega, by omega, (by show (s.ws.modify m _).length ≤ _; rw [List.length_modify]; omega)⟩
          case measure => simp [intOf]; omega
    · have hend : hearAll l 0 hs0 = s := by
        rw [hp, List.drop_of_length_le (by omega)]
        rfl
      go_wp2
      go_ret2
      exact ⟨_, _, _, rfl, by rw [hend]; exact hS.court, by rw [hend]; exact hS.ma, hS.bel⟩
end Go.Proofs.YtiibjgnmdieicaaGreat.Hist
/- judge: Judge, in plain words; what it appends. -/
namespace Go.Proofs.YtiibjgnmdieicaaGreat.Hist
open Go.RowKit Go.Proofs.YtiibjgnmdieicaaGreatW.PrintWords Go.Sort
structure Fnd where
  place : Int
  rule : Int
  key : ByteArray
  id : Int
  other : Int
/-- a finding's cells -/
def FR (f : Fnd) (cs : List Value) : Prop := cs = [.int .i64 f.place, .int .i64 f.rule, .string f.key, .int .u64 f.id, .int .u64 f.other]
abbrev tF : TypeId := 91
theorem infoF : (Tryz.prog.info? 91).map (fun i => (i.zero, i.size, i.bytes)) = some (some (.agg #[.int .i64 0, .int .i64 0, .string ByteArray.empty, .int .u64 0, .int .u64 0]), 5, 48) := by kernel_rfl
theorem oneF (f : Fnd) : ∀ u ∈ ([.int .i64 f.place, .int .i64 f.rule, .string f.key, .int .u64 f.id, .int .u64 f.other] : List Value), u.oneCell' = true := by
  intro u hu
  simp only [List.mem_cons, List.not_mem_nil, or_false] at hu
  rcases hu with rfl | rfl | rfl | rfl | rfl <;> rfl
/-- what the rule of a number tells of a version: the name by which it is held against, whether it is broken -/
def ruleR (ws : List Wr) (v : Ver) (all : List Ver) (place asked : Int) : Nat → Int × Bool
  | 0 => (0, forgedB ws v place)
  | 1 => (0, abortedB ws v)
  | 2 => (tornO ws v all place, decide (v.f1 < tornO ws v all place))
  | _ => (lostO ws v asked, decide (v.f1 < lostO ws v asked))
def fndR (ws : List Wr) (v : Ver) (all : List Ver) (place asked : Int) (n : Nat) : List Fnd :=
  if (ruleR ws v all place asked n).2 then [⟨place, 1 + n, v.f0, v.f1, (ruleR ws v all place asked n).1⟩] else []
def fndV (ws : List Wr) (all : List Ver) (place asked : Int) (v : Ver) : List Fnd := (List.range 4).flatMap (fndR ws v all place asked)
def askedOf (s : Hs) (e : Evt) : Int := (s.at_ (qOf e)).getD 0
def fndE (s : Hs) (e : Evt) (i : Int) : List Fnd := e.f6.f3.flatMap (fndV s.ws e.f6.f3 i (askedOf s e))
def fnds (s : Hs) (l : List Evt) : List Fnd := (List.range l.length).flatMap fun (i : Nat) => match l[i]? with | some e => fndE s e i | none => []
/-- what the judge finds -/
def judgeL (l : List Evt) : List Fnd := fnds (hearAll l 0 hs0) l
theorem flat_range {α : Type} (f : Nat → List α) (j : Nat) : (List.range (j + 1)).flatMap f = (List.range j).flatMap f ++ f j := by
  rw [List.range_succ, List.flatMap_append]
  simp
theorem flat_take {α β : Type} (f : α → List β) {l : List α} {j : Nat} (h : j < l.length) : (l.take (j + 1)).flatMap f = (l.take j).flatMap f ++ f l[j] := by
  rw [← List.take_append_getElem h, List.flatMap_append]
  simp
end Go.Proofs.YtiibjgnmdieicaaGreat.Hist
/- judge: what a proper list holds. -/
namespace Go.Proofs.YtiibjgnmdieicaaGreat.Hist
open Go.RowKit Go.Proofs.YtiibjgnmdieicaaGreatW.PrintWords Go.Sort
theorem mayB_kind {x : Evt} (h : mayB x = true) : x.f0 = 1 ∨ x.f0 = 2 ∨ x.f0 = 3 := by
  unfold mayB at h
  by_cases c : x.f1 < 0 ∨ 16 ≤ x.f1 ∨ x.f2 < 1
  · rw [if_pos c] at h
    cases h
  · rw [if_neg c] at h
    by_cases k1 : x.f0 = 1
    · exact .inl k1
    · by_cases k2 : x.f0 = 2
      · exact .inr (.inl k2)
      · by_cases k3 : x.f0 = 3
        · exact .inr (.inr k3)
        · rw [if_neg k1, if_neg k2, if_neg k3] at h
          cases h
theorem stepB_in {cl : Nat → Cl} {x : Evt} {nx : Option Evt} {i : Nat} (hl : ∀ u, u < 16 → (cl u).rqs.length ≤ i) (h : stepB cl x nx i = true) : (x.f0 = 1 ∨ x.f0 = 2 ∨ x.f0 = 3) ∧ 0 ≤ x.f1 ∧ x.f1 < 16 ∧ 1 ≤ x.f2 ∧ x.f2 ≤ i + 1 := by
  unfold stepB at h
  rw [Bool.and_eq_true] at h
  obtain ⟨hm, h2⟩ := h
  obtain ⟨i0, i1, i2⟩ := mayB_in hm
  refine ⟨mayB_kind hm, i0, i1, i2, ?_⟩
  have hu := hl x.f1.toNat (by omega)
  by_cases k3 : x.f0 = 3
  · rw [if_pos k3] at h2
    unfold ansB at h2
    by_cases c : ((cl x.f1.toNat).rqs.length : Int) < x.f2
    · rw [if_pos c] at h2
      cases h2
    · omega
  · rw [if_neg k3] at h2
    unfold asksB at h2
    by_cases c : x.f2 ≠ ((cl x.f1.toNat).rqs.length : Int) + 1
    · rw [if_pos c] at h2
      cases h2
    · omega
theorem stepC_len {cl : Nat → Cl} {x : Evt} {p : Int} {i : Nat} (hl : ∀ u, u < 16 → (cl u).rqs.length ≤ i) : ∀ u, u < 16 → (stepC cl x p u).rqs.length ≤ i + 1 := by
  intro u hu
  unfold stepC upd
  split
  · split
    · rw [ansC_len]
      have := hl x.f1.toNat
      by_cases c : x.f1.toNat < 16
      · have := this c
        omega
      · next e => omega
    · rw [asksC_len]
      have := hl x.f1.toNat
      by_cases c : x.f1.toNat < 16
      · have := this c
        omega
      · next e => omega
  · have := hl u hu
    omega
theorem proper_at : ∀ (l : List Evt) (i : Nat) (cl : Nat → Cl), (∀ u, u < 16 → (cl u).rqs.length ≤ i) → properAt l i cl = true → ∀ j (hj : j < l.length), (l[j].f0 = 1 ∨ l[j].f0 = 2 ∨ l[j].f0 = 3) ∧ 0 ≤ l[j].f1 ∧ l[j].f1 < 16 ∧ 1 ≤ l[j].f2 ∧ l[j].f2 ≤ (i + j : Nat) + 1
  | [], _, _, _, _, j, hj => absurd hj (Nat.not_lt_zero j)
  | x :: r, i, cl, hl, h, j, hj => by
    rw [properAt, Bool.and_eq_true] at h
    cases j with
    | zero => exact stepB_in hl h.1
    | succ j =>
      have h2 := proper_at r (i + 1) (stepC cl x i) (stepC_len hl) h.2 j (by simpa using hj)
      simp only [List.getElem_cons_succ]
      refine ⟨h2.1, h2.2.1, h2.2.2.1, h2.2.2.2.1, ?_⟩
      have := h2.2.2.2.2
      omega
theorem proper_in {l : List Evt} (h : properB l = true) (j : Nat) (hj : j < l.length) : (l[j].f0 = 1 ∨ l[j].f0 = 2 ∨ l[j].f0 = 3) ∧ 0 ≤ l[j].f1 ∧ l[j].f1 < 16 ∧ 1 ≤ l[j].f2 ∧ l[j].f2 ≤ j + 1 := by
  have := proper_at l 0 cl0 (fun _ _ => Nat.zero_le _) h j hj
  simpa using this
/-- what the judge is handed -/
structure JudgeIn (l : List Evt) : Prop where
  few : l.length ≤ 1048576
  prs : ∀ j (h : j < l.length), l[j].f4.length ≤ 1048576
  vrs : ∀ j (h : j < l.length), l[j].f6.f3.length ≤ 65536
theorem JudgeIn.hear {l : List Evt} (h : JudgeIn l) (hp : properB l = true) : HearIn l where
  few := h.few
  kind j hj := (proper_in hp j hj).1
  c64 j hj := by
    have := proper_in hp j hj
    exact ⟨by omega, by omega⟩
  t64 j hj := by
    have := proper_in hp j hj
    have := h.few
    exact ⟨by omega, by omega⟩
  prs := h.prs
theorem fndR_len (ws : List Wr) (v : Ver) (all : List Ver) (place asked : Int) (n : Nat) : (fndR ws v all place asked n).length ≤ 1 := by
  unfold fndR
  split <;> simp
theorem fndV_len (ws : List Wr) (v : Ver) (all : List Ver) (place asked : Int) (n : Nat) : ((List.range n).flatMap (fndR ws v all place asked)).length ≤ n := by
  induction n with
  | zero => simp
  | succ n ih =>
    rw [flat_range, List.length_append]
    have := fndR_len ws v all place asked n
    omega
end Go.Proofs.YtiibjgnmdieicaaGreat.Hist
/- judge: Judge, walked. -/
namespace Go.Proofs.YtiibjgnmdieicaaGreat.Hist
open Go.RowKit Go.Proofs.YtiibjgnmdieicaaGreatW.PrintWords Go.Sort
open Go.Maps (Keyed)

def fndT (s : Hs) (l : List Evt) (j : Nat) : List Fnd := (List.range j).flatMap fun (i : Nat) => match l[i]? with | some e => fndE s e i | none => []
theorem fndT_succ (s : Hs) {l : List Evt} {j : Nat} (h : j < l.length) : fndT s l (j + 1) = fndT s l j ++ l[j].f6.f3.flatMap (fndV s.ws l[j].f6.f3 j (askedOf s l[j])) := by
  unfold fndT
  rw [flat_range, List.getElem?_eq_getElem h]
  rfl
/-- the findings so far, in a row of the call's own -/
def OutAt (N : Nat) (W3 W : World) (v : Value) (L : List Fnd) : Prop := Below N W3 W ∧ OwnRow FR tF 5 W N v L ∧ ∃ A c, v = .slice A L.length c
def firstLoop : Code → Option Code
  | .loop c => some c
  | .seq a b => match firstLoop a with
    | some c => some c
    | none => firstLoop b
  | .block _ c => firstLoop c
  | .scope c => firstLoop c
  | .cond _ a b => match firstLoop a with
    | some c => some c
    | none => firstLoop b
  | _ => none
noncomputable def judgeBody1 : Code := (Tryz.f41.body.bind firstLoop).getD .skip
noncomputable def judgeBody2 : Code := (firstLoop judgeBody1).getD .skip
noncomputable def judgeBody3 : Code := (firstLoop judgeBody2).getD .skip
theorem MapIs.run1 {κ : Type} {P : Program} {k : TypeId} {kv : κ → Value} {w : World} {b n : Nat} {f : κ → Option Value} (h : MapIs P k kv w b n f) {t e : TypeId} (K : Keyed P k) (ht : P.underlying t = some (.map k e)) {z : Value} (hz : (zeroValue e).run P w = .ok z w) (key : κ) (hkey : ∃ kl, keyOf P k (kv key) = some kl) (v : Value) (hv : (f key).getD z = v) : (Instr.lookup t (.map (some b)) (kv key) false).run P w = .ok v w := by
  obtain ⟨D, hD, hf⟩ := h
  obtain ⟨kl, hkl⟩ := hkey
  obtain ⟨v', ps, hrun, hv'⟩ := hD.lookup K ht hz (R := anyElem) (zd := .held z) (zp := []) rfl hkl
  have e1 := MapIs.got (hf key kl hkl) hv'
  rw [e1, hv] at hrun
  exact hrun
theorem asked_is (s : Hs) (e : Evt) : ((s.at_ (qOf e)).map (Value.int .i64)).getD (.int .i64 0) = .int .i64 (askedOf s e) := by
  unfold askedOf
  cases s.at_ (qOf e) <;> rfl
def evC (x : Evt) (A4 : Option Addr) (c4 : Nat) (A5 : Option Addr) (c5 : Nat) (A9 : Option Addr) (c9 : Nat) : Array Value := #[.int .i64 x.f0, .int .i64 x.f1, .int .i64 x.f2, .int .u64 x.f3, .slice A4 x.f4.length c4, .slice A5 x.f5.length c5, .int .i64 x.f6.f0, .int .i64 x.f6.f1, .int .u64 x.f6.f2, .slice A9 x.f6.f3.length c9]
def verC (v : Ver) (V3 : Option Addr) (vc : Nat) : Array Value := #[.string v.f0, .int .u64 v.f1, .string v.f2, .slice V3 v.f3.length vc]
def toldC (v : Ver) (V3 : Option Addr) (vc : Nat) (x : Evt) (A9 : Option Addr) (c9 : Nat) (j : Nat) (asked : Int) : Array Value := #[.string v.f0, .int .u64 v.f1, .string v.f2, .slice V3 v.f3.length vc, .slice A9 x.f6.f3.length c9, .int .i64 j, .int .i64 asked]
def RelJ1 (W3 : World) (s : Hs) (l : List Evt) (v7 s36 : Value) (wr : World) : Prop := ∃ j : Nat, j ≤ l.length ∧ s36 = .int .i64 j ∧ OutAt W3.heap.size W3 wr v7 (fndT s l j) ∧ (fndT s l j).length ≤ 262144 * j
def RelJ2 (W3 : World) (L0 : List Fnd) (f : Ver → List Fnd) (vs : List Ver) (m E0 : Nat) (ec : Array Value) (v7 s45 : Value) (wr : World) : Prop := ∃ k : Nat, k ≤ vs.length ∧ s45 = .int .i64 k ∧ OutAt W3.heap.size W3 wr v7 (L0 ++ (vs.take k).flatMap f) ∧ (L0 ++ (vs.take k).flatMap f).length ≤ m + 4 * k ∧ wr.heap[E0]? = some (.cells ec 38 (0, 0))
def RelJ3 (W3 : World) (L : List Fnd) (g : Nat → List Fnd) (E0 : Nat) (ec : Array Value) (V0 : Nat) (vc : Array Value) (T0 : Nat) (tc : Array Value) (v7 s64 : Value) (wr : World) : Prop := ∃ n : Nat, n ≤ 4 ∧ s64 = .int .i64 n ∧ OutAt W3.heap.size W3 wr v7 (L ++ (List.range n).flatMap g) ∧ wr.heap[E0]? = some (.cells ec 38 (0, 0)) ∧ wr.heap[V0]? = some (.cells vc 49 (0, 0)) ∧ wr.heap[T0]? = some (.cells tc 130 (0, 0))
/-- what Judge hands back of a proper list -/
def Judged (w : World) (l : List Evt) (e : Ending) (w' : World) : Prop := ∃ A c, e = .returned (.tuple #[.slice A (judgeL l).length c, .int .i64 0]) ∧ OwnRow FR tF 5 w' w.heap.size (.slice A (judgeL l).length c) (judgeL l) ∧ Below w.heap.size w w'
set_option maxHeartbeats 16000000 in
set_option maxRecDepth 100000 in
theorem judge_no (A : Option Addr) (c : Nat) (l : List Evt) (w : World) (hC : kEvt.C w A l.length l) (hI : JudgeIn l) (hp : properB l = false) :
    Calls Tryz.prog 41 #[.slice A l.length c] w fun e w' => e = .returned (.tuple #[.slice none 0 0, .int .i64 1]) ∧ Below w.heap.size w w' := by
  have h := proper_any A c l w hC hI.few
  rw [hp] at h
  replace h := Lib.hid h
  clear hC hI hp
  go_enter Tryz.func41, Tryz.ntmps41
  go_wp2_with fail
  refine h.out.mono ?_
  rintro e W ⟨rfl, hb⟩
  replace hb := Lib.hid hb
  go_wp2
  go_ret2
  exact ⟨rfl, hb.out⟩
end Go.Proofs.YtiibjgnmdieicaaGreat.Hist
