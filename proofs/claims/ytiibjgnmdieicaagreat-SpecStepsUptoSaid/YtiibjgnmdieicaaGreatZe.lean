/- the document's machine: own, walked. -/
import Derived.Test.YtiibjgnmdieicaaGreatQh
import Derived.Test.YtiibjgnmdieicaaGreatQi
import Derived.Deep.Upon
import Derived.Deep.AppendLies
namespace Go.Proofs.YtiibjgnmdieicaaGreat.Hist
open Go.RowKit Go.Proofs.YtiibjgnmdieicaaGreatW.PrintWords Go.Sort
section
variable {α : Type} {R : α → List Value → Prop} {e : TypeId} {size bytes : Nat} {z : Value}
/-- append(v, qs...): v a row of one's own, qs anyone's: a step of a region -/
theorem step_append_row {ops : Array Oper} {o : Oper} {a : Act} {K : Act → World → Prop} {Q : Exit → Act → World → Prop} {E' : Prop} {W : World} (S : Nat) (hgd : o.guard = none) (s x : Operand) (tl : TypeId) (ho : o.op = .call { callee := .builtin .append, args := #[s, x], argTypes := #[tl, tl] })
    (ht : Tryz.prog.underlying tl = some (.slice e)) (hinfo : (Tryz.prog.info? e).map (fun i => (i.zero, i.size, i.bytes)) = some (some z, size, bytes)) (hz : z.cells.size = size) (hs0 : 0 < size) (hb0 : 0 < bytes)
    (ps qs : List α) (np nq : Nat) (hnp : ps.length = np) (hnq : qs.length = nq) (v : Value) (A : Option Addr) (c : Nat) (hs : a.eval s = v) (hx : a.eval x = .slice A nq c) (HO : OwnRow R e size W S v ps) (hS : S ≤ W.heap.size) (hR : ReadsRow R size W A qs.length qs) (hone : ∀ p cs, R p cs → ∀ u ∈ cs, u.oneCell' = true) (hl : (np + nq) * bytes ≤ 140737488355328)
    (h : ∀ A1 c1 w1, OwnRow R e size w1 S (.slice A1 (np + nq) c1) (ps ++ qs) → Below S W w1 → W.grownBy w1 v.ownBlock → K (a.put o.dst (.slice A1 (np + nq) c1)) w1) :
    if Region.wanted o (yielded ops a.tmps) = true then Oper.wp Tryz.prog o a W K Q else E' := by
  subst hnp hnq
  obtain ⟨i0, hi, hz0, hz1, hz2⟩ := info_parts hinfo
  have hlen : ps.length + qs.length ≤ 140737488355328 := Nat.le_trans (Nat.le_mul_of_pos_right _ hb0) hl
  cases qs with
  | nil =>
    obtain ⟨A0, c0, rfl, hle⟩ := HO.slice_
    have hsrc : Src Tryz.prog i0.size tl (.slice A 0 c) 0 [] W := by
      cases A with
      | none => exact Src.ofNil W ht c
      | some ad => exact Src.ofSlice W ht ad 0 c [] (by simp) (fun j u hu => by simp at hu) (fun u hu => by cases hu)
    have hrun := run_append_nothing (P := Tryz.prog) W tl tl o.type e i0 ht hi A0 ps.length c0 hle (.slice A 0 c) hsrc
    have hw : Region.wanted o (yielded ops a.tmps) = true := by simp [Region.wanted, hgd]
    rw [if_pos hw]
    unfold Oper.wp
    simp only [List.length_nil] at hx h
    simp [execOp, ho, resolve, invoke, builtin, hs, hx, hrun, Result.andThen]
    exact h A0 c0 W (by rw [List.append_nil]; exact HO) (Below.refl _ _) ⟨rfl, rfl, rfl, Nat.le_refl _, fun _ _ _ => rfl⟩
  | cons y r =>
    generalize hso : y :: r = qs at *
    have hpos : 0 < qs.length := by rw [← hso]; simp
    obtain ⟨ad, rfl, _⟩ := hR.2.2 hpos
    obtain ⟨inner2, hrep2, hcell⟩ := ReadsRow.inner_ hR
    obtain ⟨inner, hown, hrep⟩ := HO
    refine step_append_lies W hgd s x tl ho S e i0 _ size bytes ht hi hz0 hz1 hz2 hz hs0 v ps.length inner hs hown ad qs.length c inner2 hx hrep2.1 hcell (Kd.reps_one hrep2 hs0 hone) hpos (by unfold maxLen; omega) hl hS _ rfl ?_
    intro g cap w1 own1 gr1 _ _
    exact h _ _ _ ⟨inner ++ inner2, by rw [List.length_append]; exact own1, Kd.reps_append hrep hrep2⟩ (pw_below_grown (Below.refl _ _) _ hS gr1 (fun k e => own_base hown k e)) gr1
theorem append_row {ops : Array Oper} {rest : List Oper} {o : Oper} {a : Act} {Q : Exit → Act → World → Prop} {W : World} (S : Nat) (hgd : o.guard = none) (s x : Operand) (tl : TypeId) (ho : o.op = .call { callee := .builtin .append, args := #[s, x], argTypes := #[tl, tl] })
    (ht : Tryz.prog.underlying tl = some (.slice e)) (hinfo : (Tryz.prog.info? e).map (fun i => (i.zero, i.size, i.bytes)) = some (some z, size, bytes)) (hz : z.cells.size = size) (hs0 : 0 < size) (hb0 : 0 < bytes)
    (ps qs : List α) (np nq : Nat) (hnp : ps.length = np) (hnq : qs.length = nq) (v : Value) (A : Option Addr) (c : Nat) (hs : a.eval s = v) (hx : a.eval x = .slice A nq c) (HO : OwnRow R e size W S v ps) (hS : S ≤ W.heap.size) (hR : ReadsRow R size W A qs.length qs) (hone : ∀ p cs, R p cs → ∀ u ∈ cs, u.oneCell' = true) (hl : (np + nq) * bytes ≤ 140737488355328)
    (h : ∀ A1 c1 w1, OwnRow R e size w1 S (.slice A1 (np + nq) c1) (ps ++ qs) → Below S W w1 → W.grownBy w1 v.ownBlock → wpList Tryz.prog ops Q rest (a.put o.dst (.slice A1 (np + nq) c1)) w1) :
    wpList Tryz.prog ops Q (o :: rest) a W :=
  wpList_plain hgd fun K hK => by
    have hw : Region.wanted o (yielded ops a.tmps) = true := by simp [Region.wanted, hgd]
    have := step_append_row (ops := ops) (K := K) (Q := Q) (E' := True) S hgd s x tl ho ht hinfo hz hs0 hb0 ps qs np nq hnp hnq v A c hs hx HO hS hR hone hl fun A1 c1 w1 h1 h2 h3 => hK _ _ (h A1 c1 w1 h1 h2 h3)
    rw [if_pos hw] at this
    exact this
/-- append(nil, qs...) -/
theorem append_nil {ops : Array Oper} {rest : List Oper} {o : Oper} {a : Act} {Q : Exit → Act → World → Prop} {W : World} (hgd : o.guard = none) (s x : Operand) (tl : TypeId) (ho : o.op = .call { callee := .builtin .append, args := #[s, x], argTypes := #[tl, tl] })
    (ht : Tryz.prog.underlying tl = some (.slice e)) (hinfo : (Tryz.prog.info? e).map (fun i => (i.zero, i.size, i.bytes)) = some (some z, size, bytes)) (hz : z.cells.size = size) (hs0 : 0 < size) (hb0 : 0 < bytes)
    (qs : List α) (nq : Nat) (hnq : qs.length = nq) (A : Option Addr) (c : Nat) (hs : a.eval s = .slice none 0 0) (hx : a.eval x = .slice A nq c) (hR : ReadsRow R size W A qs.length qs) (hone : ∀ p cs, R p cs → ∀ u ∈ cs, u.oneCell' = true) (hl : nq * bytes ≤ 140737488355328)
    (h : ∀ A1 c1 w1, OwnRow R e size w1 W.heap.size (.slice A1 nq c1) qs → Below W.heap.size W w1 → wpList Tryz.prog ops Q rest (a.put o.dst (.slice A1 nq c1)) w1) :
    wpList Tryz.prog ops Q (o :: rest) a W :=
  append_row (R := R) W.heap.size hgd s x tl ho ht hinfo hz hs0 hb0 [] qs 0 nq rfl hnq _ A c hs hx (OwnRow.none_ _ _ _ _ _) (Nat.le_refl _) hR hone (by rw [Nat.zero_add]; exact hl) fun A1 c1 w1 h1 h2 _ => by
    rw [Nat.zero_add] at h1 ⊢
    exact h A1 c1 w1 h1 h2
theorem step_append_nil {ops : Array Oper} {o : Oper} {a : Act} {K : Act → World → Prop} {Q : Exit → Act → World → Prop} {E' : Prop} {W : World} (hgd : o.guard = none) (s x : Operand) (tl : TypeId) (ho : o.op = .call { callee := .builtin .append, args := #[s, x], argTypes := #[tl, tl] })
    (ht : Tryz.prog.underlying tl = some (.slice e)) (hinfo : (Tryz.prog.info? e).map (fun i => (i.zero, i.size, i.bytes)) = some (some z, size, bytes)) (hz : z.cells.size = size) (hs0 : 0 < size) (hb0 : 0 < bytes)
    (qs : List α) (nq : Nat) (hnq : qs.length = nq) (A : Option Addr) (c : Nat) (hs : a.eval s = .slice none 0 0) (hx : a.eval x = .slice A nq c) (hR : ReadsRow R size W A qs.length qs) (hone : ∀ p cs, R p cs → ∀ u ∈ cs, u.oneCell' = true) (hl : nq * bytes ≤ 140737488355328)
    (h : ∀ A1 c1 w1, OwnRow R e size w1 W.heap.size (.slice A1 nq c1) qs → Below W.heap.size W w1 → K (a.put o.dst (.slice A1 nq c1)) w1) :
    if Region.wanted o (yielded ops a.tmps) = true then Oper.wp Tryz.prog o a W K Q else E' :=
  step_append_row (R := R) W.heap.size hgd s x tl ho ht hinfo hz hs0 hb0 [] qs 0 nq rfl hnq _ A c hs hx (OwnRow.none_ _ _ _ _ _) (Nat.le_refl _) hR hone (by rw [Nat.zero_add]; exact hl) fun A1 c1 w1 h1 h2 _ => by
    rw [Nat.zero_add] at h1 ⊢
    exact h A1 c1 w1 h1 h2
end
/-- the first two stores of the copy -/
theorem CP.first {w W W1 : World} {x : Evt} {A4 : Option Addr} {c4 : Nat} {v5 v9 : Value} {B4 : Option Addr} {d4 : Nat} (hB : Below w.heap.size w W) (hE : W.heap[w.heap.size]? = some (.cells #[.int .i64 x.f0, .int .i64 x.f1, .int .i64 x.f2, .int .u64 x.f3, .slice A4 x.f4.length c4, v5, .int .i64 x.f6.f0, .int .i64 x.f6.f1, .int .u64 x.f6.f2, v9] 38 (0, 0))) (hZ : W.heap[w.heap.size + 1]? = some (.cells #[.int .i64 0, .int .i64 0, .int .i64 0, .int .u64 0, .slice none 0 0, .slice none 0 0, .int .i64 0, .int .i64 0, .int .u64 0, .slice none 0 0] 38 (0, 0)))
    (own4 : OwnRow RP tPr 2 W1 W.heap.size (.slice B4 x.f4.length d4) x.f4) (hb : Below W.heap.size W W1) (hs : w.heap.size ≤ W.heap.size) :
    Below w.heap.size w (W1.setCell ⟨w.heap.size, 4, none⟩ (.slice B4 x.f4.length d4)) ∧ (W1.setCell ⟨w.heap.size, 4, none⟩ (.slice B4 x.f4.length d4)).heap[w.heap.size]? = some (.cells #[.int .i64 x.f0, .int .i64 x.f1, .int .i64 x.f2, .int .u64 x.f3, .slice B4 x.f4.length d4, v5, .int .i64 x.f6.f0, .int .i64 x.f6.f1, .int .u64 x.f6.f2, v9] 38 (0, 0)) ∧ (W1.setCell ⟨w.heap.size, 4, none⟩ (.slice B4 x.f4.length d4)).heap[w.heap.size + 1]? = some (.cells #[.int .i64 0, .int .i64 0, .int .i64 0, .int .u64 0, .slice none 0 0, .slice none 0 0, .int .i64 0, .int .i64 0, .int .u64 0, .slice none 0 0] 38 (0, 0)) ∧ OwnRow RP tPr 2 (W1.setCell ⟨w.heap.size, 4, none⟩ (.slice B4 x.f4.length d4)) w.heap.size (.slice B4 x.f4.length d4) x.f4 := by
  have hE1 := blk_below hE hb
  have hZ1 := blk_below hZ hb
  exact ⟨below_set_ (below_then hB hB.size hb) (Nat.le_refl _) _, by simpa using blk_set hE1 4 (.slice B4 x.f4.length d4), blk_far hZ1 (by simp) _, (own4.lower hs).set_ hE1 (by decide) _ _⟩
theorem CP.second {w W W1 : World} {x : Evt} {A5 : Option Addr} {c5 : Nat} {v9 : Value} {B4 : Option Addr} {d4 : Nat} {B5 : Option Addr} {d5 : Nat} (hB : Below w.heap.size w W) (hE : W.heap[w.heap.size]? = some (.cells #[.int .i64 x.f0, .int .i64 x.f1, .int .i64 x.f2, .int .u64 x.f3, .slice B4 x.f4.length d4, .slice A5 x.f5.length c5, .int .i64 x.f6.f0, .int .i64 x.f6.f1, .int .u64 x.f6.f2, v9] 38 (0, 0))) (hZ : W.heap[w.heap.size + 1]? = some (.cells #[.int .i64 0, .int .i64 0, .int .i64 0, .int .u64 0, .slice none 0 0, .slice none 0 0, .int .i64 0, .int .i64 0, .int .u64 0, .slice none 0 0] 38 (0, 0)))
    (own4 : OwnRow RP tPr 2 W w.heap.size (.slice B4 x.f4.length d4) x.f4) (own5 : OwnRow RS tS 1 W1 W.heap.size (.slice B5 x.f5.length d5) x.f5) (hb : Below W.heap.size W W1) (hs : w.heap.size ≤ W.heap.size) :
    CP w (W1.setCell ⟨w.heap.size, 5, none⟩ (.slice B5 x.f5.length d5)) x B4 d4 B5 d5 v9 := by
  have hE1 := blk_below hE hb
  have hZ1 := blk_below hZ hb
  exact ⟨below_set_ (below_then hB hB.size hb) (Nat.le_refl _) _, by simpa using blk_set hE1 5 (.slice B5 x.f5.length d5), blk_far hZ1 (by simp) _, (own4.below hb).set_ hE1 (by decide) _ _, (own5.lower hs).set_ hE1 (by decide) _ _⟩
theorem one_rs (p : ByteArray) (cs : List Value) (h : RS p cs) : ∀ u ∈ cs, u.oneCell' = true := by
  unfold RS at h
  subst h
  intro u hu
  rw [List.mem_singleton] at hu
  subst hu
  rfl
theorem one_rp (p : Pai) (cs : List Value) (h : RP p cs) : ∀ u ∈ cs, u.oneCell' = true := by
  unfold RP at h
  subst h
  intro u hu
  simp only [List.mem_cons, List.not_mem_nil, or_false] at hu
  rcases hu with rfl | rfl <;> rfl
set_option maxHeartbeats 16000000 in
set_option maxRecDepth 100000 in
theorem own_any (x : Evt) (A4 : Option Addr) (c4 : Nat) (A5 : Option Addr) (c5 : Nat) (A9 : Option Addr) (c9 : Nat) (w0 w : World) (hs0 : w0.heap.size ≤ w.heap.size) (hK : EvRd w0 w x A4 c4 A5 c5 A9 c9) (hI : EvIn x) :
    Calls Tryz.prog 25 #[.agg #[.int .i64 x.f0, .int .i64 x.f1, .int .i64 x.f2, .int .u64 x.f3, .slice A4 x.f4.length c4, .slice A5 x.f5.length c5, .int .i64 x.f6.f0, .int .i64 x.f6.f1, .int .u64 x.f6.f2, .slice A9 x.f6.f3.length c9]] w fun e w' => ∃ B4 d4 B5 d5 B9 d9, e = .returned (.agg #[.int .i64 x.f0, .int .i64 x.f1, .int .i64 x.f2, .int .u64 x.f3, .slice B4 x.f4.length d4, .slice B5 x.f5.length d5, .int .i64 x.f6.f0, .int .i64 x.f6.f1, .int .u64 x.f6.f2, .slice B9 x.f6.f3.length d9]) ∧ EvOwn w0 w' x B4 d4 B5 d5 B9 d9 ∧ Below w.heap.size w w' := by
  obtain ⟨l4, g4, l5, g5, l9, g9⟩ := hK
  have hE := blk_below (heap_alloc_new w (.cells #[.int .i64 x.f0, .int .i64 x.f1, .int .i64 x.f2, .int .u64 x.f3, .slice A4 x.f4.length c4, .slice A5 x.f5.length c5, .int .i64 x.f6.f0, .int .i64 x.f6.f1, .int .u64 x.f6.f2, .slice A9 x.f6.f3.length c9] 38)) (below_alloc (Below.refl _ _) (.cells #[.int .i64 0, .int .i64 0, .int .i64 0, .int .u64 0, .slice none 0 0, .slice none 0 0, .int .i64 0, .int .i64 0, .int .u64 0, .slice none 0 0] 38))
  have hZ := heap_alloc_new (w.alloc (.cells #[.int .i64 x.f0, .int .i64 x.f1, .int .i64 x.f2, .int .u64 x.f3, .slice A4 x.f4.length c4, .slice A5 x.f5.length c5, .int .i64 x.f6.f0, .int .i64 x.f6.f1, .int .u64 x.f6.f2, .slice A9 x.f6.f3.length c9] 38)) (.cells #[.int .i64 0, .int .i64 0, .int .i64 0, .int .u64 0, .slice none 0 0, .slice none 0 0, .int .i64 0, .int .i64 0, .int .u64 0, .slice none 0 0] 38)
  rw [World.size_alloc] at hZ
  have hB0 := below2 w (.cells #[.int .i64 x.f0, .int .i64 x.f1, .int .i64 x.f2, .int .u64 x.f3, .slice A4 x.f4.length c4, .slice A5 x.f5.length c5, .int .i64 x.f6.f0, .int .i64 x.f6.f1, .int .u64 x.f6.f2, .slice A9 x.f6.f3.length c9] 38) (.cells #[.int .i64 0, .int .i64 0, .int .i64 0, .int .u64 0, .slice none 0 0, .slice none 0 0, .int .i64 0, .int .i64 0, .int .u64 0, .slice none 0 0] 38)
  have h37 : Hid (∀ W, Below w.heap.size w W → ReadsRow RP 2 W A4 x.f4.length x.f4) := Lib.hid fun W hb => (ReadsRow.imp_ (R' := RP) g4 hb fun p cs h => G.k75_open h)
  have h38 : Hid (∀ W, Below w.heap.size w W → ReadsRow RS 1 W A5 x.f5.length x.f5) := Lib.hid fun W hb => Kd.C_below g5 hb
  have h39 : Hid (∀ W, Below w.heap.size w W → ReadsRow (VR w0 W) 4 W A9 x.f6.f3.length x.f6.f3) := Lib.hid fun W hb => Kd.C_below g9 hb
  have hl4 := Lib.hid (show x.f4.length * 32 ≤ 140737488355328 by have := hI.p; omega)
  have hl5 := Lib.hid (show x.f5.length * 16 ≤ 140737488355328 by have := hI.k; omega)
  have hl9 := Lib.hid (show x.f6.f3.length * 64 ≤ 140737488355328 by have := hI.v; omega)
  replace hE := Lib.hid hE
  replace hZ := Lib.hid hZ
  replace hB0 := Lib.hid hB0
  replace hI := Lib.hid hI
  replace hs0 := Lib.hid hs0
  clear l4 g4 l5 g5 l9 g9
  go_enter Tryz.func25, Tryz.ntmps25
  go_upto_region 1 with (fail)
  generalize hW0 : ((w.alloc (.cells #[.int .i64 x.f0, .int .i64 x.f1, .int .i64 x.f2, .int .u64 x.f3, .slice A4 x.f4.length c4, .slice A5 x.f5.length c5, .int .i64 x.f6.f0, .int .i64 x.f6.f1, .int .u64 x.f6.f2, .slice A9 x.f6.f3.length c9] 38)).alloc (.cells #[.int .i64 0, .int .i64 0, .int .i64 0, .int .u64 0, .slice none 0 0, .slice none 0 0, .int .i64 0, .int .i64 0, .int .u64 0, .slice none 0 0] 38)) = W0 at *
  clear hW0
  have e4 := blk_cell hE.out 4
  have e5 := blk_cell hE.out 5
  simp only [List.getElem?_toArray, List.getElem?_cons_zero, List.getElem?_cons_succ] at e4 e5
  have z4 := blk_frozen hE.out 4
  have lE := blk_lt hE.out
  have hwW := Lib.hid hB0.out.size
  have hR4 := Lib.hid (h37.out W0 hB0.out)
  go_upto_region 2 with (first
    | (at_builtin; refine append_nil (R := RP) rfl (.const (.slice none 0 0)) (.tmp 5) 32 rfl Tryz.underlying32 infoPr rfl (by decide) (by decide) x.f4 x.f4.length rfl A4 c4 rfl (by simp [Act.eval]) (by exact hR4.out) (by exact one_rp) (by exact hl4.out) ?_; intro B4 d4 W1 own4 hb4; obtain ⟨hB1, hE1, hZ1, own41⟩ := CP.first hB0.out hE.out hZ.out own4 hb4 hwW.out; have k4 := blk_cell (blk_below hE.out hb4) 4; have f4 := blk_frozen (blk_below hE.out hb4) 4; simp only [List.getElem?_toArray, List.getElem?_cons_zero, List.getElem?_cons_succ] at k4; replace hB1 := Lib.hid hB1; replace hE1 := Lib.hid hE1; replace hZ1 := Lib.hid hZ1; replace own41 := Lib.hid own41; clear own4 hb4)
    | go_in)
  generalize W1.setCell ⟨w.heap.size, 4, none⟩ (.slice B4 x.f4.length d4) = W2 at *
  clear k4 f4 e4 e5 z4 lE hE hZ hB0 hR4 hwW W1 W0
  have e5 := blk_cell hE1.out 5
  simp only [List.getElem?_toArray, List.getElem?_cons_zero, List.getElem?_cons_succ] at e5
  have z5 := blk_frozen hE1.out 5
  have lE := blk_lt hE1.out
  have hwW := Lib.hid hB1.out.size
  have hR5 := Lib.hid (h38.out W2 hB1.out)
  go_upto_region 3 with (first
    | (at_builtin; refine append_nil (R := RS) rfl (.const (.slice none 0 0)) (.tmp 9) 33 rfl Tryz.underlying33 infoStr rfl (by decide) (by decide) x.f5 x.f5.length rfl A5 c5 rfl (by simp [Act.eval]) (by exact hR5.out) (by exact one_rs) (by exact hl5.out) ?_; intro B5 d5 W3 own5 hb5; have hc3 := CP.second hB1.out hE1.out hZ1.out own41.out own5 hb5 hwW.out; have k5 := blk_cell (blk_below hE1.out hb5) 5; have f5 := blk_frozen (blk_below hE1.out hb5) 5; simp only [List.getElem?_toArray, List.getElem?_cons_zero, List.getElem?_cons_succ] at k5; replace hc3 := Lib.hid hc3; clear own5 hb5)
    | go_in)
  generalize W3.setCell ⟨w.heap.size, 5, none⟩ (.slice B5 x.f5.length d5) = W4 at *
  clear k5 f5 e5 z5 lE hE1 hZ1 hB1 own41 hR5 hwW W3 W2
  have e9 := blk_cell hc3.out.blk 9
  simp only [List.getElem?_toArray, List.getElem?_cons_zero, List.getElem?_cons_succ] at e9
  have z9 := blk_frozen hc3.out.blk 9
  have lE := blk_lt hc3.out.blk
  have hR9 := Lib.hid (h39.out W4 hc3.out.bel)
  have hv9m : x.f6.f3.length ≤ 65536 := hI.out.v
  go_wp2_with (first
    | (at_builtin; refine append_nil (R := VR w0 W4) rfl (.const (.slice none 0 0)) (.tmp 14) 34 rfl Tryz.underlying34 infoV rfl (by decide) (by decide) x.f6.f3 x.f6.f3.length rfl A9 c9 rfl (by simp [Act.eval]) (by exact hR9.out) (by exact fun _ _ h => (kVR w0).K_one h) (by exact hl9.out) ?_; intro B9 d9 W5 own9 hb9; have hc4 := hc3.out.below hb9; have hv4 := ver_own (b := w.heap.size) own9 hc3.out.bel.size hb9; have k9 := blk_cell hc4.blk 9; have f9 := blk_frozen hc4.blk 9; simp only [List.getElem?_toArray, List.getElem?_cons_zero, List.getElem?_cons_succ] at k9; have hc5 := Lib.hid (hc4.set9 (.slice B9 x.f6.f3.length d9)); have hv5 := Lib.hid ((hv4.imp_ fun p cs h => h.set_ hc4.blk (by decide) hs0.out 9 (.slice B9 x.f6.f3.length d9)).set_ hc4.blk (by decide) 9 (.slice B9 x.f6.f3.length d9)); clear own9 hb9 hc4 hv4)
    | go_in)
  clear k9 f9 e9 z9 lE hc3 hR9
  go_loopw [3] (fun s3 wr => RelCp w0 w x B4 d4 B5 d5 B9 d9 s3 wr) (fun s3 _ => x.f6.f3.length - (intOf s3).toNat)
  case atStart => exact ⟨0, Nat.zero_le _, rfl, hc5.out, hv5.out⟩
  case round =>
    clear hc5 hv5
    obtain ⟨i, hi, rfl, hc, hv⟩ := hrel
    by_cases hlt : i < x.f6.f3.length
    · obtain ⟨g, gc, cs, ev, hg, ⟨cur, hcur⟩, hl, hR, hcell, _⟩ := own_set (R' := VR w0 wr) hv i hlt 3 (by decide)
      injection ev with e1 _ e3
      subst e1
      subst e3
      obtain ⟨KA, kc, rfl, hkl, hkC, hkB⟩ := hR
      have e3 := hcell 3 _ rfl
      have k9 := blk_cell hc.blk 9
      simp only [List.getElem?_toArray, List.getElem?_cons_zero, List.getElem?_cons_succ] at k9
      have hbd : Below wr.heap.size wr wr.drew := below_drew (Below.refl _ _)
      have hRk : ReadsRow RS 1 wr.drew KA x.f6.f3[i].f3.length x.f6.f3[i].f3 := Kd.C_drew hkC
      have hlk := Lib.hid (show x.f6.f3[i].f3.length * 16 ≤ 140737488355328 by have := hI.out.vk i hlt; omega)
      have m1 := blk_lt hc.blk
      have m2 := blk_lt hcur
      replace hRk := Lib.hid hRk
      replace hbd := Lib.hid hbd
      replace hc := Lib.hid hc
      replace hv := Lib.hid hv
      clear hcell hkC hkB hcur hl hkl
      go_wp2
      refine wp_region_noPanic ?_
      refine wp_region_F 14 (fun w' => w'.cell? ⟨w.heap.size, 9, none⟩ = some (.slice (some ⟨g, 0, none⟩) x.f6.f3.length d9) ∧ w'.cell? ⟨g, i * 4 + 3, none⟩ = some (.slice KA x.f6.f3[i].f3.length kc)) (by kernel_rfl) ?_
      have hHeld : wr.drew.cell? ⟨w.heap.size, 9, none⟩ = some (.slice (some ⟨g, 0, none⟩) x.f6.f3.length d9) ∧ wr.drew.cell? ⟨g, i * 4 + 3, none⟩ = some (.slice KA x.f6.f3[i].f3.length kc) := ⟨k9, e3⟩
      refine wpAnyF_take (i := 0) (v := ?_) rfl (by kernel_rfl) (by kernel_rfl) (by kernel_rfl) rfl (by kernel_rfl) rfl (fun _ _ _ _ _ h => h) hHeld rfl ?_ ?_
      rotate_left 1
      · rintro w' ⟨y0, y1⟩
        go_simp
        try with_reducible rfl
      simp only [Act.put]
      refine wpAnyF_take (i := 1) (v := ?_) rfl (by kernel_rfl) (by kernel_rfl) (by kernel_rfl) rfl (by kernel_rfl) rfl (fun _ _ _ _ _ h => h) hHeld rfl ?_ ?_
      rotate_left 1
      · rintro w' ⟨y0, y1⟩
        go_simp
        try with_reducible rfl
      simp only [Act.put]
      refine wpAnyF_take (i := 2) (v := ?_) rfl (by kernel_rfl) (by kernel_rfl) (by kernel_rfl) rfl (by kernel_rfl) rfl (fun _ _ _ _ _ h => h) hHeld rfl ?_ ?_
      rotate_left 1
      · rintro w' ⟨y0, y1⟩
        go_simp
        try with_reducible rfl
      simp only [Act.put]
      refine wpAnyF_take (i := 3) (v := ?_) rfl (by kernel_rfl) (by kernel_rfl) (by kernel_rfl) rfl (by kernel_rfl) rfl (fun _ _ _ _ _ h => h) hHeld rfl ?_ ?_
      rotate_left 1
      · rintro w' ⟨y0, y1⟩
        go_simp
        try with_reducible rfl
      simp only [Act.put]
      refine wpAnyF_take (i := 4) (v := ?_) rfl (by kernel_rfl) (by kernel_rfl) (by kernel_rfl) rfl (by kernel_rfl) rfl (fun _ _ _ _ _ h => h) hHeld rfl ?_ ?_
      rotate_left 1
      · rintro w' ⟨y0, y1⟩
        go_simp
        try with_reducible rfl
      simp only [Act.put]
      refine wpAnyF_take (i := 5) (v := ?_) rfl (by kernel_rfl) (by kernel_rfl) (by kernel_rfl) rfl (by kernel_rfl) rfl (fun _ _ _ _ _ h => h) hHeld rfl ?_ ?_
      rotate_left 1
      · rintro w' ⟨y0, y1⟩
        go_simp
        try with_reducible rfl
      simp only [Act.put]
      refine wpAnyF_take (i := 6) (v := ?_) rfl (by kernel_rfl) (by kernel_rfl) (by kernel_rfl) rfl (by kernel_rfl) rfl (fun _ _ _ _ _ h => h) hHeld rfl ?_ ?_
      rotate_left 1
      · rintro w' ⟨y0, y1⟩
        go_simp
        try with_reducible rfl
      simp only [Act.put]
      refine wpAnyF_take (i := 7) (v := ?_) rfl (by kernel_rfl) (by kernel_rfl) (by kernel_rfl) rfl (by kernel_rfl) rfl (fun _ _ _ _ _ h => h) hHeld rfl ?_ ?_
      rotate_left 1
      · rintro w' ⟨y0, y1⟩
        go_simp
        try with_reducible rfl
      simp only [Act.put]
      refine wpAnyF_take (i := 8) (v := ?_) rfl (by kernel_rfl) (by kernel_rfl) (by kernel_rfl) rfl (by kernel_rfl) rfl (fun _ _ _ _ _ h => h) hHeld rfl ?_ ?_
      rotate_left 1
      · rintro w' ⟨y0, y1⟩
        go_simp
        try with_reducible rfl
      simp only [Act.put]
      refine wpAnyF_take (i := 9) (v := ?_) rfl (by kernel_rfl) (by kernel_rfl) (by kernel_rfl) rfl (by kernel_rfl) rfl (fun _ _ _ _ _ h => h) hHeld rfl ?_ ?_
      rotate_left 1
      · rintro w' ⟨y0, y1⟩
        go_simp
        try with_reducible rfl
      simp only [Act.put]
      refine wpAnyF_take (i := 10) (v := ?_) rfl (by kernel_rfl) (by kernel_rfl) (by kernel_rfl) rfl (by kernel_rfl) rfl (fun _ _ _ _ _ h => h) hHeld rfl ?_ ?_
      rotate_left 1
      · rintro w' ⟨y0, y1⟩
        go_simp
        try with_reducible rfl
      simp only [Act.put]
      refine wpAnyF_one (i := 11) (by kernel_rfl) rfl (fun K hK => ?_)
      refine step_append_nil (R := RS) rfl (.const (.slice none 0 0)) (.tmp 36) 33 rfl Tryz.underlying33 infoStr rfl (by decide) (by decide) x.f6.f3[i].f3 x.f6.f3[i].f3.length rfl KA kc rfl (by simp [Act.eval]) (by exact hRk.out) (by exact one_rs) (by exact hlk.out) ?_
      intro B6 d6 w6 own6 hb6
      obtain ⟨s9, ⟨u3, s3⟩, f3, hfin⟩ := copy_step hs0.out hlt hc.out hv.out (below_then hbd.out hbd.out.size hb6) (own6.lower hbd.out.size)
      replace hfin := Lib.hid hfin
      refine hK.out _ _ ⟨s9, pw_cell_below hb6 hHeld.2⟩ (fun _ => ?_)
      have hS9 := pw_cell_below hb6 hHeld.2
      clear hK K hHeld own6 hb6
      simp only [Act.put]
      refine wpAnyF_one (i := 12) (by kernel_rfl) rfl (fun K hK => ?_)
      go_simp
      refine hK.out _ _ ⟨s9, hS9⟩ (fun _ => ?_)
      clear hK K
      refine wpAnyF_one (i := 13) (by kernel_rfl) rfl (fun K hK => ?_)
      go_simp
      refine hK.out _ _ ⟨s9, hS9⟩ (fun _ => ?_)
      clear hK K
      refine wpAnyF_last (by kernel_rfl) rfl (by kernel_rfl) rfl (fun K hK => ?_)
      go_simp
      refine hK.out _ _ (NoPanic.normal ?_)
      clear hK K
      go_wp2
      go_roundw
      case rel => exact ⟨i + 1, by omega, by go_num, hfin.out.1, hfin.out.2⟩
      case measure => simp [intOf]; omega
    · obtain rfl : i = x.f6.f3.length := by omega
      have hf : FN w0 w wr x B4 d4 B5 d5 B9 d9 _ := ⟨hs0.out, hc.bel, hc.res, hc.p4, hc.p5, hv⟩
      have hf2 := ((((((((((hf.set_ 0 (.int .i64 x.f0)).set_ 1 (.int .i64 x.f1)).set_ 2 (.int .i64 x.f2)).set_ 3 (.int .u64 x.f3)).set_ 4 (.slice B4 x.f4.length d4)).set_ 5 (.slice B5 x.f5.length d5)).set_ 6 (.int .i64 x.f6.f0)).set_ 7 (.int .i64 x.f6.f1)).set_ 8 (.int .u64 x.f6.f2)).set_ 9 (.slice B9 x.f6.f3.length d9))
      have b0 := blk_cell hc.blk 0
      have b1 := blk_cell hc.blk 1
      have b2 := blk_cell hc.blk 2
      have b3 := blk_cell hc.blk 3
      have b4 := blk_cell hc.blk 4
      have b5 := blk_cell hc.blk 5
      have b6 := blk_cell hc.blk 6
      have b7 := blk_cell hc.blk 7
      have b8 := blk_cell hc.blk 8
      have b9 := blk_cell hc.blk 9
      simp only [List.getElem?_toArray, List.getElem?_cons_zero, List.getElem?_cons_succ] at b0 b1 b2 b3 b4 b5 b6 b7 b8 b9
      have hZf := hc.res
      have y0 := blk_cell hZf 0
      have y1 := blk_cell hZf 1
      have y2 := blk_cell hZf 2
      have y3 := blk_cell hZf 3
      have y4 := blk_cell hZf 4
      have y5 := blk_cell hZf 5
      have y6 := blk_cell hZf 6
      have y7 := blk_cell hZf 7
      have y8 := blk_cell hZf 8
      have y9 := blk_cell hZf 9
      simp only [List.getElem?_toArray, List.getElem?_cons_zero, List.getElem?_cons_succ] at y0 y1 y2 y3 y4 y5 y6 y7 y8 y9
      have z0 := blk_frozen hZf 0
      have z1 := blk_frozen hZf 1
      have z2 := blk_frozen hZf 2
      have z3 := blk_frozen hZf 3
      have z4 := blk_frozen hZf 4
      have z5 := blk_frozen hZf 5
      have z6 := blk_frozen hZf 6
      have z7 := blk_frozen hZf 7
      have z8 := blk_frozen hZf 8
      have z9 := blk_frozen hZf 9
      replace hf2 := Lib.hid hf2
      clear hc hv hf
      go_wp2
      simp only [List.setIfInBounds_toArray, List.set_cons_zero, List.set_cons_succ] at hf2
      generalize ((((((((((wr.setCell ⟨w.heap.size + 1, 0, none⟩ (.int .i64 x.f0)).setCell ⟨w.heap.size + 1, 1, none⟩ (.int .i64 x.f1)).setCell ⟨w.heap.size + 1, 2, none⟩ (.int .i64 x.f2)).setCell ⟨w.heap.size + 1, 3, none⟩ (.int .u64 x.f3)).setCell ⟨w.heap.size + 1, 4, none⟩ (.slice B4 x.f4.length d4)).setCell ⟨w.heap.size + 1, 5, none⟩ (.slice B5 x.f5.length d5)).setCell ⟨w.heap.size + 1, 6, none⟩ (.int .i64 x.f6.f0)).setCell ⟨w.heap.size + 1, 7, none⟩ (.int .i64 x.f6.f1)).setCell ⟨w.heap.size + 1, 8, none⟩ (.int .u64 x.f6.f2)).setCell ⟨w.heap.size + 1, 9, none⟩ (.slice B9 x.f6.f3.length d9)) = WF at *
      refine bodyPost_ret ((results_cell rfl _ _ _).trans ?_) rfl ⟨_, _, _, _, _, _, rfl, hf2.out.own, hf2.out.bel⟩
      exact load_ev WF (w.heap.size + 1) _ _ _ _ _ _ _ _ _ _ hf2.out.res
end Go.Proofs.YtiibjgnmdieicaaGreat.Hist
/- the document's machine in memory: New, Count, walked; two machines side by side. -/
namespace Go.Proofs.YtiibjgnmdieicaaGreat.Hist
open Go.RowKit Go.Proofs.YtiibjgnmdieicaaGreatW.PrintWords Go.Sort
abbrev tMr : TypeId := 54
structure MachR (w0 W : World) (M : Nat) (evs : List Evt) : Prop where
  mem : ∃ A c, W.heap[M]? = some (.cells #[.slice A evs.length c] tMr (0, 0)) ∧ OwnRow (EvR w0 W) tE 10 W w0.heap.size (.slice A evs.length c) evs
  base : w0.heap.size ≤ M
  bel : Below w0.heap.size w0 W
theorem MachR.below {w0 W W1 : World} {M : Nat} {evs : List Evt} (h : MachR w0 W M evs) (hb : Below W.heap.size W W1) : MachR w0 W1 M evs := by
  obtain ⟨⟨A, c, h1, h2⟩, h3, h4⟩ := h
  exact ⟨⟨A, c, blk_below h1 hb, (h2.below hb).imp_ fun _ _ h => h.below hb⟩, h3, below_then h4 h4.size hb⟩
set_option maxHeartbeats 1000000 in
theorem newR_any (w0 w : World) (hb : Below w0.heap.size w0 w) : Calls Tryz.prog 8 #[] w fun e w' => ∃ M, e = .returned (.pointer (some ⟨M, 0, none⟩)) ∧ MachR w0 w' M [] ∧ Below w.heap.size w w' := by
  have hB := Lib.hid (below_alloc (Below.refl _ _) (.cells #[.slice none 0 0] 54) : Below w.heap.size w _)
  have hM := Lib.hid (heap_alloc_new w (.cells #[.slice none 0 0] 54))
  replace hb := Lib.hid hb
  go_enter Tryz.func8, Tryz.ntmps8
  go_wp2
  go_ret
  exact ⟨_, rfl, ⟨⟨none, 0, hM.out, OwnRow.none_ _ _ _ _ _⟩, hb.out.size, below_then hb.out hb.out.size hB.out⟩, hB.out⟩
set_option maxHeartbeats 1000000 in
theorem countR_any (w0 w : World) (M : Nat) (evs : List Evt) (h : MachR w0 w M evs) : Calls Tryz.prog 12 #[.pointer (some ⟨M, 0, none⟩)] w fun e w' => e = .returned (.int .i64 evs.length) ∧ w = w' := by
  obtain ⟨⟨A, c, h1, _⟩, _, _⟩ := h
  have c0 := blk_cell h1 0
  simp only [List.getElem?_toArray, List.getElem?_cons_zero] at c0
  clear h1
  go_enter Tryz.func12, Tryz.ntmps12
  go_wp2
  go_ret
  exact ⟨rfl, rfl⟩
theorem MachR.put {w0 W : World} {M : Nat} {evs evs' : List Evt} (h : MachR w0 W M evs) {A1 : Option Addr} {c1 m : Nat} (hO : OwnRow (EvR w0 W) tE 10 W w0.heap.size (.slice A1 m c1) evs') (hm : evs'.length = m) : MachR w0 (W.setCell ⟨M, 0, none⟩ (.slice A1 m c1)) M evs' := by
  obtain ⟨⟨A, c, h1, h2⟩, h3, h4⟩ := h
  subst hm
  exact ⟨⟨A1, c1, by simpa using blk_set h1 0 (.slice A1 evs'.length c1), (hO.imp_ fun _ _ hp => hp.set_ h1 (by decide) (by decide) (by decide) h3 _ _).set_ h1 (by decide) _ _⟩, h3, below_set_ h4 h3 _⟩
theorem MachR.cell {w0 W : World} {M : Nat} {evs : List Evt} (h : MachR w0 W M evs) : (∃ u, W.cell? ⟨M, 0, none⟩ = some u) ∧ W.frozen? ⟨M, 0, none⟩ = false := by
  obtain ⟨⟨A, c, h1, h2⟩, h3, h4⟩ := h
  exact ⟨⟨_, blk_cell h1 0⟩, blk_frozen h1 0⟩
/-- the program's machine is written: the document's is as it was -/
theorem MachR.other {w0 W : World} {M X : Nat} {evs evs' : List Evt} (h : MachR w0 W X evs') (hM : MachAt w0 W M evs) (u : Value) : MachR w0 (W.setCell ⟨M, 0, none⟩ u) X evs' := by
  obtain ⟨⟨A, c, h1, h2⟩, h3, h4⟩ := h
  obtain ⟨⟨A', c', k1, _⟩, k3, _⟩ := hM
  exact ⟨⟨A, c, blk_far h1 (blk_ne h1 k1 (by decide)) _, (h2.imp_ fun _ _ hp => hp.set_ k1 (by decide) (by decide) (by decide) k3 _ _).set_ k1 (by decide) _ _⟩, h3, below_set_ h4 k3 _⟩
theorem MachAt.other {w0 W : World} {M X : Nat} {evs evs' : List Evt} (h : MachAt w0 W M evs) (hX : MachR w0 W X evs') (u : Value) : MachAt w0 (W.setCell ⟨X, 0, none⟩ u) M evs := by
  obtain ⟨⟨A, c, h1, h2⟩, h3, h4⟩ := h
  obtain ⟨⟨A', c', k1, _⟩, k3, _⟩ := hX
  exact ⟨⟨A, c, blk_far h1 (blk_ne h1 k1 (by decide)) _, (h2.imp_ fun _ _ hp => hp.set_ k1 (by decide) (by decide) (by decide) k3 _ _).set_ k1 (by decide) _ _⟩, h3, below_set_ h4 k3 _⟩
/-- what the document's Step leaves, and that it writes nothing else -/
def SteppedR (w0 W : World) (M : Nat) (evs : List Evt) (x : Evt) (sw : Int) (e : Ending) (w' : World) : Prop := e = .returned (.int .i64 sw) ∧ ∃ W3, Below W.heap.size W W3 ∧ MachR w0 W3 M evs ∧ ((sw ≠ 0 ∧ w' = W3) ∨ (sw = 0 ∧ (∃ u, w' = W3.setCell ⟨M, 0, none⟩ u) ∧ MachR w0 w' M (evs ++ [x])))
/-- keys, behind an append to a row of events -/
theorem keys_grown {W W1 : World} {A : Option Addr} {l : List ByteArray} (hC : Kd.C Kd.string W A l.length l) {row : Option Nat} (hg : W.grownBy W1 row) (hn : 0 < l.length → ∀ ad, A = some ad → some ad.block ≠ row) : Kd.C Kd.string W1 A l.length l := by
  refine ⟨hC.1, hC.2.1, fun h0 => ?_⟩
  obtain ⟨ad, ea, hc⟩ := hC.2.2 h0
  refine ⟨ad, ea, fun t q hq => ?_⟩
  obtain ⟨c1, h1, h2, h3⟩ := hc t q hq
  refine ⟨c1, h1, h2, fun i u hu => ?_⟩
  have hx := h3 i u hu
  have hb : (ad.add (t * Kd.string.sz + i)).block = ad.block := by unfold Addr.add; split <;> rfl
  rw [World.cell?_of_block (hg.block _ (World.block_lt_of_cell? W _ hx) (by rw [hb]; exact hn h0 ad ea))]
  exact hx
theorem VR.grown {w W W1 : World} {p : Ver} {cs : List Value} (h : VR w W p cs) {row : Option Nat} (hg : W.grownBy W1 row) (hr : ∀ g, row = some g → w.heap.size ≤ g ∧ ∃ c, W.heap[g]? = some (.cells c tE (0, 0))) : VR w W1 p cs := by
  obtain ⟨A, c, e, hl, hC, hn⟩ := h
  have hne : 0 < p.f3.length → ∀ ad, A = some ad → some ad.block ≠ row := fun h0 ad ea er => by
    obtain ⟨h1, c0, h2⟩ := hr _ er.symm
    exact (hn h0 ad ea).ne h2 (by decide) h1 rfl
  refine ⟨A, c, e, hl, keys_grown hC hg hne, fun h0 ad ea => ?_⟩
  rcases hn h0 ad ea with h | ⟨cur, h⟩
  · exact .inl h
  · exact .inr ⟨cur, blk_grown h hg (hne h0 ad ea)⟩
theorem EvR.grown {w0 W W1 : World} {x : Evt} {cs : List Value} (h : EvR w0 W x cs) {row : Option Nat} (hg : W.grownBy W1 row) (hr : ∀ g, row = some g → w0.heap.size ≤ g ∧ ∃ c, W.heap[g]? = some (.cells c tE (0, 0))) : EvR w0 W1 x cs := by
  have far : ∀ {α : Type} {R : α → List Value → Prop} {e size b : Nat} {v : Value} {l : List α}, OwnRow R e size W b v l → e ≠ tE → v.ownBlock = none ∨ v.ownBlock ≠ row := fun {α R e size b v l} ho hne => by
    cases hv : v.ownBlock with
    | none => exact .inl rfl
    | some k =>
      refine .inr fun er => ?_
      obtain ⟨_, c0, h2⟩ := hr k er.symm
      exact ho.ne_block h2 hne hv.symm
  obtain ⟨B4, d4, B5, d5, B9, d9, e, p4, p5, p9⟩ := h
  exact ⟨B4, d4, B5, d5, B9, d9, e, p4.other hg (far p4 (by decide)), p5.other hg (far p5 (by decide)), (p9.imp_ fun _ _ hp => hp.grown hg hr).other hg (far p9 (by decide))⟩
/-- an element put into memory by itself -/
theorem new_row {α : Type} {R : α → List Value → Prop} {size : Nat} (W : World) (e : TypeId) {x : α} {cs : List Value} (hR : R x cs) (hl : cs.length = size) : ReadsRow R size (W.alloc (.cells cs.toArray e)) (some ⟨W.heap.size, 0, none⟩) ([x] : List α).length [x] := by
  refine ⟨rfl, (by decide : 1 ≤ 9223372036854775807), fun _ => ⟨_, rfl, fun j q hq => ?_⟩⟩
  cases j with
  | zero =>
    simp only [List.getElem?_cons_zero, Option.some.injEq] at hq
    subst hq
    refine ⟨cs, hl, hR, fun i u hu => ?_⟩
    have hb := blk_cell (heap_alloc_new W (.cells cs.toArray e)) i
    rw [Nat.zero_mul, Nat.zero_add]
    rw [show (⟨W.heap.size, 0, none⟩ : Addr).add i = ⟨W.heap.size, i, none⟩ from by unfold Addr.add; split <;> simp_all]
    rw [hb, List.getElem?_toArray]
    exact hu
  | succ j => simp at hq
/-- a row of one's own events is read -/
theorem row_read {w0 W : World} {b : Nat} {A : Option Addr} {n c : Nat} {l : List Evt} (h : OwnRow (EvR w0 W) tE 10 W b (.slice A n c) l) : ReadsRow (EvR w0 W) 10 W A l.length l := by
  obtain ⟨A1, c1, e1, _, hr⟩ := h.reads
  injection e1 with e1 _ _
  subst e1
  exact hr
theorem reads_below {w0 W W1 : World} {A : Option Addr} {l : List Evt} (h : ReadsRow (EvR w0 W) 10 W A l.length l) (hb : Below W.heap.size W W1) : ReadsRow (EvR w0 W1) 10 W1 A l.length l := h.imp_ hb fun _ _ h => h.below hb
/-- the row of events that is appended to -/
theorem row_grown {w0 W W1 : World} {b : Nat} (hb : w0.heap.size ≤ b) {v v1 : Value} {l l' : List Evt} (h0 : OwnRow (EvR w0 W) tE 10 W b v l) (h : OwnRow (EvR w0 W) tE 10 W1 b v1 l') (hg : W.grownBy W1 v.ownBlock) : OwnRow (EvR w0 W1) tE 10 W1 b v1 l' :=
  h.imp_ fun _ _ hp => hp.grown hg fun g e => ⟨Nat.le_trans hb (own_ge h0 g e), own_typed2 h0 e⟩
end Go.Proofs.YtiibjgnmdieicaaGreat.Hist
