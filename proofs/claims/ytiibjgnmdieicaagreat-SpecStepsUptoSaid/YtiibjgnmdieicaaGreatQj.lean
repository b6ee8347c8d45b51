/- spec: collect, in plain words; its memory. -/
import Derived.Test.YtiibjgnmdieicaaGreatQi
import Derived.StillTailTactics
namespace Go.Proofs.YtiibjgnmdieicaaGreat.Hist
open Go.RowKit Go.Proofs.YtiibjgnmdieicaaGreatW.PrintWords Go.Sort
open Go.Maps (Keyed)
structure Cs where
  o : Os
  last : Int → Option Nat
def newSw (i : Int) (e : Evt) : Sw := ⟨e, i, -1, 0, [], false⟩
def doneW (x : Sw) (i : Int) : Sw := ⟨x.ev, x.place, i, x.waits, x.behind, x.placed⟩
def pushS (o : Os) (i : Int) (e : Evt) : Os := ⟨o.ws ++ [newSw i e], putF o.ids e.f3 o.ws.length, o.rnd⟩
def collS (s : Cs) (i : Int) (e : Evt) : Cs :=
  if e.f0 = 1 ∧ e.f3 ≠ 0 then ⟨match s.last e.f1 with
    | none => pushS s.o i e
    | some u => aheadS (pushS s.o i e) u e.f3, putF s.last e.f1 s.o.ws.length⟩
  else if e.f0 = 3 ∧ e.f6.f2 ≠ 0 ∧ e.f6.f1 = 1 then match s.o.ids e.f6.f2 with
    | none => s
    | some n => ⟨⟨s.o.ws.modify n fun x => doneW x i, s.o.ids, s.o.rnd⟩, s.last⟩
  else s
def collAll : List Evt → Int → Cs → Cs
  | [], _, s => s
  | e :: r, i, s => collAll r (i + 1) (collS s i e)
def cs0 : Cs := ⟨⟨[], fun _ => none, false⟩, fun _ => none⟩
theorem coll_step {l : List Evt} {j : Nat} {s s0 : Cs} (hlt : j < l.length) (hp : collAll l 0 s0 = collAll (l.drop j) j s) : collAll l 0 s0 = collAll (l.drop (j + 1)) ((j + 1 : Nat) : Int) (collS s j l[j]) := by
  rw [hp, List.drop_eq_getElem_cons hlt, collAll]
  rfl
/-- no number of the order's is great -/
def Bnd (n : Nat) (ws : List Sw) : Prop := ∀ i (h : i < ws.length), 0 ≤ ws[i].waits ∧ ws[i].waits ≤ n ∧ ws[i].behind.length ≤ n
theorem Bnd.push {n : Nat} {ws : List Sw} (h : Bnd n ws) (i : Int) (e : Evt) : Bnd n (ws ++ [newSw i e]) := fun k hk => by
  by_cases hl : k < ws.length
  · rw [List.getElem_append_left hl]
    exact h k hl
  · rw [List.length_append, List.length_singleton] at hk
    obtain rfl : k = ws.length := by omega
    rw [List.getElem_append_right (Nat.le_refl _)]
    simp [newSw]
theorem Bnd.mono {n m : Nat} {ws : List Sw} (h : Bnd n ws) (hn : n ≤ m) : Bnd m ws := fun k hk => by
  obtain ⟨h1, h2, h3⟩ := h k hk
  omega
theorem Bnd.ahead {n : Nat} {ws : List Sw} (h : Bnd n ws) (u v : Nat) : Bnd (n + 1) (aheadW ws u v) := fun k hk => by
  unfold aheadW at hk ⊢
  simp only [List.length_modify] at hk
  rw [List.getElem_modify]
  have e : ∀ hk', (ws.modify u fun x => behindW x v)[k]'hk' = if u = k then behindW (ws[k]'hk) v else ws[k]'hk := fun hk' => by rw [List.getElem_modify]
  rw [e]
  obtain ⟨h1, h2, h3⟩ := h k hk
  split <;> split <;> simp [waitsW, behindW] <;> omega
theorem Bnd.aheadS {n : Nat} {o : Os} (h : Bnd n o.ws) (u : Nat) (id : Int) : Bnd (n + 1) (aheadS o u id).ws := by
  unfold Hist.aheadS
  split
  · exact h.mono (Nat.le_succ _)
  · split
    · exact h.mono (Nat.le_succ _)
    · split
      · exact h.mono (Nat.le_succ _)
      · exact h.ahead _ _
theorem Bnd.done {n : Nat} {ws : List Sw} (h : Bnd n ws) (u : Nat) (i : Int) : Bnd n (ws.modify u fun x => doneW x i) := fun k hk => by
  simp only [List.length_modify] at hk
  rw [List.getElem_modify]
  split <;> exact h k hk
theorem aheadS_len (o : Os) (u : Nat) (id : Int) : (aheadS o u id).ws.length = o.ws.length := by
  unfold aheadS
  split
  · rfl
  · split
    · rfl
    · split
      · rfl
      · simp [aheadW]
variable {w0 W W1 : World} {Bo Bm : Nat} {rv : Value} {bs : List Nat} {vs : Nat → Value} {nm : Nat} {ws : List Sw} {ids : Int → Option Nat} {rnd : Bool}
/-- another map's block is written -/
theorem OS.othermap (h : OS w0 W Bo Bm rv bs vs nm ws ids rnd) {Bl : Nat} (hno : ∀ {c : Array Value} {t : TypeId} {fr : Nat × Nat}, W.heap[Bl]? ≠ some (.cells c t fr)) (hne : Bm ≠ Bl) (hb : w0.heap.size ≤ Bl) (hg : W.grownBy W1 (some Bl)) : OS w0 W1 Bo Bm rv bs vs nm ws ids rnd := by
  have hne' : ∀ {c : Array Value} {t : TypeId} {g : Nat}, W.heap[g]? = some (.cells c t (0, 0)) → some g ≠ some Bl := fun hc e => by
    injection e with e
    subst e
    exact hno hc
  have hrow : ∀ {α : Type} {R : α → List Value → Prop} {e : TypeId} {v : Value} {l : List α}, OwnRow R e 1 W w0.heap.size v l → OwnRow R e 1 W1 w0.heap.size v l := fun hr => hr.other hg (by
    rename_i v _
    cases hv : v.ownBlock with
    | none => exact .inl rfl
    | some k =>
      obtain ⟨cells, hk⟩ := own_typed2 hr hv
      exact .inr (hne' hk))
  refine ⟨blk_grown h.bo hg (hne' h.bo), hrow h.row, h.mp.kept hg (fun e => hne (by injection e)), h.inb, h.len, ?_, h.far, h.dis, h.hi, h.bas, pw_below_grown h.bel _ h.bel.size hg (fun k e => by injection e with e; subst e; exact hb)⟩
  intro i b x h1 h2
  obtain ⟨A4, c4, A5, c5, A9, c9, hB, hK, hri⟩ := h.wr i b x h1 h2
  exact ⟨A4, c4, A5, c5, A9, c9, blk_grown hB hg (hne' hB), hK, hrow hri⟩
theorem col_start (w : World) : OS w (((w.alloc (.map #[] 0)).alloc (.cells #[.slice none 0 0, .map (some w.heap.size), .bool false] tOr)).alloc (.map #[] 0)) (w.heap.size + 1) w.heap.size (.slice none 0 0) [] (fun _ => .slice none 0 0) 0 [] (fun _ => none) false ∧
    MapIs Tryz.prog tI kvInt (((w.alloc (.map #[] 0)).alloc (.cells #[.slice none 0 0, .map (some w.heap.size), .bool false] tOr)).alloc (.map #[] 0)) (w.heap.size + 2) 0 (fun _ => none) := by
  have h1 : Below w.heap.size w (w.alloc (.map #[] 0)) := below_alloc (Below.refl _ _) _
  have h2 : ∀ (W : World) (o : Obj), Below W.heap.size W (W.alloc o) := fun W o => below_alloc (Below.refl _ _) _
  have m1 := MapIs.made Tryz.prog tID kvId w
  have m2 := MapIs.made Tryz.prog tI kvInt ((w.alloc (.map #[] 0)).alloc (.cells #[.slice none 0 0, .map (some w.heap.size), .bool false] tOr))
  have hc := heap_alloc_new (w.alloc (.map #[] 0)) (.cells #[.slice none 0 0, .map (some w.heap.size), .bool false] tOr)
  rw [World.size_alloc] at hc
  refine ⟨⟨blk_below hc (h2 _ _), OwnRow.none_ _ _ _ _ _, (m1.below (h2 _ _)).below (h2 _ _), fun q n h => (by cases h), rfl, fun i b x h _ => (by simp at h), fun i j hi => absurd hi (Nat.not_lt_zero _), fun i j b h _ => (by simp at h), fun b h => (by simp at h), ⟨by omega, Nat.le_refl _⟩, below_then (below_then h1 h1.size (h2 _ _)) (Nat.le_trans h1.size (h2 _ _).size) (h2 _ _)⟩, ?_⟩
  rw [show ((w.alloc (.map #[] 0)).alloc (.cells #[.slice none 0 0, .map (some w.heap.size), .bool false] tOr)).heap.size = w.heap.size + 2 by simp] at m2
  exact m2
theorem MapIs.run2 {κ : Type} {P : Program} {k : TypeId} {kv : κ → Value} {w : World} {b n : Nat} {f : κ → Option Value} (h : MapIs P k kv w b n f) {t e : TypeId} (K : Keyed P k) (ht : P.underlying t = some (.map k e)) {z : Value} (hz : (zeroValue e).run P w = .ok z w) (key : κ) (hkey : ∃ kl, keyOf P k (kv key) = some kl) (v : Value) (r : Bool) (hv : (f key).getD z = v) (hr : (f key).isSome = r) : (Instr.lookup t (.map (some b)) (kv key) true).run P w = .ok (.tuple #[v, .bool r]) w := by
  obtain ⟨D, hD, hf⟩ := h
  obtain ⟨kl, hkl⟩ := hkey
  obtain ⟨v', ps, hrun, hv'⟩ := hD.look_ok K ht hz (R := anyElem) (zd := .held z) (zp := []) rfl hkl
  have e1 := MapIs.got (hf key kl hkl) hv'
  rw [e1, hv, (hf key kl hkl).1, hr] at hrun
  exact hrun
structure CollIn (l : List Evt) : Prop where
  few : l.length ≤ 1048576
  kind : ∀ j (h : j < l.length), l[j].f0 = 1 ∨ l[j].f0 = 2 ∨ l[j].f0 = 3
  c64 : ∀ j (h : j < l.length), in64 l[j].f1
  u64 : ∀ j (h : j < l.length), (Lit.int .u64 l[j].f3).wf = true
  a64 : ∀ j (h : j < l.length), (Lit.int .u64 l[j].f6.f2).wf = true
def RelC (w : World) (l : List Evt) (s18 : Value) (wr : World) : Prop :=
  ∃ (j : Nat) (s : Cs) (rv : Value) (bs : List Nat) (vs : Nat → Value) (nm nl : Nat), j ≤ l.length ∧ s18 = .int .i64 j ∧ collAll l 0 cs0 = collAll (l.drop j) j s ∧ OS w wr (w.heap.size + 1) w.heap.size rv bs vs nm s.o.ws s.o.ids s.o.rnd ∧ MapIs Tryz.prog tI kvInt wr (w.heap.size + 2) nl (fun q => (s.last q).map fun n : Nat => .int .i64 n) ∧ (∀ q u, s.last q = some u → u < s.o.ws.length) ∧ nm ≤ j ∧ nl ≤ j ∧ s.o.ws.length ≤ j ∧ Bnd j s.o.ws
end Go.Proofs.YtiibjgnmdieicaaGreat.Hist
/- spec: collect, walked. -/
namespace Go.Proofs.YtiibjgnmdieicaaGreat.Hist
open Go.RowKit Go.Proofs.YtiibjgnmdieicaaGreatW.PrintWords Go.Sort
open Go.Maps (Keyed)
/-- what collect hands back -/
def Collected (w : World) (l : List Evt) (e : Ending) (w' : World) : Prop := ∃ Bo Bm rv bs vs nm, e = .returned (.pointer (some ⟨Bo, 0, none⟩)) ∧ OS w w' Bo Bm rv bs vs nm (collAll l 0 cs0).o.ws (collAll l 0 cs0).o.ids (collAll l 0 cs0).o.rnd ∧ Bnd l.length (collAll l 0 cs0).o.ws ∧ (collAll l 0 cs0).o.ws.length ≤ l.length
theorem infoPtrS : (Tryz.prog.info? 98).map (fun i => (i.zero, i.size, i.bytes)) = some (some (.pointer none), 1, 8) := by kernel_rfl
def SE (Bo : Nat) (rv : Value) (E0 : Nat) (x : Evt) (A4 : Option Addr) (c4 : Nat) (A5 : Option Addr) (c5 : Nat) (A9 : Option Addr) (c9 : Nat) (W : World) : Prop :=
  W.cell? ⟨Bo, 0, none⟩ = some rv ∧ W.cell? ⟨E0, 0, none⟩ = some (.int .i64 x.f0) ∧ W.cell? ⟨E0, 1, none⟩ = some (.int .i64 x.f1) ∧ W.cell? ⟨E0, 2, none⟩ = some (.int .i64 x.f2) ∧ W.cell? ⟨E0, 3, none⟩ = some (.int .u64 x.f3) ∧ W.cell? ⟨E0, 4, none⟩ = some (.slice A4 x.f4.length c4) ∧ W.cell? ⟨E0, 5, none⟩ = some (.slice A5 x.f5.length c5) ∧ W.cell? ⟨E0, 6, none⟩ = some (.int .i64 x.f6.f0) ∧ W.cell? ⟨E0, 7, none⟩ = some (.int .i64 x.f6.f1) ∧ W.cell? ⟨E0, 8, none⟩ = some (.int .u64 x.f6.f2) ∧ W.cell? ⟨E0, 9, none⟩ = some (.slice A9 x.f6.f3.length c9)
theorem SE.mk {Bo : Nat} {rv m r : Value} {E0 : Nat} {x : Evt} {A4 : Option Addr} {c4 : Nat} {A5 : Option Addr} {c5 : Nat} {A9 : Option Addr} {c9 : Nat} {W : World} (h1 : W.heap[Bo]? = some (.cells #[rv, m, r] tOr (0, 0)))
    (h2 : W.heap[E0]? = some (.cells #[.int .i64 x.f0, .int .i64 x.f1, .int .i64 x.f2, .int .u64 x.f3, .slice A4 x.f4.length c4, .slice A5 x.f5.length c5, .int .i64 x.f6.f0, .int .i64 x.f6.f1, .int .u64 x.f6.f2, .slice A9 x.f6.f3.length c9] 38 (0, 0))) : SE Bo rv E0 x A4 c4 A5 c5 A9 c9 W :=
  ⟨blk_cell h1 0, blk_cell h2 0, blk_cell h2 1, blk_cell h2 2, blk_cell h2 3, blk_cell h2 4, blk_cell h2 5, blk_cell h2 6, blk_cell h2 7, blk_cell h2 8, blk_cell h2 9⟩
theorem RelC.next {w W : World} {l : List Evt} {j : Nat} {s : Cs} {o' : Os} {rv : Value} {bs : List Nat} {vs : Nat → Value} {nm nl : Nat} (hlt : j < l.length) (hs : collAll l 0 cs0 = collAll (l.drop (j + 1)) ((j + 1 : Nat) : Int) ⟨o', putF s.last l[j].f1 s.o.ws.length⟩)
    (hS : OS w W (w.heap.size + 1) w.heap.size rv bs vs (nm + 1) o'.ws o'.ids o'.rnd) (hm : MapIs Tryz.prog tI kvInt W (w.heap.size + 2) (nl + 1) (putF (fun q => (s.last q).map fun n : Nat => .int .i64 n) l[j].f1 (.int .i64 s.o.ws.length))) (hlb : ∀ q u, s.last q = some u → u < s.o.ws.length) (hnm : nm ≤ j) (hnl : nl ≤ j) (hln : o'.ws.length = s.o.ws.length + 1) (hle : o'.ws.length ≤ j + 1) (hb : Bnd (j + 1) o'.ws) :
    RelC w l (.int .i64 ((j + 1 : Nat) : Int)) W :=
  ⟨j + 1, ⟨o', putF s.last l[j].f1 s.o.ws.length⟩, rv, bs, vs, nm + 1, nl + 1, hlt, rfl, hs, hS, hm.congr fun q => map_putF s.last _ _ (fun n : Nat => Value.int .i64 n) q, (fun q u h => by
    show u < o'.ws.length
    simp only [putF] at h
    rw [hln]
    split at h
    · injection h with h
      omega
    · have := hlb q u h
      omega), by omega, by omega, hle, hb⟩
set_option maxHeartbeats 16000000 in
set_option maxRecDepth 100000 in
theorem collect_any (A : Option Addr) (c : Nat) (l : List Evt) (w : World) (hC : kEvt.C w A l.length l) (hI : CollIn l) :
    Calls Tryz.prog 28 #[.slice A l.length c] w (Collected w l) := by
  have hst := Lib.hid (col_start w)
  have hm : l.length ≤ 9223372036854775807 := hC.2.1
  replace hC := Lib.hid hC
  replace hI := Lib.hid hI
  have hmm := @run_makeMap Tryz.prog
  go_enter Tryz.func28, Tryz.ntmps28
  go_wp2
  go_loopw [18] (fun s wr => RelC w l s wr) (fun s _ => l.length - (intOf s).toNat)
  case atStart => exact ⟨0, cs0, _, [], _, 0, 0, Nat.zero_le _, rfl, rfl, hst.out.1, hst.out.2, (fun q u h => by cases h), Nat.le_refl _, Nat.le_refl _, Nat.le_refl _, fun i hi => absurd hi (Nat.not_lt_zero _)⟩
  case round =>
    clear hmm hst
    obtain ⟨j, s, rv, bs, vs, nm, nl, hj, rfl, hp, hS, hM, hlb, hnm, hnl, hwl, hbn⟩ := hrel
    by_cases hlt : j < l.length
    · have hjl := hI.out.few
      have hkind := hI.out.kind j hlt
      have hkl := keyInt l[j].f1 (hI.out.c64 j hlt)
      have hki := keyId l[j].f3 (hI.out.u64 j hlt)
      have hka := keyId l[j].f6.f2 (hI.out.a64 j hlt)
      have huw := hI.out.u64 j hlt
      obtain ⟨ad, A4, c4, A5, c5, A9, c9, rfl, q0, q1, q2, q3, q4, q5, q6, q7, q8, q9, hK, hl9, hk9⟩ := evt_at hC.out hlt
      have hb0 := hS.bel
      replace q0 := pw_cell_below hb0 q0
      replace q1 := pw_cell_below hb0 q1
      replace q2 := pw_cell_below hb0 q2
      replace q3 := pw_cell_below hb0 q3
      replace q4 := pw_cell_below hb0 q4
      replace q5 := pw_cell_below hb0 q5
      replace q6 := pw_cell_below hb0 q6
      replace q7 := pw_cell_below hb0 q7
      replace q8 := pw_cell_below hb0 q8
      replace q9 := pw_cell_below hb0 q9
      have hstep := coll_step hlt hp
      have hsz : w.heap.size + 2 < wr.heap.size := hM.lt
      clear hp hb0 hk9 hl9
      have hbE : Below wr.heap.size wr (wr.alloc (.cells #[.int .i64 l[j].f0, .int .i64 l[j].f1, .int .i64 l[j].f2, .int .u64 l[j].f3, .slice A4 l[j].f4.length c4, .slice A5 l[j].f5.length c5, .int .i64 l[j].f6.f0, .int .i64 l[j].f6.f1, .int .u64 l[j].f6.f2, .slice A9 l[j].f6.f3.length c9] 38)) := below_alloc (Below.refl _ _) _
      have hE := heap_alloc_new wr (.cells #[.int .i64 l[j].f0, .int .i64 l[j].f1, .int .i64 l[j].f2, .int .u64 l[j].f3, .slice A4 l[j].f4.length c4, .slice A5 l[j].f5.length c5, .int .i64 l[j].f6.f0, .int .i64 l[j].f6.f1, .int .u64 l[j].f6.f2, .slice A9 l[j].f6.f3.length c9] 38)
      have hS1 := Lib.hid (hS.below hbE)
      have hM1 := Lib.hid (hM.below hbE)
      replace hK := Lib.hid hK
      replace hE := Lib.hid hE
      have hin := Lib.hid hS.inb
      replace hlb := Lib.hid hlb
      replace hbn := Lib.hid hbn
      replace hkl := Lib.hid hkl
      replace hki := Lib.hid hki
      replace hka := Lib.hid hka
      replace huw := Lib.hid huw
      have o0 := blk_cell hS.bo 0
      have ol := blk_lt hS.bo
      simp only [List.getElem?_toArray, List.getElem?_cons_zero] at o0
      clear hS hM hbE
      unfold collS at hstep
      have hsame : ∀ W2, Below (wr.alloc (.cells #[.int .i64 l[j].f0, .int .i64 l[j].f1, .int .i64 l[j].f2, .int .u64 l[j].f3, .slice A4 l[j].f4.length c4, .slice A5 l[j].f5.length c5, .int .i64 l[j].f6.f0, .int .i64 l[j].f6.f1, .int .u64 l[j].f6.f2, .slice A9 l[j].f6.f3.length c9] 38)).heap.size (wr.alloc (.cells #[.int .i64 l[j].f0, .int .i64 l[j].f1, .int .i64 l[j].f2, .int .u64 l[j].f3, .slice A4 l[j].f4.length c4, .slice A5 l[j].f5.length c5, .int .i64 l[j].f6.f0, .int .i64 l[j].f6.f1, .int .u64 l[j].f6.f2, .slice A9 l[j].f6.f3.length c9] 38)) W2 → collAll l 0 cs0 = collAll (l.drop (j + 1)) ((j + 1 : Nat) : Int) s → RelC w l (.int .i64 ((j + 1 : Nat) : Int)) W2 := fun W2 hb hs =>
        ⟨j + 1, s, rv, bs, vs, nm, nl, by omega, rfl, hs, hS1.out.below hb, hM1.out.below hb, hlb.out, by omega, by omega, by omega, hbn.out.mono (by omega)⟩
      replace hsame := Lib.hid hsame
      rcases hkind with k1 | k1 | k1
      · have b1 : (l[j].f0 == 1) = true := beq_iff_eq.2 k1
        have b2 : (l[j].f0 == 3) = false := by rw [k1]; rfl
        by_cases h3 : l[j].f3 = 0
        · have b3 : (l[j].f3 != 0) = false := by rw [h3]; rfl
          rw [if_neg (fun h => h.2 h3), if_neg (by omega)] at hstep
          replace hstep := Lib.hid hstep
          replace k1 := Lib.hid k1
          replace h3 := Lib.hid h3
          go_wp2
          go_roundw
          case rel => exact hsame.out _ (Below.refl _ _) hstep.out
          case measure => simp [intOf]; omega
        · have b3 : (l[j].f3 != 0) = true := by simpa using h3
          rw [if_pos ⟨k1, h3⟩] at hstep
          obtain ⟨RA, rc, rfl⟩ := slice_of hS1.out.row rfl
          have hbl : bs.length = s.o.ws.length := hS1.out.len
          have s5 : (bs.length + 1) * 8 ≤ 140737488355328 := by omega
          replace hbl := Lib.hid hbl
          have hln := Lib.hid (by simp : ∀ E, (bs ++ [E]).length = bs.length + 1)
          have hbm : w.heap.size ≤ w.heap.size + 1 := Nat.le_succ _
          have hE0 : w.heap.size ≤ wr.heap.size := by omega
          replace hstep := Lib.hid hstep
          replace k1 := Lib.hid k1
          replace h3 := Lib.hid h3
          clear hsame
          go_wp2
          clear q0 q1 q2 q3 q4 q5 q6 q7 q8 q9 o0 ol
          have hsz1 : wr.heap.size < (wr.alloc (.cells #[.int .i64 l[j].f0, .int .i64 l[j].f1, .int .i64 l[j].f2, .int .u64 l[j].f3, .slice A4 l[j].f4.length c4, .slice A5 l[j].f5.length c5, .int .i64 l[j].f6.f0, .int .i64 l[j].f6.f1, .int .u64 l[j].f6.f2, .slice A9 l[j].f6.f3.length c9] 38)).heap.size := by simp
          generalize wr.alloc (.cells #[.int .i64 l[j].f0, .int .i64 l[j].f1, .int .i64 l[j].f2, .int .u64 l[j].f3, .slice A4 l[j].f4.length c4, .slice A5 l[j].f5.length c5, .int .i64 l[j].f6.f0, .int .i64 l[j].f6.f1, .int .u64 l[j].f6.f2, .slice A9 l[j].f6.f3.length c9] 38) = W1 at *
          generalize wr.heap.size = E0 at *
          clear wr
          have bd : Below W1.heap.size W1 W1.drew := below_drew (Below.refl _ _)
          have hSD := hS1.out.below bd
          have hED := blk_below hE.out bd
          have hMD := hM1.out.below bd
          have hHeld : SE (w.heap.size + 1) (.slice RA bs.length rc) E0 l[j] A4 c4 A5 c5 A9 c9 W1.drew := SE.mk hSD.bo hED
          have hXb : Below W1.drew.heap.size W1.drew (W1.drew.alloc (.cells #[.int .i64 l[j].f0, .int .i64 l[j].f1, .int .i64 l[j].f2, .int .u64 l[j].f3, .slice A4 l[j].f4.length c4, .slice A5 l[j].f5.length c5, .int .i64 l[j].f6.f0, .int .i64 l[j].f6.f1, .int .u64 l[j].f6.f2, .slice A9 l[j].f6.f3.length c9, .int .i64 j, .int .i64 (-1), .int .i64 0, .slice none 0 0, .bool false] tSW)) := below_alloc (Below.refl _ _) _
          have hX := heap_alloc_new W1.drew (.cells #[.int .i64 l[j].f0, .int .i64 l[j].f1, .int .i64 l[j].f2, .int .u64 l[j].f3, .slice A4 l[j].f4.length c4, .slice A5 l[j].f5.length c5, .int .i64 l[j].f6.f0, .int .i64 l[j].f6.f1, .int .u64 l[j].f6.f2, .slice A9 l[j].f6.f3.length c9, .int .i64 j, .int .i64 (-1), .int .i64 0, .slice none 0 0, .bool false] tSW)
          have hSX := hSD.below hXb
          have hEX := blk_below hED hXb
          have hMX := hMD.below hXb
          have hnX := hSD.nin
          have hw : SwB w (W1.drew.alloc (.cells #[.int .i64 l[j].f0, .int .i64 l[j].f1, .int .i64 l[j].f2, .int .u64 l[j].f3, .slice A4 l[j].f4.length c4, .slice A5 l[j].f5.length c5, .int .i64 l[j].f6.f0, .int .i64 l[j].f6.f1, .int .u64 l[j].f6.f2, .slice A9 l[j].f6.f3.length c9, .int .i64 j, .int .i64 (-1), .int .i64 0, .slice none 0 0, .bool false] tSW)) W1.drew.heap.size (newSw j l[j]) (.slice none 0 0) := ⟨A4, c4, A5, c5, A9, c9, hX, hK.out, OwnRow.none_ _ _ _ _ _⟩
          have hYb : Below (W1.drew.alloc (.cells #[.int .i64 l[j].f0, .int .i64 l[j].f1, .int .i64 l[j].f2, .int .u64 l[j].f3, .slice A4 l[j].f4.length c4, .slice A5 l[j].f5.length c5, .int .i64 l[j].f6.f0, .int .i64 l[j].f6.f1, .int .u64 l[j].f6.f2, .slice A9 l[j].f6.f3.length c9, .int .i64 j, .int .i64 (-1), .int .i64 0, .slice none 0 0, .bool false] tSW)).heap.size (W1.drew.alloc (.cells #[.int .i64 l[j].f0, .int .i64 l[j].f1, .int .i64 l[j].f2, .int .u64 l[j].f3, .slice A4 l[j].f4.length c4, .slice A5 l[j].f5.length c5, .int .i64 l[j].f6.f0, .int .i64 l[j].f6.f1, .int .u64 l[j].f6.f2, .slice A9 l[j].f6.f3.length c9, .int .i64 j, .int .i64 (-1), .int .i64 0, .slice none 0 0, .bool false] tSW)) ((W1.drew.alloc (.cells #[.int .i64 l[j].f0, .int .i64 l[j].f1, .int .i64 l[j].f2, .int .u64 l[j].f3, .slice A4 l[j].f4.length c4, .slice A5 l[j].f5.length c5, .int .i64 l[j].f6.f0, .int .i64 l[j].f6.f1, .int .u64 l[j].f6.f2, .slice A9 l[j].f6.f3.length c9, .int .i64 j, .int .i64 (-1), .int .i64 0, .slice none 0 0, .bool false] tSW)).alloc (.cells #[.pointer (some ⟨W1.heap.size, 0, none⟩)] tSP)) := below_alloc (Below.refl _ _) _
          have hBY := blk_below hSX.bo hYb
          have hEY := blk_below hEX hYb
          have hone := Lib.hid (oneP W1.heap.size)
          have hW1 : w.heap.size ≤ W1.drew.heap.size := by show w.heap.size ≤ W1.heap.size; omega
          have hSX0 := hSX.bo
          replace hSX := Lib.hid hSX
          replace hMX := Lib.hid hMX
          replace hnX := Lib.hid hnX
          replace hw := Lib.hid hw
          replace hX := Lib.hid hX
          replace hW1 := Lib.hid hW1
          clear hXb hYb hSD hMD
          refine wp_region_noPanic ?_
          refine wp_region_F 13 (SE (w.heap.size + 1) (.slice RA bs.length rc) E0 l[j] A4 c4 A5 c5 A9 c9) (by kernel_rfl) ?_
          refine wpAnyF_take (i := 0) (v := ?_) rfl (by kernel_rfl) (by kernel_rfl) (by kernel_rfl) rfl (by kernel_rfl) rfl (fun _ _ _ _ _ h => h) hHeld rfl ?_ ?_
          rotate_left 1
          · rintro w' ⟨y0, y1, y2, y3, y4, y5, y6, y7, y8, y9, y10⟩
            go_simp
            try with_reducible rfl
          simp only [Act.put]
          refine wpAnyF_take (i := 1) (v := ?_) rfl (by kernel_rfl) (by kernel_rfl) (by kernel_rfl) rfl (by kernel_rfl) rfl (fun _ _ _ _ _ h => h) hHeld rfl ?_ ?_
          rotate_left 1
          · rintro w' ⟨y0, y1, y2, y3, y4, y5, y6, y7, y8, y9, y10⟩
            go_simp
            try with_reducible rfl
          simp only [Act.put]
          refine wpAnyF_take (i := 2) (v := ?_) rfl (by kernel_rfl) (by kernel_rfl) (by kernel_rfl) rfl (by kernel_rfl) rfl (fun _ _ _ _ _ h => h) hHeld rfl ?_ ?_
          rotate_left 1
          · rintro w' ⟨y0, y1, y2, y3, y4, y5, y6, y7, y8, y9, y10⟩
            go_simp
            try with_reducible rfl
          simp only [Act.put]
          refine wpAnyF_take (i := 3) (v := ?_) rfl (by kernel_rfl) (by kernel_rfl) (by kernel_rfl) rfl (by kernel_rfl) rfl (fun _ _ _ _ _ h => h) hHeld rfl ?_ ?_
          rotate_left 1
          · rintro w' ⟨y0, y1, y2, y3, y4, y5, y6, y7, y8, y9, y10⟩
            go_simp
            try with_reducible rfl
          simp only [Act.put]
          refine wpAnyF_take (i := 4) (v := ?_) rfl (by kernel_rfl) (by kernel_rfl) (by kernel_rfl) rfl (by kernel_rfl) rfl (fun _ _ _ _ _ h => h) hHeld rfl ?_ ?_
          rotate_left 1
          · rintro w' ⟨y0, y1, y2, y3, y4, y5, y6, y7, y8, y9, y10⟩
            go_simp
            try with_reducible rfl
          simp only [Act.put]
          refine wpAnyF_take (i := 5) (v := ?_) rfl (by kernel_rfl) (by kernel_rfl) (by kernel_rfl) rfl (by kernel_rfl) rfl (fun _ _ _ _ _ h => h) hHeld rfl ?_ ?_
          rotate_left 1
          · rintro w' ⟨y0, y1, y2, y3, y4, y5, y6, y7, y8, y9, y10⟩
            go_simp
            try with_reducible rfl
          simp only [Act.put]
          refine wpAnyF_take (i := 6) (v := ?_) rfl (by kernel_rfl) (by kernel_rfl) (by kernel_rfl) rfl (by kernel_rfl) rfl (fun _ _ _ _ _ h => h) hHeld rfl ?_ ?_
          rotate_left 1
          · rintro w' ⟨y0, y1, y2, y3, y4, y5, y6, y7, y8, y9, y10⟩
            go_simp
            try with_reducible rfl
          simp only [Act.put]
          refine wpAnyF_take (i := 7) (v := ?_) rfl (by kernel_rfl) (by kernel_rfl) (by kernel_rfl) rfl (by kernel_rfl) rfl (fun _ _ _ _ _ h => h) hHeld rfl ?_ ?_
          rotate_left 1
          · rintro w' ⟨y0, y1, y2, y3, y4, y5, y6, y7, y8, y9, y10⟩
            go_simp
            try with_reducible rfl
          simp only [Act.put]
          refine wpAnyF_one (i := 8) (by kernel_rfl) rfl (fun K hK => ?_)
          go_simp
          refine hK.out _ _ (SE.mk hSX0 hEX) (fun hq => ?_)
          clear hK K hq
          refine wpAnyF_one (i := 9) (by kernel_rfl) rfl (fun K hK => ?_)
          go_simp
          refine hK.out _ _ (SE.mk hBY hEY) (fun hq => ?_)
          clear hK K hq
          refine wpAnyF_one (i := 10) (by kernel_rfl) rfl (fun K hK => ?_)
          refine append_shape (P := Tryz.prog) (R := RB) (w0 := w) (W := W1.drew.alloc (.cells #[.int .i64 l[j].f0, .int .i64 l[j].f1, .int .i64 l[j].f2, .int .u64 l[j].f3, .slice A4 l[j].f4.length c4, .slice A5 l[j].f5.length c5, .int .i64 l[j].f6.f0, .int .i64 l[j].f6.f1, .int .u64 l[j].f6.f2, .slice A9 l[j].f6.f3.length c9, .int .i64 j, .int .i64 (-1), .int .i64 0, .slice none 0 0, .bool false] tSW)) w.heap.size rfl (.tmp 41) (.tmp 46) 67 98 (.pointer none) 1 8 rfl Tryz.underlying67 infoPtrS rfl (by decide) (by decide) (.slice RA bs.length rc) bs W1.heap.size [.pointer (some ⟨W1.heap.size, 0, none⟩)] (by simp [Act.eval]) (by simp [Act.eval]) rfl rfl (by exact hone.out) (by exact hSX.out.row) (by exact hSX.out.bel) (by exact hSX.out.bel.size) (by exact s5) (bs.length + 1) (by exact hln.out _) ?_
          intro A7 c7 W7 own7 bel7 gr7
          have hS8 := hSX.out.push hW1.out hnX.out hw.out gr7 own7
          have ho7 := OffP.row hSX.out.row
          have hB7 := blk_grown hSX.out.bo gr7 (ho7.ne hSX.out.bo (by decide))
          have hE7 := blk_grown hEX gr7 (ho7.ne hEX (by decide))
          have hE8 : (W7.setCell ⟨w.heap.size + 1, 0, none⟩ (.slice A7 (bs.length + 1) c7)).heap[E0]? = _ := blk_far hE7 (blk_ne hE7 hB7 (by decide)) _
          have hM8 := (hMX.out.kept gr7 (row_map hMX.out hSX.out.row)).set_ (a := ⟨w.heap.size + 1, 0, none⟩) hB7 (.slice A7 (bs.length + 1) c7)
          have z7 := blk_frozen hB7 0
          have l7 := blk_lt hB7
          have p7 := blk_cell hB7 0
          simp only [List.getElem?_toArray, List.getElem?_cons_zero] at p7
          refine hK.out _ _ (SE.mk hB7 hE7) (fun hq => ?_)
          clear hK K hq
          simp only [Act.put]
          refine wpAnyF_one (i := 11) (by kernel_rfl) rfl (fun K hK => ?_)
          go_simp
          refine hK.out _ _ (SE.mk hB7 hE7) (fun hq => ?_)
          clear hK K hq
          refine wpAnyF_one (i := 12) (by kernel_rfl) rfl (fun K hK => ?_)
          go_simp
          refine hK.out _ _ (SE.mk hB7 hE7) (fun hq => ?_)
          clear hK K hq
          replace hS8 := Lib.hid hS8
          replace hE8 := Lib.hid hE8
          replace hM8 := Lib.hid hM8
          refine wpAnyF_last (by kernel_rfl) rfl (by kernel_rfl) rfl (fun K hK => ?_)
          go_simp
          refine hK.out _ _ (NoPanic.normal ?_)
          clear hK K hHeld own7 bel7 gr7 ho7 hB7 hE7 z7 l7 p7 hSX hMX hnX hw hX hBY hEY hEX hSX0 hED bd hS1 hM1 hE
          generalize W7.setCell _ _ = W8 at *
          clear W7
          have hSD := hS8.out.below (below_drew (Below.refl _ _))
          have hED := blk_below hE8.out (below_drew (Below.refl _ _))
          have hMD := hM8.out.below (below_drew (Below.refl _ _))
          have p0 := blk_cell hSD.bo 0
          have p1 := blk_cell hSD.bo 1
          have pl := blk_lt hSD.bo
          have f1 := blk_cell hED 1
          have f3 := blk_cell hED 3
          have fl := blk_lt hED
          simp only [List.getElem?_toArray, List.getElem?_cons_zero, List.getElem?_cons_succ] at p0 p1 f1 f3
          have hmx : nm < maxLen := by unfold maxLen; omega
          have hmy : nl < maxLen := by unfold maxLen; omega
          replace hmx := Lib.hid hmx
          replace hmy := Lib.hid hmy
          replace hSD := Lib.hid hSD
          replace hED := Lib.hid hED
          replace hMD := Lib.hid hMD
          clear hS8 hE8 hM8
          go_wp2
          go_still_tail 7, (by kernel_rfl)
          change wpList _ _ _ _ _ W8.drew
          generalize W8.drew = W9 at *
          clear W8
          cases hla : s.last l[j].f1 with
          | none =>
            replace hstep := hstep.out
            rw [hla] at hstep
            replace hstep := Lib.hid hstep
            have hl2 : ((s.last l[j].f1).map fun n : Nat => (.int .i64 n : Value)).getD (.int .i64 0) = .int .i64 0 ∧ ((s.last l[j].f1).map fun n : Nat => (.int .i64 n : Value)).isSome = false := by rw [hla]; exact ⟨rfl, rfl⟩
            replace hl2 := Lib.hid hl2
            replace hla := Lib.hid hla
            go_wp2_with (first
              | (at_mapUpdate; refine wpList_put_map (κ := Int) rfl _ _ _ 68 rfl 3 keyedId kvId_inj Tryz.underlying68 rfl (by exact hSD.out.mp) (by exact hmx.out) l[j].f3 (.int .i64 bs.length) rfl rfl (by exact hki.out) ?_; intro W10 hm10 hg10; rw [hbl.out] at hm10; have hS10 := hSD.out.putId (m := s.o.ws.length) (by simp) hg10 hm10; have hE10 := blk_map hSD.out.mp hg10 hED.out; have hM10 := hMD.out.kept hg10 (fun e => by injection e with e; omega); have g1 := blk_cell hE10 1; have g3 := blk_cell hE10 3; have gl := blk_lt hE10; simp only [List.getElem?_toArray, List.getElem?_cons_zero, List.getElem?_cons_succ] at g1 g3; replace hS10 := Lib.hid hS10; replace hE10 := Lib.hid hE10; replace hM10 := Lib.hid hM10; clear hm10 hg10 p0 p1 pl f1 f3 fl hSD hED hMD)
              | (at_lookup; refine wpList_look2_map (κ := Int) rfl _ _ 97 rfl 3 keyedInt Tryz.underlying97 (zeroInt _) rfl hM10.out l[j].f1 rfl hkl.out _ _ hl2.out.1 hl2.out.2 ?_)
              | (at_mapUpdate; refine wpList_put_map (κ := Int) rfl _ _ _ 97 rfl 3 keyedInt kvInt_inj Tryz.underlying97 rfl (by exact hM10.out) (by exact hmy.out) l[j].f1 (.int .i64 bs.length) rfl rfl (by exact hkl.out) ?_; intro W12 hm12 hg12; rw [hbl.out] at hm12; have hS12 := hS10.out.othermap (fun h => hM10.out.no_cells h) (by omega) (by omega) hg12; replace hS12 := Lib.hid hS12; replace hm12 := Lib.hid hm12; clear hg12)
              | go_in)
            go_roundw
            case rel => exact RelC.next hlt hstep.out hS12.out hm12.out hlb.out hnm hnl (by simp [pushS]) (by simp [pushS]; omega) ((hbn.out.push _ _).mono (Nat.le_succ _))
            case measure => simp [intOf]; omega
          | some u =>
            replace hstep := hstep.out
            rw [hla] at hstep
            replace hstep := Lib.hid hstep
            have hl2 : ((s.last l[j].f1).map fun n : Nat => (.int .i64 n : Value)).getD (.int .i64 0) = .int .i64 u ∧ ((s.last l[j].f1).map fun n : Nat => (.int .i64 n : Value)).isSome = true := by rw [hla]; exact ⟨rfl, rfl⟩
            have hul := hlb.out _ _ hla
            have hbd : ∀ i (h : i < (s.o.ws ++ [newSw j l[j]]).length), -1099511627776 ≤ (s.o.ws ++ [newSw j l[j]])[i].waits ∧ (s.o.ws ++ [newSw j l[j]])[i].waits ≤ 1099511627776 ∧ (s.o.ws ++ [newSw j l[j]])[i].behind.length ≤ 1099511627776 := fun i hi => by
              obtain ⟨b1, b2, b3⟩ := hbn.out.push j l[j] i hi
              omega
            replace hl2 := Lib.hid hl2
            replace hla := Lib.hid hla
            replace hbd := Lib.hid hbd
            replace hul := Lib.hid hul
            go_wp2_with (first
              | (at_mapUpdate; refine wpList_put_map (κ := Int) rfl _ _ _ 68 rfl 3 keyedId kvId_inj Tryz.underlying68 rfl (by exact hSD.out.mp) (by exact hmx.out) l[j].f3 (.int .i64 bs.length) rfl rfl (by exact hki.out) ?_; intro W10 hm10 hg10; rw [hbl.out] at hm10; have hS10 := hSD.out.putId (m := s.o.ws.length) (by simp) hg10 hm10; have hE10 := blk_map hSD.out.mp hg10 hED.out; have hM10 := hMD.out.kept hg10 (fun e => by injection e with e; omega); have g1 := blk_cell hE10 1; have g3 := blk_cell hE10 3; have gl := blk_lt hE10; simp only [List.getElem?_toArray, List.getElem?_cons_zero, List.getElem?_cons_succ] at g1 g3; have hah := ahead_any u l[j].f3 w W10 hS10 (by have := hul.out; simp; omega) huw.out (fun _ => ⟨_, by simp [putF]; rfl⟩) hbd.out; replace hah := Lib.hid hah; replace hS10 := Lib.hid hS10; replace hE10 := Lib.hid hE10; replace hM10 := Lib.hid hM10; clear hm10 hg10 p0 p1 pl f1 f3 fl hSD hED hMD)
              | (at_lookup; refine wpList_look2_map (κ := Int) rfl _ _ 97 rfl 3 keyedInt Tryz.underlying97 (zeroInt _) rfl hM10.out l[j].f1 rfl hkl.out _ _ hl2.out.1 hl2.out.2 ?_)
              | (go_at_call 51; refine hah.out.mono ?_; rintro e W11 ⟨rfl, ⟨vs', hS11⟩, hK11⟩; have hE11 := hK11.blk hE10.out (by decide) (by decide) (by decide); have hM11 := hK11.map hM10.out; have i1 := blk_cell hE11 1; have il := blk_lt hE11; simp only [List.getElem?_toArray, List.getElem?_cons_zero, List.getElem?_cons_succ] at i1; clear hK11 g1 g3 gl hE10 hE11 hM10 hah hS10; replace hS11 := Lib.hid hS11; replace hM11 := Lib.hid hM11)
              | (at_mapUpdate; refine wpList_put_map (κ := Int) rfl _ _ _ 97 rfl 3 keyedInt kvInt_inj Tryz.underlying97 rfl (by exact hM11.out) (by exact hmy.out) l[j].f1 (.int .i64 bs.length) rfl rfl (by exact hkl.out) ?_; intro W12 hm12 hg12; rw [hbl.out] at hm12; have hS12 := hS11.out.othermap (fun h => hM11.out.no_cells h) (by omega) (by omega) hg12; replace hS12 := Lib.hid hS12; replace hm12 := Lib.hid hm12; clear hg12)
              | go_in)
            go_roundw
            case rel => exact RelC.next hlt hstep.out hS12.out hm12.out hlb.out hnm hnl (by rw [aheadS_len]; simp [pushS]) (by rw [aheadS_len]; simp [pushS]; omega) (Bnd.aheadS (o := pushS s.o j l[j]) (hbn.out.push _ _) u l[j].f3)
            case measure => simp [intOf]; omega
      · have b1 : (l[j].f0 == 1) = false := by rw [k1]; rfl
        have b2 : (l[j].f0 == 3) = false := by rw [k1]; rfl
        rw [if_neg (by omega), if_neg (by omega)] at hstep
        replace hstep := Lib.hid hstep
        replace k1 := Lib.hid k1
        go_wp2
        go_roundw
        case rel => exact hsame.out _ (Below.refl _ _) hstep.out
        case measure => simp [intOf]; omega
      · have b1 : (l[j].f0 == 1) = false := by rw [k1]; rfl
        have b2 : (l[j].f0 == 3) = true := by rw [k1]; rfl
        rw [if_neg (by omega)] at hstep
        by_cases h2 : l[j].f6.f2 = 0
        · have b3 : (l[j].f6.f2 != 0) = false := by rw [h2]; rfl
          rw [if_neg (fun h => h.2.1 h2)] at hstep
          replace hstep := Lib.hid hstep
          replace k1 := Lib.hid k1
          replace h2 := Lib.hid h2
          go_wp2
          go_roundw
          case rel => exact hsame.out _ (Below.refl _ _) hstep.out
          case measure => simp [intOf]; omega
        · have b3 : (l[j].f6.f2 != 0) = true := by simpa using h2
          by_cases h4 : l[j].f6.f1 = 1
          · have b4 : (l[j].f6.f1 == 1) = true := by rw [h4]; rfl
            rw [if_pos ⟨k1, h2, h4⟩] at hstep
            replace k1 := Lib.hid k1
            replace h2 := Lib.hid h2
            replace h4 := Lib.hid h4
            cases hby : s.o.ids l[j].f6.f2 with
            | none =>
              rw [hby] at hstep
              replace hstep := Lib.hid hstep
              have hl1 : (((s.o.ids l[j].f6.f2).map fun n : Nat => (.int .i64 n : Value)).getD (.int .i64 0) = .int .i64 0) ∧ ((s.o.ids l[j].f6.f2).map fun n : Nat => (.int .i64 n : Value)).isSome = false := by rw [hby]; exact ⟨rfl, rfl⟩
              replace hl1 := Lib.hid hl1
              replace hby := Lib.hid hby
              go_wp2
              clear q0 q1 q2 q3 q4 q5 q6 q7 q8 q9 o0 ol
              generalize wr.alloc (.cells #[.int .i64 l[j].f0, .int .i64 l[j].f1, .int .i64 l[j].f2, .int .u64 l[j].f3, .slice A4 l[j].f4.length c4, .slice A5 l[j].f5.length c5, .int .i64 l[j].f6.f0, .int .i64 l[j].f6.f1, .int .u64 l[j].f6.f2, .slice A9 l[j].f6.f3.length c9] 38) = W1 at *
              generalize wr.heap.size = E0 at *
              clear wr
              have e8 := blk_cell hE.out 8
              have p1 := blk_cell hS1.out.bo 1
              have pl := blk_lt hS1.out.bo
              simp only [List.getElem?_toArray, List.getElem?_cons_zero, List.getElem?_cons_succ] at e8 p1
              have hrunD := (hS1.out.below (below_drew (Below.refl _ _))).mp.run2 (t := 68) keyedId Tryz.underlying68 (zeroInt _) l[j].f6.f2 hka.out _ _ hl1.out.1 hl1.out.2
              refine wp_region_noPanic ?_
              refine wp_region_F 12 (fun w' => w'.cell? ⟨w.heap.size + 1, 1, none⟩ = some (.map (some w.heap.size)) ∧ w'.cell? ⟨E0, 8, none⟩ = some (.int .u64 l[j].f6.f2) ∧ (Instr.lookup 68 (.map (some w.heap.size)) (.int .u64 l[j].f6.f2) true).run Tryz.prog w' = .ok (.tuple #[.int .i64 0, .bool false]) w') (by kernel_rfl) ?_
              have hHeld : W1.drew.cell? ⟨w.heap.size + 1, 1, none⟩ = some (.map (some w.heap.size)) ∧ W1.drew.cell? ⟨E0, 8, none⟩ = some (.int .u64 l[j].f6.f2) ∧ (Instr.lookup 68 (.map (some w.heap.size)) (.int .u64 l[j].f6.f2) true).run Tryz.prog W1.drew = .ok (.tuple #[.int .i64 0, .bool false]) W1.drew := ⟨p1, e8, hrunD⟩
              refine wpAnyF_take (i := 0) (v := ?_) rfl (by kernel_rfl) (by kernel_rfl) (by kernel_rfl) rfl (by kernel_rfl) rfl (fun _ _ _ _ _ h => h) hHeld rfl ?_ ?_
              rotate_left 1
              · rintro w' ⟨y0, y1, y2⟩
                go_simp
                try with_reducible rfl
              simp only [Act.put]
              refine wpAnyF_take (i := 1) (v := ?_) rfl (by kernel_rfl) (by kernel_rfl) (by kernel_rfl) rfl (by kernel_rfl) rfl (fun _ _ _ _ _ h => h) hHeld rfl ?_ ?_
              rotate_left 1
              · rintro w' ⟨y0, y1, y2⟩
                go_simp
                try with_reducible rfl
              simp only [Act.put]
              refine wpAnyF_take (i := 2) (v := ?_) rfl (by kernel_rfl) (by kernel_rfl) (by kernel_rfl) rfl (by kernel_rfl) rfl (fun _ _ _ _ _ h => h) hHeld rfl ?_ ?_
              rotate_left 1
              · rintro w' ⟨y0, y1, y2⟩
                go_simp
                try with_reducible rfl
              simp only [Act.put]
              refine wpAnyF_take (i := 3) (v := ?_) rfl (by kernel_rfl) (by kernel_rfl) (by kernel_rfl) rfl (by kernel_rfl) rfl (fun _ _ _ _ _ h => h) hHeld rfl ?_ ?_
              rotate_left 1
              · rintro w' ⟨y0, y1, y2⟩
                go_simp
                try with_reducible rfl
              simp only [Act.put]
              refine wpAnyF_take (i := 4) (v := ?_) rfl (by kernel_rfl) (by kernel_rfl) (by kernel_rfl) rfl (by kernel_rfl) rfl (fun _ _ _ _ _ h => h) hHeld rfl ?_ ?_
              rotate_left 1
              · rintro w' ⟨y0, y1, y2⟩
                go_simp
                try with_reducible rfl
              simp only [Act.put]
              refine wpAnyF_take (i := 5) (v := ?_) rfl (by kernel_rfl) (by kernel_rfl) (by kernel_rfl) rfl (by kernel_rfl) rfl (fun _ _ _ _ _ h => h) hHeld rfl ?_ ?_
              rotate_left 1
              · rintro w' ⟨y0, y1, y2⟩
                go_simp
                try with_reducible rfl
              simp only [Act.put]
              refine wpAnyF_take (i := 6) (v := ?_) rfl (by kernel_rfl) (by kernel_rfl) (by kernel_rfl) rfl (by kernel_rfl) rfl (fun _ _ _ _ _ h => h) hHeld rfl ?_ ?_
              rotate_left 1
              · rintro w' ⟨y0, y1, y2⟩
                go_simp
                try with_reducible rfl
              simp only [Act.put]
              refine wpAnyF_take (i := 7) (v := ?_) rfl (by kernel_rfl) (by kernel_rfl) (by kernel_rfl) rfl (by kernel_rfl) rfl (fun _ _ _ _ _ h => h) hHeld rfl ?_ ?_
              rotate_left 1
              · rintro w' ⟨y0, y1, y2⟩
                go_simp
                try with_reducible rfl
              simp only [Act.put]
              refine wpAnyF_take (i := 8) (v := ?_) rfl (by kernel_rfl) (by kernel_rfl) (by kernel_rfl) rfl (by kernel_rfl) rfl (fun _ _ _ _ _ h => h) hHeld rfl ?_ ?_
              rotate_left 1
              · rintro w' ⟨y0, y1, y2⟩
                go_simp
                try with_reducible rfl
              simp only [Act.put]
              refine wpAnyF_take (i := 9) (v := ?_) rfl (by kernel_rfl) (by kernel_rfl) (by kernel_rfl) rfl (by kernel_rfl) rfl (fun _ _ _ _ _ h => h) hHeld rfl ?_ ?_
              rotate_left 1
              · rintro w' ⟨y0, y1, y2⟩
                go_simp
                try with_reducible rfl
              simp only [Act.put]
              refine wpAnyF_take (i := 10) (v := ?_) rfl (by kernel_rfl) (by kernel_rfl) (by kernel_rfl) rfl (by kernel_rfl) rfl (fun _ _ _ _ _ h => h) hHeld rfl ?_ ?_
              rotate_left 1
              · rintro w' ⟨y0, y1, y2⟩
                go_simp
                try with_reducible rfl
              simp only [Act.put]
              refine wpAnyF_take (i := 11) (v := ?_) rfl (by kernel_rfl) (by kernel_rfl) (by kernel_rfl) rfl (by kernel_rfl) rfl (fun _ _ _ _ _ h => h) hHeld rfl ?_ ?_
              rotate_left 1
              · rintro w' ⟨y0, y1, y2⟩
                go_simp
                try with_reducible rfl
              simp only [Act.put]
              refine wpAnyF_last (by kernel_rfl) rfl (by kernel_rfl) rfl (fun K hK => ?_)
              go_simp
              refine hK.out _ _ (NoPanic.normal ?_)
              clear hK K hHeld hrunD e8 p1 pl
              go_wp2
              go_roundw
              case rel => exact hsame.out _ (below_drew (Below.refl _ _)) hstep.out
              case measure => simp [intOf]; omega
            | some m =>
              have hml := hin.out _ _ hby
              rw [hby] at hstep
              replace hstep := Lib.hid hstep
              have hl1 : (((s.o.ids l[j].f6.f2).map fun n : Nat => (.int .i64 n : Value)).getD (.int .i64 0) = .int .i64 m) ∧ ((s.o.ids l[j].f6.f2).map fun n : Nat => (.int .i64 n : Value)).isSome = true := by rw [hby]; exact ⟨rfl, rfl⟩
              replace hl1 := Lib.hid hl1
              replace hby := Lib.hid hby
              obtain ⟨ao, rc, rfl, hrc⟩ := hS1.out.slice1 hml
              have hmx : s.o.ws.length ≤ 9223372036854775807 := by omega
              go_wp2
              clear q0 q1 q2 q3 q4 q5 q6 q7 q8 q9 o0 ol
              generalize wr.alloc (.cells #[.int .i64 l[j].f0, .int .i64 l[j].f1, .int .i64 l[j].f2, .int .u64 l[j].f3, .slice A4 l[j].f4.length c4, .slice A5 l[j].f5.length c5, .int .i64 l[j].f6.f0, .int .i64 l[j].f6.f1, .int .u64 l[j].f6.f2, .slice A9 l[j].f6.f3.length c9] 38) = W1 at *
              generalize wr.heap.size = E0 at *
              clear wr
              have e8 := blk_cell hE.out 8
              have p1 := blk_cell hS1.out.bo 1
              have pl := blk_lt hS1.out.bo
              simp only [List.getElem?_toArray, List.getElem?_cons_zero, List.getElem?_cons_succ] at e8 p1
              have hrunD := (hS1.out.below (below_drew (Below.refl _ _))).mp.run2 (t := 68) keyedId Tryz.underlying68 (zeroInt _) l[j].f6.f2 hka.out _ _ hl1.out.1 hl1.out.2
              refine wp_region_noPanic ?_
              refine wp_region_F 12 (fun w' => w'.cell? ⟨w.heap.size + 1, 1, none⟩ = some (.map (some w.heap.size)) ∧ w'.cell? ⟨E0, 8, none⟩ = some (.int .u64 l[j].f6.f2) ∧ (Instr.lookup 68 (.map (some w.heap.size)) (.int .u64 l[j].f6.f2) true).run Tryz.prog w' = .ok (.tuple #[.int .i64 m, .bool true]) w') (by kernel_rfl) ?_
              have hHeld : W1.drew.cell? ⟨w.heap.size + 1, 1, none⟩ = some (.map (some w.heap.size)) ∧ W1.drew.cell? ⟨E0, 8, none⟩ = some (.int .u64 l[j].f6.f2) ∧ (Instr.lookup 68 (.map (some w.heap.size)) (.int .u64 l[j].f6.f2) true).run Tryz.prog W1.drew = .ok (.tuple #[.int .i64 m, .bool true]) W1.drew := ⟨p1, e8, hrunD⟩
              refine wpAnyF_take (i := 0) (v := ?_) rfl (by kernel_rfl) (by kernel_rfl) (by kernel_rfl) rfl (by kernel_rfl) rfl (fun _ _ _ _ _ h => h) hHeld rfl ?_ ?_
              rotate_left 1
              · rintro w' ⟨y0, y1, y2⟩
                go_simp
                try with_reducible rfl
              simp only [Act.put]
              refine wpAnyF_take (i := 1) (v := ?_) rfl (by kernel_rfl) (by kernel_rfl) (by kernel_rfl) rfl (by kernel_rfl) rfl (fun _ _ _ _ _ h => h) hHeld rfl ?_ ?_
              rotate_left 1
              · rintro w' ⟨y0, y1, y2⟩
                go_simp
                try with_reducible rfl
              simp only [Act.put]
              refine wpAnyF_take (i := 2) (v := ?_) rfl (by kernel_rfl) (by kernel_rfl) (by kernel_rfl) rfl (by kernel_rfl) rfl (fun _ _ _ _ _ h => h) hHeld rfl ?_ ?_
              rotate_left 1
              · rintro w' ⟨y0, y1, y2⟩
                go_simp
                try with_reducible rfl
              simp only [Act.put]
              refine wpAnyF_take (i := 3) (v := ?_) rfl (by kernel_rfl) (by kernel_rfl) (by kernel_rfl) rfl (by kernel_rfl) rfl (fun _ _ _ _ _ h => h) hHeld rfl ?_ ?_
              rotate_left 1
              · rintro w' ⟨y0, y1, y2⟩
                go_simp
                try with_reducible rfl
              simp only [Act.put]
              refine wpAnyF_take (i := 4) (v := ?_) rfl (by kernel_rfl) (by kernel_rfl) (by kernel_rfl) rfl (by kernel_rfl) rfl (fun _ _ _ _ _ h => h) hHeld rfl ?_ ?_
              rotate_left 1
              · rintro w' ⟨y0, y1, y2⟩
                go_simp
                try with_reducible rfl
              simp only [Act.put]
              refine wpAnyF_take (i := 5) (v := ?_) rfl (by kernel_rfl) (by kernel_rfl) (by kernel_rfl) rfl (by kernel_rfl) rfl (fun _ _ _ _ _ h => h) hHeld rfl ?_ ?_
              rotate_left 1
              · rintro w' ⟨y0, y1, y2⟩
                go_simp
                try with_reducible rfl
              simp only [Act.put]
              refine wpAnyF_take (i := 6) (v := ?_) rfl (by kernel_rfl) (by kernel_rfl) (by kernel_rfl) rfl (by kernel_rfl) rfl (fun _ _ _ _ _ h => h) hHeld rfl ?_ ?_
              rotate_left 1
              · rintro w' ⟨y0, y1, y2⟩
                go_simp
                try with_reducible rfl
              simp only [Act.put]
              refine wpAnyF_take (i := 7) (v := ?_) rfl (by kernel_rfl) (by kernel_rfl) (by kernel_rfl) rfl (by kernel_rfl) rfl (fun _ _ _ _ _ h => h) hHeld rfl ?_ ?_
              rotate_left 1
              · rintro w' ⟨y0, y1, y2⟩
                go_simp
                try with_reducible rfl
              simp only [Act.put]
              refine wpAnyF_take (i := 8) (v := ?_) rfl (by kernel_rfl) (by kernel_rfl) (by kernel_rfl) rfl (by kernel_rfl) rfl (fun _ _ _ _ _ h => h) hHeld rfl ?_ ?_
              rotate_left 1
              · rintro w' ⟨y0, y1, y2⟩
                go_simp
                try with_reducible rfl
              simp only [Act.put]
              refine wpAnyF_take (i := 9) (v := ?_) rfl (by kernel_rfl) (by kernel_rfl) (by kernel_rfl) rfl (by kernel_rfl) rfl (fun _ _ _ _ _ h => h) hHeld rfl ?_ ?_
              rotate_left 1
              · rintro w' ⟨y0, y1, y2⟩
                go_simp
                try with_reducible rfl
              simp only [Act.put]
              refine wpAnyF_take (i := 10) (v := ?_) rfl (by kernel_rfl) (by kernel_rfl) (by kernel_rfl) rfl (by kernel_rfl) rfl (fun _ _ _ _ _ h => h) hHeld rfl ?_ ?_
              rotate_left 1
              · rintro w' ⟨y0, y1, y2⟩
                go_simp
                try with_reducible rfl
              simp only [Act.put]
              refine wpAnyF_take (i := 11) (v := ?_) rfl (by kernel_rfl) (by kernel_rfl) (by kernel_rfl) rfl (by kernel_rfl) rfl (fun _ _ _ _ _ h => h) hHeld rfl ?_ ?_
              rotate_left 1
              · rintro w' ⟨y0, y1, y2⟩
                go_simp
                try with_reducible rfl
              simp only [Act.put]
              refine wpAnyF_last (by kernel_rfl) rfl (by kernel_rfl) rfl (fun K hK => ?_)
              go_simp
              refine hK.out _ _ (NoPanic.normal ?_)
              clear hK K hHeld hrunD e8 p1 pl
              have hS2 := hS1.out.below (below_drew (Below.refl _ _))
              have hcm := hS2.cells hml
              have p0 := blk_cell hS2.bo 0
              obtain ⟨D4, d4, D5, d5, D9, d9, hBB, hKK, hRR⟩ := hS2.blk hml
              have hFi := hS2.field hml 11 (.int .i64 j) (doneW s.o.ws[m] j) (by intros; rfl) rfl rfl
              have hM2 := (hM1.out.below (below_drew (Below.refl _ _))).set_ (a := ⟨bs.getD m 0, 11, none⟩) hBB (.int .i64 j)
              obtain ⟨Bv, hBv⟩ : ∃ B, bs.getD m 0 = B := ⟨_, rfl⟩
              rw [hBv] at hcm hBB hFi hM2
              have v11 := blk_cell hBB 11
              have y11 := blk_frozen hBB 11
              have ly := blk_lt hBB
              have pl := blk_lt hS2.bo
              simp only [swCells, List.getElem?_toArray, List.getElem?_cons_zero, List.getElem?_cons_succ] at v11 p0
              replace hFi := Lib.hid hFi
              replace hM2 := Lib.hid hM2
              replace hS2 := Lib.hid hS2
              clear hBB hKK hRR hS1 hM1 hE hsame hl1 hka hkl hki huw hK hin
              generalize W1.drew = W2 at *
              clear W1
              replace hBv := Lib.hid hBv
              go_wp2
              go_roundw
              case rel => exact ⟨j + 1, ⟨⟨s.o.ws.modify m fun x => doneW x j, s.o.ids, s.o.rnd⟩, s.last⟩, _, bs, vs, nm, nl, by omega, by go_num, hstep.out, by rw [modify_set _ _ _ hml]; exact hFi.out, hM2.out, (fun q u h => by rw [List.length_modify]; exact hlb.out q u h), by omega, by omega, (by show (s.o.ws.modify m _).length ≤ _; rw [List.length_modify]; omega), (hbn.out.done m j).mono (by omega)⟩
              case measure => simp [intOf]; omega
          · have b4 : (l[j].f6.f1 == 1) = false := by simpa using h4
            rw [if_neg (fun h => h4 h.2.2)] at hstep
            replace hstep := Lib.hid hstep
            replace k1 := Lib.hid k1
            replace h2 := Lib.hid h2
            replace h4 := Lib.hid h4
            go_wp2
            go_roundw
            case rel => exact hsame.out _ (Below.refl _ _) hstep.out
            case measure => simp [intOf]; omega
    · have hend : collAll l 0 cs0 = s := by
        rw [hp, List.drop_of_length_le (by omega)]
        rfl
      obtain rfl : j = l.length := by omega
      go_wp2
      go_ret
      exact ⟨_, _, _, _, _, _, rfl, by rw [hend]; exact hS, by rw [hend]; exact hbn, by rw [hend]; exact hwl⟩
end Go.Proofs.YtiibjgnmdieicaaGreat.Hist
