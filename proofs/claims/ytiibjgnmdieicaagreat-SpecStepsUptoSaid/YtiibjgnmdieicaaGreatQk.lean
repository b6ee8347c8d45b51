/- spec: reads, in plain words. -/
import Derived.Test.YtiibjgnmdieicaaGreatQj
namespace Go.Proofs.YtiibjgnmdieicaaGreat.Hist
open Go.RowKit Go.Proofs.YtiibjgnmdieicaaGreatW.PrintWords Go.Sort
/-- is a version told of a write that stands no later? -/
def okV (o : Os) (at_ : Nat) (v : Ver) : Bool := if v.f1 = 0 then true else match o.ids v.f1 with
  | none => false
  | some u => match o.ws[u]? with
    | none => false
    | some x => !decide ((at_ : Int) < x.place)
def readsV (x : Evt) (u : Nat) (o : Os) (v : Ver) : Os := if wroteB x v.f0 = true then aheadS o u v.f1 else o
def skipB (x : Sw) (vs : List Ver) (asked : Int) : Bool := !(vs.any fun v : Ver => v.f1 == x.ev.f3) && (decide (x.done < 0) || decide (asked < x.done))
def readsU (vs : List Ver) (asked : Int) (o : Os) (u : Nat) : Os := match o.ws[u]? with
  | none => o
  | some x => if skipB x vs asked = true then o else vs.foldl (readsV x.ev u) o
def readsAll (vs : List Ver) (asked : Int) (o : Os) (n : Nat) : Os := (List.range n).foldl (readsU vs asked) o
def readsS (h : List Evt) (o : Os) (a : Evt) (at_ : Nat) : Os × Bool := if a.f6.f3.all (okV o at_) = true then (readsAll a.f6.f3 (fidx (fun x => reqB a x) h) o o.ws.length, true) else (o, false)
/-- what ahead never turns -/
structure SameE (o o' : Os) : Prop where
  len : o'.ws.length = o.ws.length
  ids : o'.ids = o.ids
  ev : ∀ i : Nat, (o'.ws[i]?).map Sw.ev = (o.ws[i]?).map Sw.ev
theorem SameE.refl (o : Os) : SameE o o := ⟨rfl, rfl, fun _ => rfl⟩
theorem SameE.trans {o o1 o2 : Os} (h : SameE o o1) (k : SameE o1 o2) : SameE o o2 := ⟨k.len.trans h.len, k.ids.trans h.ids, fun i => (k.ev i).trans (h.ev i)⟩
theorem SameE.at_ {o o' : Os} (h : SameE o o') {i : Nat} (hi : i < o.ws.length) (hi' : i < o'.ws.length) : o'.ws[i].ev = o.ws[i].ev := by
  have := h.ev i
  rw [List.getElem?_eq_getElem hi, List.getElem?_eq_getElem hi'] at this
  exact Option.some.inj this
theorem aheadW_ev (ws : List Sw) (u v i : Nat) : ((aheadW ws u v)[i]?).map Sw.ev = (ws[i]?).map Sw.ev := by
  unfold aheadW
  rw [List.getElem?_modify, List.getElem?_modify]
  cases ws[i]? with
  | none => rfl
  | some x =>
    by_cases h1 : u = i <;> by_cases h2 : v = i <;> simp [h1, h2, behindW, waitsW]
theorem SameE.ahead (o : Os) (u : Nat) (id : Int) : SameE o (aheadS o u id) := by
  refine ⟨aheadS_len _ _ _, ?_, ?_⟩
  · unfold aheadS
    split
    · rfl
    · split
      · rfl
      · split <;> rfl
  · intro i
    unfold aheadS
    split
    · rfl
    · split
      · rfl
      · split
        · rfl
        · exact aheadW_ev _ _ _ _
theorem SameE.readsV (x : Evt) (u : Nat) (o : Os) (v : Ver) : SameE o (readsV x u o v) := by
  unfold Hist.readsV
  split
  · exact SameE.ahead _ _ _
  · exact SameE.refl _
theorem SameE.foldV (x : Evt) (u : Nat) : ∀ (vs : List Ver) (o : Os), SameE o (vs.foldl (Hist.readsV x u) o)
  | [], o => SameE.refl o
  | v :: r, o => (SameE.readsV x u o v).trans (SameE.foldV x u r _)
theorem SameE.readsU (vs : List Ver) (asked : Int) (o : Os) (u : Nat) : SameE o (readsU vs asked o u) := by
  unfold Hist.readsU
  split
  · exact SameE.refl _
  · split
    · exact SameE.refl _
    · exact SameE.foldV _ _ _ _
theorem readsAll_succ (vs : List Ver) (asked : Int) (o : Os) (n : Nat) : readsAll vs asked o (n + 1) = readsU vs asked (readsAll vs asked o n) n := by
  unfold readsAll
  rw [List.range_succ, List.foldl_append]
  rfl
theorem SameE.all (vs : List Ver) (asked : Int) (o : Os) : ∀ n, SameE o (readsAll vs asked o n)
  | 0 => SameE.refl o
  | n + 1 => by
    rw [readsAll_succ]
    exact (SameE.all vs asked o n).trans (SameE.readsU _ _ _ _)
theorem take_fold (vs : List Ver) {k : Nat} (hk : k < vs.length) (f : Os → Ver → Os) (o : Os) : (vs.take (k + 1)).foldl f o = f ((vs.take k).foldl f o) vs[k] := by
  rw [← List.take_append_getElem hk, List.foldl_append]
  rfl
def RelR1 (W0 : World) (o : Os) (at_ : Nat) (vs : List Ver) (s29 : Value) (wr : World) : Prop := ∃ j : Nat, j ≤ vs.length ∧ s29 = .int .i64 j ∧ (∀ t, (h : t < vs.length) → t < j → okV o at_ vs[t] = true) ∧ Below W0.heap.size W0 wr
def RelR2 (w0 W2 : World) (Bo Bm : Nat) (rv : Value) (bs : List Nat) (nm : Nat) (o : Os) (vs : List Ver) (asked : Int) (m : Nat) (s68 : Value) (wr : World) : Prop := ∃ u : Nat, u ≤ o.ws.length ∧ s68 = .int .i64 u ∧ OSx w0 W2 wr Bo Bm rv bs nm (readsAll vs asked o u) ∧ Bnd (m + u * vs.length) (readsAll vs asked o u).ws
def RelR3 (w0 W2 : World) (Bo Bm : Nat) (rv : Value) (bs : List Nat) (nm : Nat) (o : Os) (vs : List Ver) (x : Evt) (u : Nat) (m P b : Nat) (s99 : Value) (wr : World) : Prop := ∃ k : Nat, k ≤ vs.length ∧ s99 = .int .i64 k ∧ OSx w0 W2 wr Bo Bm rv bs nm ((vs.take k).foldl (readsV x u) o) ∧ Bnd (m + k) ((vs.take k).foldl (readsV x u) o).ws ∧ wr.heap[P]? = some (.cells #[.pointer (some ⟨b, 0, none⟩)] tSP (0, 0))
end Go.Proofs.YtiibjgnmdieicaaGreat.Hist
/- spec: reads, walked. -/
namespace Go.Proofs.YtiibjgnmdieicaaGreat.Hist
open Go.RowKit Go.Proofs.YtiibjgnmdieicaaGreatW.PrintWords Go.Sort
open Go.Maps (Keyed)
variable {Bo Bm : Nat} {rv : Value} {bs : List Nat} {vs : Nat → Value} {nm : Nat}
set_option maxHeartbeats 16000000 in
set_option maxRecDepth 100000 in
theorem reads_any (A : Option Addr) (c : Nat) (l : List Evt) (w0 W : World) (o : Os) (at_ m : Nat) (hat : at_ < l.length) (hC : kEvt.C w0 A l.length l) (hO : OS w0 W Bo Bm rv bs vs nm o.ws o.ids o.rnd) (hB : Bnd m o.ws)
    (hV : l[at_].f6.f3.length ≤ 1024) (hn : o.ws.length ≤ 1024) (hm : m ≤ 1073741824) (hu : ∀ j (h : j < l[at_].f6.f3.length), (Lit.int .u64 l[at_].f6.f3[j].f1).wf = true) :
    Calls Tryz.prog 29 #[.pointer (some ⟨Bo, 0, none⟩), .slice A l.length c, .int .i64 at_] W fun e w' => e = .returned (.bool (readsS l o l[at_] at_).2) ∧ OSx w0 W w' Bo Bm rv bs nm (readsS l o l[at_] at_).1 ∧ Bnd (m + o.ws.length * l[at_].f6.f3.length) (readsS l o l[at_] at_).1.ws := by
  have hml : l.length ≤ 9223372036854775807 := hC.2.1
  have hq0 := hO.bel
  obtain ⟨ad, A4, c4, A5, c5, A9, c9, rfl, q0, q1, q2, q3, q4, q5, q6, q7, q8, q9, hK, hl9, hk9⟩ := evt_at hC hat
  replace q0 := pw_cell_below hq0 q0
  replace q1 := pw_cell_below hq0 q1
  replace q2 := pw_cell_below hq0 q2
  replace q3 := pw_cell_below hq0 q3
  replace q4 := pw_cell_below hq0 q4
  replace q5 := pw_cell_below hq0 q5
  replace q6 := pw_cell_below hq0 q6
  replace q7 := pw_cell_below hq0 q7
  replace q8 := pw_cell_below hq0 q8
  replace q9 := pw_cell_below hq0 q9
  have hVC := (evt_open hK).2.2.2.2.2
  clear hl9 hk9 hK
  generalize l[at_] = x at *
  have hbE : Below W.heap.size W (W.alloc (.cells #[.int .i64 x.f0, .int .i64 x.f1, .int .i64 x.f2, .int .u64 x.f3, .slice A4 x.f4.length c4, .slice A5 x.f5.length c5, .int .i64 x.f6.f0, .int .i64 x.f6.f1, .int .u64 x.f6.f2, .slice A9 x.f6.f3.length c9] 38)) := below_alloc (Below.refl _ _) _
  have hE := heap_alloc_new W (.cells #[.int .i64 x.f0, .int .i64 x.f1, .int .i64 x.f2, .int .u64 x.f3, .slice A4 x.f4.length c4, .slice A5 x.f5.length c5, .int .i64 x.f6.f0, .int .i64 x.f6.f1, .int .u64 x.f6.f2, .slice A9 x.f6.f3.length c9] 38)
  have hS1 := hO.below hbE
  have hreq := Lib.hid (request_any (some ad) c l x A4 c4 A5 c5 A9 c9 _ (Kd.C_below hC hS1.bel))
  replace hE := Lib.hid hE
  replace hS1 := Lib.hid hS1
  replace hC := Lib.hid hC
  replace hO := Lib.hid hO
  replace hB := Lib.hid hB
  replace hu := Lib.hid hu
  replace hVC := Lib.hid hVC
  replace hq0 := Lib.hid hq0
  replace hbE := Lib.hid hbE
  obtain ⟨asked, hasked⟩ : ∃ q, q = fidx (fun y => reqB x y) l := ⟨_, rfl⟩
  rw [← hasked] at hreq
  obtain ⟨res, hres⟩ : ∃ res, res = readsS l o x at_ := ⟨_, rfl⟩
  have hrF : x.f6.f3.all (okV o at_) = false → res = (o, false) := fun h => by rw [hres]; unfold readsS; rw [if_neg (by rw [h]; decide)]
  have hrT : x.f6.f3.all (okV o at_) = true → res = (readsAll x.f6.f3 asked o o.ws.length, true) := fun h => by rw [hres, hasked]; unfold readsS; rw [if_pos h]
  rw [← hres]
  clear hres
  replace hrF := Lib.hid hrF
  replace hrT := Lib.hid hrT
  replace hasked := Lib.hid hasked
  go_enter Tryz.func29, Tryz.ntmps29
  go_wp2_with (first | (go_at_call 52; refine hreq.out.mono ?_; rintro e W2 ⟨rfl, hb2⟩; have hE2 := blk_below hE.out hb2; have hS2 := hS1.out.below hb2; have hbb := below_then hbE.out hbE.out.size hb2; have e9 := blk_cell hE2 9; have el := blk_lt hE2; simp only [List.getElem?_toArray, List.getElem?_cons_zero, List.getElem?_cons_succ] at e9; replace hE2 := Lib.hid hE2; replace hS2 := Lib.hid hS2; replace hbb := Lib.hid hbb; clear hb2 hE hS1 hbE) | go_in)
  clear q0 q1 q2 q3 q4 q5 q6 q7 q8 q9
  generalize hvs : x.f6.f3 = ls at *
  replace hvs := Lib.hid hvs
  go_loopw [29] (fun s wr => RelR1 W2 o at_ ls s wr) (fun s _ => ls.length - (intOf s).toNat)
  case atStart => exact ⟨0, Nat.zero_le _, rfl, (fun t _ h => absurd h (Nat.not_lt_zero t)), Below.refl _ _⟩
  case round =>
    obtain ⟨j, hj, rfl, hok, hbw⟩ := hrel
    by_cases hlt : j < ls.length
    · have hSr := hS2.out.below hbw
      obtain ⟨av, A3, c3, rfl, v0, v1, v2, v3, hx1, hx2⟩ := ver_at (Kd.C_below hVC.out hSr.bel) hlt
      clear hx1 hx2
      have hbv : Below wr.heap.size wr (wr.alloc (.cells #[.string ls[j].f0, .int .u64 ls[j].f1, .string ls[j].f2, .slice A3 ls[j].f3.length c3] 49)) := below_alloc (Below.refl _ _) _
      have hVb := heap_alloc_new wr (.cells #[.string ls[j].f0, .int .u64 ls[j].f1, .string ls[j].f2, .slice A3 ls[j].f3.length c3] 49)
      have hSv := hSr.below hbv
      have hbw2 := below_then hbw hbw.size hbv
      have hkey := Lib.hid (keyId ls[j].f1 (hu.out j hlt))
      have hnx : okV o at_ ls[j] = true → ∀ t, (ht : t < ls.length) → t < j + 1 → okV o at_ ls[t] = true := fun h t ht h1 => by
        by_cases e : t = j
        · subst e; exact h
        · exact hok t ht (by omega)
      have hno : okV o at_ ls[j] = false → ls.all (okV o at_) = false := fun h => by
        rw [List.all_eq_false]
        exact ⟨ls[j], List.getElem_mem hlt, by rw [h]; decide⟩
      replace hnx := Lib.hid hnx
      replace hno := Lib.hid hno
      replace hok := Lib.hid hok
      replace hbw := Lib.hid hbw
      replace hbv := Lib.hid hbv
      replace hVb := Lib.hid hVb
      replace hSv := Lib.hid hSv
      replace hSr := Lib.hid hSr
      replace hbw2 := Lib.hid hbw2
      clear hbw hbv hSr
      by_cases h1 : ls[j].f1 = 0
      · have b1 : (ls[j].f1 == 0) = true := by rw [h1]; rfl
        have hoj : okV o at_ ls[j] = true := by unfold okV; rw [if_pos h1]
        replace h1 := Lib.hid h1
        replace hoj := Lib.hid hoj
        go_wp2
        go_roundw
        case rel => exact ⟨j + 1, by omega, by go_num, hnx.out hoj.out, hbw2.out⟩
        case measure => simp [intOf]; omega
      · have b1 : (ls[j].f1 == 0) = false := by simpa using h1
        cases hby : o.ids ls[j].f1 with
        | none =>
          have hoj : okV o at_ ls[j] = false := by unfold okV; rw [if_neg h1]; show (match o.ids ls[j].f1 with | none => _ | some u => _) = _; rw [hby]
          have hl1 : (((o.ids ls[j].f1).map fun n : Nat => (.int .i64 n : Value)).getD (.int .i64 0) = .int .i64 0) ∧ ((o.ids ls[j].f1).map fun n : Nat => (.int .i64 n : Value)).isSome = false := by rw [hby]; exact ⟨rfl, rfl⟩
          replace hl1 := Lib.hid hl1
          replace hby := Lib.hid hby
          replace h1 := Lib.hid h1
          replace hoj := Lib.hid hoj
          go_wp2
          clear v0 v1 v2 v3
          generalize (wr.alloc (.cells #[.string ls[j].f0, .int .u64 ls[j].f1, .string ls[j].f2, .slice A3 ls[j].f3.length c3] 49)) = Wv at *
          generalize wr.heap.size = V0 at *
          clear wr
          have y1 := blk_cell hVb.out 1
          have p1 := blk_cell hSv.out.bo 1
          simp only [List.getElem?_toArray, List.getElem?_cons_zero, List.getElem?_cons_succ] at y1 p1
          have hSD := hSv.out.below (below_drew (Below.refl _ _))
          have hwD := Lib.hid (below_then hbw2.out hbw2.out.size (below_drew (Below.refl _ _)))
          have hrunD := hSD.mp.run2 (t := 68) keyedId Tryz.underlying68 (zeroInt _) ls[j].f1 hkey.out _ _ hl1.out.1 hl1.out.2
          have hHeld : Wv.drew.cell? ⟨Bo, 1, none⟩ = some (.map (some Bm)) ∧ Wv.drew.cell? ⟨V0, 1, none⟩ = some (.int .u64 ls[j].f1) ∧ (Instr.lookup 68 (.map (some Bm)) (.int .u64 ls[j].f1) true).run Tryz.prog Wv.drew = .ok (.tuple #[.int .i64 0, .bool false]) Wv.drew := ⟨p1, y1, hrunD⟩
          refine wp_region_noPanic ?_
          refine wp_region_F 11 (fun w' => w'.cell? ⟨Bo, 1, none⟩ = some (.map (some Bm)) ∧ w'.cell? ⟨V0, 1, none⟩ = some (.int .u64 ls[j].f1) ∧ (Instr.lookup 68 (.map (some Bm)) (.int .u64 ls[j].f1) true).run Tryz.prog w' = .ok (.tuple #[.int .i64 0, .bool false]) w') (by kernel_rfl) ?_
          refine wpAnyF_take (i := 0) (v := ?_) rfl (by kernel_rfl) (by kernel_rfl) (by kernel_rfl) rfl (by kernel_rfl) rfl (fun _ _ _ _ _ h => h) hHeld rfl ?_ ?_
          rotate_left 1
          · rintro w' ⟨y0, y1, y2⟩
            go_simp
            try with_reducible rfl
          simp only [Act.put]
          refine wpAnyF_take (i := 1) (v := ?_) rfl (by kernel_rfl) (by kernel_rfl) (by kernel_rfl) rfl (by kernel_rfl) rfl (fun _ _ _ _ _ h => h) hHeld rfl ?_ ?_
          rotate_left 1
          · rintro w' ⟨y0, y1, y2⟩
            go_simp
            try with_reducible rfl
          simp only [Act.put]
          refine wpAnyF_take (i := 2) (v := ?_) rfl (by kernel_rfl) (by kernel_rfl) (by kernel_rfl) rfl (by kernel_rfl) rfl (fun _ _ _ _ _ h => h) hHeld rfl ?_ ?_
          rotate_left 1
          · rintro w' ⟨y0, y1, y2⟩
            go_simp
            try with_reducible rfl
          simp only [Act.put]
          refine wpAnyF_take (i := 3) (v := ?_) rfl (by kernel_rfl) (by kernel_rfl) (by kernel_rfl) rfl (by kernel_rfl) rfl (fun _ _ _ _ _ h => h) hHeld rfl ?_ ?_
          rotate_left 1
          · rintro w' ⟨y0, y1, y2⟩
            go_simp
            try with_reducible rfl
          simp only [Act.put]
          refine wpAnyF_take (i := 4) (v := ?_) rfl (by kernel_rfl) (by kernel_rfl) (by kernel_rfl) rfl (by kernel_rfl) rfl (fun _ _ _ _ _ h => h) hHeld rfl ?_ ?_
          rotate_left 1
          · rintro w' ⟨y0, y1, y2⟩
            go_simp
            try with_reducible rfl
          simp only [Act.put]
          refine wpAnyF_take (i := 5) (v := ?_) rfl (by kernel_rfl) (by kernel_rfl) (by kernel_rfl) rfl (by kernel_rfl) rfl (fun _ _ _ _ _ h => h) hHeld rfl ?_ ?_
          rotate_left 1
          · rintro w' ⟨y0, y1, y2⟩
            go_simp
            try with_reducible rfl
          simp only [Act.put]
          refine wpAnyF_take (i := 6) (v := ?_) rfl (by kernel_rfl) (by kernel_rfl) (by kernel_rfl) rfl (by kernel_rfl) rfl (fun _ _ _ _ _ h => h) hHeld rfl ?_ ?_
          rotate_left 1
          · rintro w' ⟨y0, y1, y2⟩
            go_simp
            try with_reducible rfl
          simp only [Act.put]
          refine wpAnyF_take (i := 7) (v := ?_) rfl (by kernel_rfl) (by kernel_rfl) (by kernel_rfl) rfl (by kernel_rfl) rfl (fun _ _ _ _ _ h => h) hHeld rfl ?_ ?_
          rotate_left 1
          · rintro w' ⟨y0, y1, y2⟩
            go_simp
            try with_reducible rfl
          simp only [Act.put]
          refine wpAnyF_take (i := 8) (v := ?_) rfl (by kernel_rfl) (by kernel_rfl) (by kernel_rfl) rfl (by kernel_rfl) rfl (fun _ _ _ _ _ h => h) hHeld rfl ?_ ?_
          rotate_left 1
          · rintro w' ⟨y0, y1, y2⟩
            go_simp
            try with_reducible rfl
          simp only [Act.put]
          refine wpAnyF_take (i := 9) (v := ?_) rfl (by kernel_rfl) (by kernel_rfl) (by kernel_rfl) rfl (by kernel_rfl) rfl (fun _ _ _ _ _ h => h) hHeld rfl ?_ ?_
          rotate_left 1
          · rintro w' ⟨y0, y1, y2⟩
            go_simp
            try with_reducible rfl
          simp only [Act.put]
          refine wpAnyF_take (i := 10) (v := ?_) rfl (by kernel_rfl) (by kernel_rfl) (by kernel_rfl) rfl (by kernel_rfl) rfl (fun _ _ _ _ _ h => h) hHeld rfl ?_ ?_
          rotate_left 1
          · rintro w' ⟨y0, y1, y2⟩
            go_simp
            try with_reducible rfl
          simp only [Act.put]
          refine wpAnyF_last (by kernel_rfl) rfl (by kernel_rfl) rfl (fun K hK => ?_)
          go_simp
          refine hK.out _ _ (NoPanic.normal ?_)
          clear hK K hHeld hrunD y1 p1
          replace hSD := Lib.hid hSD
          go_wp2
          go_ret
          rw [hrF.out (hno.out hoj.out)]
          exact ⟨rfl, ⟨⟨_, hSD.out⟩, KeepN.below (below_then hbb.out hbb.out.size hwD.out)⟩, hB.out.mono (Nat.le_add_right _ _)⟩
        | some u =>
          have hul := hO.out.inb _ _ hby
          have hoj : okV o at_ ls[j] = !decide ((at_ : Int) < o.ws[u].place) := by
            unfold okV
            rw [if_neg h1]
            show (match o.ids ls[j].f1 with | none => _ | some u => _) = _
            rw [hby]
            show (match o.ws[u]? with | none => _ | some x => _) = _
            rw [List.getElem?_eq_getElem hul]
          have hl1 : (((o.ids ls[j].f1).map fun n : Nat => (.int .i64 n : Value)).getD (.int .i64 0) = .int .i64 u) ∧ ((o.ids ls[j].f1).map fun n : Nat => (.int .i64 n : Value)).isSome = true := by rw [hby]; exact ⟨rfl, rfl⟩
          obtain ⟨ao, rc, rfl, hrc⟩ := hO.out.slice1 hul
          have hmx : o.ws.length ≤ 9223372036854775807 := by omega
          replace hl1 := Lib.hid hl1
          replace hby := Lib.hid hby
          replace h1 := Lib.hid h1
          replace hoj := Lib.hid hoj
          replace hul := Lib.hid hul
          go_wp2
          clear v0 v1 v2 v3
          generalize (wr.alloc (.cells #[.string ls[j].f0, .int .u64 ls[j].f1, .string ls[j].f2, .slice A3 ls[j].f3.length c3] 49)) = Wv at *
          generalize wr.heap.size = V0 at *
          clear wr
          have y1 := blk_cell hVb.out 1
          have p1 := blk_cell hSv.out.bo 1
          simp only [List.getElem?_toArray, List.getElem?_cons_zero, List.getElem?_cons_succ] at y1 p1
          have hSD := hSv.out.below (below_drew (Below.refl _ _))
          have hwD := Lib.hid (below_then hbw2.out hbw2.out.size (below_drew (Below.refl _ _)))
          have hrunD := hSD.mp.run2 (t := 68) keyedId Tryz.underlying68 (zeroInt _) ls[j].f1 hkey.out _ _ hl1.out.1 hl1.out.2
          have hHeld : Wv.drew.cell? ⟨Bo, 1, none⟩ = some (.map (some Bm)) ∧ Wv.drew.cell? ⟨V0, 1, none⟩ = some (.int .u64 ls[j].f1) ∧ (Instr.lookup 68 (.map (some Bm)) (.int .u64 ls[j].f1) true).run Tryz.prog Wv.drew = .ok (.tuple #[.int .i64 u, .bool true]) Wv.drew := ⟨p1, y1, hrunD⟩
          refine wp_region_noPanic ?_
          refine wp_region_F 11 (fun w' => w'.cell? ⟨Bo, 1, none⟩ = some (.map (some Bm)) ∧ w'.cell? ⟨V0, 1, none⟩ = some (.int .u64 ls[j].f1) ∧ (Instr.lookup 68 (.map (some Bm)) (.int .u64 ls[j].f1) true).run Tryz.prog w' = .ok (.tuple #[.int .i64 u, .bool true]) w') (by kernel_rfl) ?_
          refine wpAnyF_take (i := 0) (v := ?_) rfl (by kernel_rfl) (by kernel_rfl) (by kernel_rfl) rfl (by kernel_rfl) rfl (fun _ _ _ _ _ h => h) hHeld rfl ?_ ?_
          rotate_left 1
          · rintro w' ⟨y0, y1, y2⟩
            go_simp
            try with_reducible rfl
          simp only [Act.put]
          refine wpAnyF_take (i := 1) (v := ?_) rfl (by kernel_rfl) (by kernel_rfl) (by kernel_rfl) rfl (by kernel_rfl) rfl (fun _ _ _ _ _ h => h) hHeld rfl ?_ ?_
          rotate_left 1
          · rintro w' ⟨y0, y1, y2⟩
            go_simp
            try with_reducible rfl
          simp only [Act.put]
          refine wpAnyF_take (i := 2) (v := ?_) rfl (by kernel_rfl) (by kernel_rfl) (by kernel_rfl) rfl (by kernel_rfl) rfl (fun _ _ _ _ _ h => h) hHeld rfl ?_ ?_
          rotate_left 1
          · rintro w' ⟨y0, y1, y2⟩
            go_simp
            try with_reducible rfl
          simp only [Act.put]
          refine wpAnyF_take (i := 3) (v := ?_) rfl (by kernel_rfl) (by kernel_rfl) (by kernel_rfl) rfl (by kernel_rfl) rfl (fun _ _ _ _ _ h => h) hHeld rfl ?_ ?_
          rotate_left 1
          · rintro w' ⟨y0, y1, y2⟩
            go_simp
            try with_reducible rfl
          simp only [Act.put]
          refine wpAnyF_take (i := 4) (v := ?_) rfl (by kernel_rfl) (by kernel_rfl) (by kernel_rfl) rfl (by kernel_rfl) rfl (fun _ _ _ _ _ h => h) hHeld rfl ?_ ?_
          rotate_left 1
          · rintro w' ⟨y0, y1, y2⟩
            go_simp
            try with_reducible rfl
          simp only [Act.put]
          refine wpAnyF_take (i := 5) (v := ?_) rfl (by kernel_rfl) (by kernel_rfl) (by kernel_rfl) rfl (by kernel_rfl) rfl (fun _ _ _ _ _ h => h) hHeld rfl ?_ ?_
          rotate_left 1
          · rintro w' ⟨y0, y1, y2⟩
            go_simp
            try with_reducible rfl
          simp only [Act.put]
          refine wpAnyF_take (i := 6) (v := ?_) rfl (by kernel_rfl) (by kernel_rfl) (by kernel_rfl) rfl (by kernel_rfl) rfl (fun _ _ _ _ _ h => h) hHeld rfl ?_ ?_
          rotate_left 1
          · rintro w' ⟨y0, y1, y2⟩
            go_simp
            try with_reducible rfl
          simp only [Act.put]
          refine wpAnyF_take (i := 7) (v := ?_) rfl (by kernel_rfl) (by kernel_rfl) (by kernel_rfl) rfl (by kernel_rfl) rfl (fun _ _ _ _ _ h => h) hHeld rfl ?_ ?_
          rotate_left 1
          · rintro w' ⟨y0, y1, y2⟩
            go_simp
            try with_reducible rfl
          simp only [Act.put]
          refine wpAnyF_take (i := 8) (v := ?_) rfl (by kernel_rfl) (by kernel_rfl) (by kernel_rfl) rfl (by kernel_rfl) rfl (fun _ _ _ _ _ h => h) hHeld rfl ?_ ?_
          rotate_left 1
          · rintro w' ⟨y0, y1, y2⟩
            go_simp
            try with_reducible rfl
          simp only [Act.put]
          refine wpAnyF_take (i := 9) (v := ?_) rfl (by kernel_rfl) (by kernel_rfl) (by kernel_rfl) rfl (by kernel_rfl) rfl (fun _ _ _ _ _ h => h) hHeld rfl ?_ ?_
          rotate_left 1
          · rintro w' ⟨y0, y1, y2⟩
            go_simp
            try with_reducible rfl
          simp only [Act.put]
          refine wpAnyF_take (i := 10) (v := ?_) rfl (by kernel_rfl) (by kernel_rfl) (by kernel_rfl) rfl (by kernel_rfl) rfl (fun _ _ _ _ _ h => h) hHeld rfl ?_ ?_
          rotate_left 1
          · rintro w' ⟨y0, y1, y2⟩
            go_simp
            try with_reducible rfl
          simp only [Act.put]
          refine wpAnyF_last (by kernel_rfl) rfl (by kernel_rfl) rfl (fun K hK => ?_)
          go_simp
          refine hK.out _ _ (NoPanic.normal ?_)
          clear hK K hHeld hrunD y1 p1
          replace hSD := Lib.hid hSD
          generalize Wv.drew = WD at *
          have hcm := hSD.out.cells hul.out
          have p0 := blk_cell hSD.out.bo 0
          obtain ⟨D4, d4, D5, d5, D9, d9, hBB, hKK, hRR⟩ := hSD.out.blk hul.out
          obtain ⟨Bv, hBv⟩ : ∃ B, bs.getD u 0 = B := ⟨_, rfl⟩
          rw [hBv] at hcm hBB
          have v10 := blk_cell hBB 10
          have hui := hul.out
          simp only [swCells, List.getElem?_toArray, List.getElem?_cons_zero, List.getElem?_cons_succ] at v10 p0
          clear hBB hKK hRR
          replace hBv := Lib.hid hBv
          by_cases hg : (at_ : Int) < o.ws[u].place
          · have b2 : decide ((at_ : Int) < o.ws[u].place) = true := decide_eq_true hg
            have hf := hno.out (by rw [hoj.out, b2]; rfl)
            generalize o.ws[u].place = pl at *
            replace hf := Lib.hid hf
            go_wp2
            go_ret
            rw [hrF.out hf.out]
            exact ⟨rfl, ⟨⟨_, hSD.out⟩, KeepN.below (below_then hbb.out hbb.out.size hwD.out)⟩, hB.out.mono (Nat.le_add_right _ _)⟩
          · have b2 : decide ((at_ : Int) < o.ws[u].place) = false := decide_eq_false hg
            have hf := hnx.out (by rw [hoj.out, b2]; rfl)
            generalize o.ws[u].place = pl at *
            replace hf := Lib.hid hf
            go_wp2
            go_roundw
            case rel => exact ⟨j + 1, by omega, by go_num, hf.out, hwD.out⟩
            case measure => simp [intOf]; omega
    · obtain rfl : j = ls.length := by omega
      have hall : ls.all (okV o at_) = true := List.all_eq_true.2 (fun v hv => by
        obtain ⟨t, ht, rfl⟩ := List.getElem_of_mem hv
        exact hok t ht ht)
      have hre := Lib.hid (hrT.out hall)
      have hids : ∀ t (ht : t < ls.length), ls[t].f1 ≠ 0 → ∃ n, o.ids ls[t].f1 = some n := fun t ht h0 => by
        have := hok t ht ht
        unfold okV at this
        rw [if_neg h0] at this
        cases hq : o.ids ls[t].f1 with
        | none => rw [hq] at this; cases this
        | some n => exact ⟨n, rfl⟩
      replace hids := Lib.hid hids
      have hS3 := hS2.out.below hbw
      have hE3 := blk_below hE2.out hbw
      have hbW := Lib.hid (below_then hbb.out hbb.out.size hbw)
      obtain ⟨RA, rc, rfl⟩ := slice_of hS3.row hS3.len
      have p0 := blk_cell hS3.bo 0
      have pl := blk_lt hS3.bo
      simp only [List.getElem?_toArray, List.getElem?_cons_zero] at p0
      generalize hnn : o.ws.length = n at *
      replace hnn := Lib.hid hnn
      replace hS3 := Lib.hid hS3
      replace hE3 := Lib.hid hE3
      clear hok hbw hS2 hbb hE2 hq0 hO hrF hrT hall e9 el
      generalize wr = W3 at *
      go_wp2
      go_loopw [68] (fun s wr => RelR2 w0 W3 Bo Bm (.slice RA n rc) bs nm o ls asked m s wr) (fun s _ => n - (intOf s).toNat)
      case atStart => exact ⟨0, Nat.zero_le _, rfl, ⟨⟨_, hS3.out⟩, KeepN.refl _⟩, hB.out.mono (Nat.le_add_right _ _)⟩
      case round =>
        clear p0 pl
        obtain ⟨u, hu', rfl, ⟨⟨vs', hSu⟩, hKu⟩, hBu⟩ := hrel
        rw [hnn.out] at hu'
        by_cases hlt2 : u < n
        · have hsame := SameE.all ls asked o u
          have hnu := Lib.hid (readsAll_succ ls asked o u)
          generalize hou : readsAll ls asked o u = ou at *
          replace hou := Lib.hid hou
          have hul : u < ou.ws.length := by rw [hsame.len, hnn.out]; exact hlt2
          obtain ⟨ao, rc', he, _⟩ := hSu.slice1 hul
          obtain ⟨rfl, -⟩ := Value.slice.inj he
          clear he
          have hcm := hSu.cells hul
          have hBB := hSu.blk hul
          obtain ⟨Bv, hBv⟩ : ∃ B, bs.getD u 0 = B := ⟨_, rfl⟩
          rw [hBv] at hcm hBB
          replace hBv := Lib.hid hBv
          obtain ⟨D4, d4, D5, d5, D9, d9, hBB, hKK, hRR⟩ := hBB
          have w3 := blk_cell hBB 3
          have w11 := blk_cell hBB 11
          have hBl := blk_lt hBB
          simp only [swCells, List.getElem?_toArray, List.getElem?_cons_zero, List.getElem?_cons_succ] at w3 w11
          clear hBB hKK hRR
          have hbP : Below wr.heap.size wr (wr.alloc (.cells #[.pointer (some ⟨Bv, 0, none⟩)] tSP)) := below_alloc (Below.refl _ _) _
          have hPp := heap_alloc_new wr (.cells #[.pointer (some ⟨Bv, 0, none⟩)] tSP)
          have hSp := hSu.below hbP
          have hEp := blk_below (hKu.blk hE3.out (by decide) (by decide) (by decide)) hbP
          have hKp := hKu.trans (KeepN.below hbP)
          have e9 := blk_cell (hKu.blk hE3.out (by decide) (by decide) (by decide)) 9
          have el := blk_lt (hKu.blk hE3.out (by decide) (by decide) (by decide))
          simp only [List.getElem?_toArray, List.getElem?_cons_zero, List.getElem?_cons_succ] at e9
          replace w11 := pw_cell_below hbP w11
          have htl := containsTold_any A9 c9 ls ou.ws[u].ev.f3 Bv wr.heap.size _ (Kd.C_below hVC.out hSp.bel) (by rw [blk_cell hPp 0]; rfl) (pw_cell_below hbP w3)
          obtain ⟨xe, hxe⟩ : ∃ xe, ou.ws[u].ev = xe := ⟨_, rfl⟩
          have hgT : (!(ls.any fun v : Ver => v.f1 == ou.ws[u].ev.f3) && (decide (ou.ws[u].done < 0) || decide (asked < ou.ws[u].done))) = true → readsAll ls asked o (u + 1) = ou := fun h => by
            rw [hnu.out]
            unfold readsU
            rw [List.getElem?_eq_getElem hul]
            exact if_pos h
          have hgF : (!(ls.any fun v : Ver => v.f1 == ou.ws[u].ev.f3) && (decide (ou.ws[u].done < 0) || decide (asked < ou.ws[u].done))) = false → readsAll ls asked o (u + 1) = ls.foldl (readsV xe u) ou := fun h => by
            rw [hnu.out]
            unfold readsU
            rw [List.getElem?_eq_getElem hul, ← hxe]
            exact if_neg (fun e => by
              have e' := h.symm.trans e
              cases e')
          generalize (ls.any fun v : Ver => v.f1 == ou.ws[u].ev.f3) = told at *
          generalize ou.ws[u].done = dn at *
          have hmul2 : u * ls.length ≤ 1048576 := Nat.le_trans (Nat.mul_le_mul (by omega : u ≤ 1024) hV) (by decide)
          replace hmul2 := Lib.hid hmul2
          replace hxe := Lib.hid hxe
          replace hgT := Lib.hid hgT
          replace hgF := Lib.hid hgF
          clear hnu
          replace htl := Lib.hid htl
          replace hSp := Lib.hid hSp
          replace hPp := Lib.hid hPp
          replace hEp := Lib.hid hEp
          replace hKp := Lib.hid hKp
          replace hBu := Lib.hid hBu
          replace hul := Lib.hid hul
          replace hsame := Lib.hid hsame
          clear hSu hKu hbP
          cases told
          · by_cases hd : dn < 0
            · have b1 : decide (dn < 0) = true := decide_eq_true hd
              replace hd := Lib.hid hd
              have hgo := hgT.out (by rw [b1]; rfl)
              replace hgo := Lib.hid hgo
              go_wp2_with (first | (go_at_call 53; refine htl.out.mono ?_; rintro e W5 ⟨rfl, hb5⟩; have hS5 := hSp.out.below hb5; have hP5 := blk_below hPp.out hb5; have hE5 := blk_below hEp.out hb5; have hK5 := Lib.hid (hKp.out.trans (KeepN.below hb5)); have pp0 := blk_cell hP5 0; have e95 := blk_cell hE5 9; have el5 := blk_lt hE5; have pl5 := blk_lt hP5; have d11 : W5.cell? ⟨Bv, 11, none⟩ = _ := pw_cell_below hb5 w11; simp only [List.getElem?_toArray, List.getElem?_cons_zero, List.getElem?_cons_succ] at pp0 e95; replace hS5 := Lib.hid hS5; replace hP5 := Lib.hid hP5; replace hE5 := Lib.hid hE5; clear hb5) | go_in)
              go_roundw
              case rel => exact ⟨u + 1, by have := hnn.out; omega, by go_num, ⟨⟨vs', by rw [hgo.out]; exact hS5.out⟩, hK5.out⟩, by rw [hgo.out]; exact hBu.out.mono (by rw [Nat.succ_mul]; omega)⟩
              case measure => simp [intOf]; omega
            · have b1 : decide (dn < 0) = false := decide_eq_false hd
              replace hd := Lib.hid hd
              by_cases hg : asked < dn
              · have b2 : decide (asked < dn) = true := decide_eq_true hg
                replace hg := Lib.hid hg
                have hgo := hgT.out (by rw [b1, b2]; rfl)
                replace hgo := Lib.hid hgo
                go_wp2_with (first | (go_at_call 53; refine htl.out.mono ?_; rintro e W5 ⟨rfl, hb5⟩; have hS5 := hSp.out.below hb5; have hP5 := blk_below hPp.out hb5; have hE5 := blk_below hEp.out hb5; have hK5 := Lib.hid (hKp.out.trans (KeepN.below hb5)); have pp0 := blk_cell hP5 0; have e95 := blk_cell hE5 9; have el5 := blk_lt hE5; have pl5 := blk_lt hP5; have d11 : W5.cell? ⟨Bv, 11, none⟩ = _ := pw_cell_below hb5 w11; simp only [List.getElem?_toArray, List.getElem?_cons_zero, List.getElem?_cons_succ] at pp0 e95; replace hS5 := Lib.hid hS5; replace hP5 := Lib.hid hP5; replace hE5 := Lib.hid hE5; clear hb5) | go_in)
                go_roundw
                case rel => exact ⟨u + 1, by have := hnn.out; omega, by go_num, ⟨⟨vs', by rw [hgo.out]; exact hS5.out⟩, hK5.out⟩, by rw [hgo.out]; exact hBu.out.mono (by rw [Nat.succ_mul]; omega)⟩
                case measure => simp [intOf]; omega
              · have b2 : decide (asked < dn) = false := decide_eq_false hg
                replace hg := Lib.hid hg
                have hgo := hgF.out (by rw [b1, b2]; rfl)
                replace hgo := Lib.hid hgo
                go_wp2_with (first | (go_at_call 53; refine htl.out.mono ?_; rintro e W5 ⟨rfl, hb5⟩; have hS5 := hSp.out.below hb5; have hP5 := blk_below hPp.out hb5; have hE5 := blk_below hEp.out hb5; have hK5 := Lib.hid (hKp.out.trans (KeepN.below hb5)); have pp0 := blk_cell hP5 0; have e95 := blk_cell hE5 9; have el5 := blk_lt hE5; have pl5 := blk_lt hP5; have d11 : W5.cell? ⟨Bv, 11, none⟩ = _ := pw_cell_below hb5 w11; simp only [List.getElem?_toArray, List.getElem?_cons_zero, List.getElem?_cons_succ] at pp0 e95; replace hS5 := Lib.hid hS5; replace hP5 := Lib.hid hP5; replace hE5 := Lib.hid hE5; clear hb5) | go_in)
                generalize wr.heap.size = P at *
                go_loopw [99] (fun s wr => RelR3 w0 W3 Bo Bm (.slice (some ao) n rc) bs nm ou ls xe u (m + u * ls.length) P Bv s wr) (fun s _ => ls.length - (intOf s).toNat)
                case atStart => exact ⟨0, Nat.zero_le _, rfl, ⟨⟨vs', hS5.out⟩, hK5.out⟩, hBu.out, hP5.out⟩
                case round =>
                  clear hS5 hK5 hP5 hE5
                  obtain ⟨k, hk, rfl, ⟨⟨vs2, hSk⟩, hKk⟩, hBk, hPk⟩ := hrel
                  by_cases hlt3 : k < ls.length
                  · obtain ⟨av, A3, c3, hav, v0, v1, v2, v3, hx1, hx2⟩ := ver_at (Kd.C_below hVC.out hSk.bel) hlt3
                    subst hav
                    clear hx1 hx2
                    have hsk := SameE.foldV xe u (ls.take k) ou
                    have hnext := take_fold ls hlt3 (readsV xe u) ou
                    have hids2 := fun h0 => hids.out k hlt3 h0
                    generalize hok : (ls.take k).foldl (readsV xe u) ou = ok at *
                    have hulk : u < ok.ws.length := by rw [hsk.len]; exact hul.out
                    have hevk : ok.ws[u].ev = xe := (hsk.at_ hul.out hulk).trans hxe.out
                    have hbv : Below wr.heap.size wr (wr.alloc (.cells #[.string ls[k].f0, .int .u64 ls[k].f1, .string ls[k].f2, .slice A3 ls[k].f3.length c3] 49)) := below_alloc (Below.refl _ _) _
                    have hVb := heap_alloc_new wr (.cells #[.string ls[k].f0, .int .u64 ls[k].f1, .string ls[k].f2, .slice A3 ls[k].f3.length c3] 49)
                    have hPl := blk_lt hPk
                    have hSv := hSk.below hbv
                    have hPv := blk_below hPk hbv
                    have hKv := hKk.trans (KeepN.below hbv)
                    obtain ⟨D4, d4, D5, d5, D9, d9, hBB, hKK, hRR⟩ := hSv.blk hulk
                    rw [hBv.out] at hBB
                    rw [hevk] at hKK
                    have hBl : Bv < wr.heap.size := by
                      obtain ⟨_, _, _, _, _, _, hBw, _⟩ := hSk.blk hulk
                      rw [hBv.out] at hBw
                      exact blk_lt hBw
                    have w4 := blk_cell hBB 4
                    simp only [swCells, List.getElem?_toArray, List.getElem?_cons_zero, List.getElem?_cons_succ] at w4
                    rw [hevk] at w4
                    have hwr := wroteS_any Bv xe D4 d4 ls[k].f0 _ w4 (Kd.C_below (evt_open hKK).2.1 hSv.bel)
                    have p0 := blk_cell hPk 0
                    have hkey := hu.out k hlt3
                    have hmul := hmul2.out
                    have hbdk : ∀ i (h : i < ok.ws.length), -1099511627776 ≤ ok.ws[i].waits ∧ ok.ws[i].waits ≤ 1099511627776 ∧ ok.ws[i].behind.length ≤ 1099511627776 := fun i hi => by
                      obtain ⟨b1, b2, b3⟩ := hBk i hi
                      omega
                    simp only [List.getElem?_toArray, List.getElem?_cons_zero] at p0
                    replace hwr := Lib.hid hwr
                    replace hSv := Lib.hid hSv
                    replace hPv := Lib.hid hPv
                    replace hKv := Lib.hid hKv
                    replace hVb := Lib.hid hVb
                    replace hsk := Lib.hid hsk
                    replace hids2 := Lib.hid hids2
                    replace hBk := Lib.hid hBk
                    replace hevk := Lib.hid hevk
                    replace hulk := Lib.hid hulk
                    replace hbdk := Lib.hid hbdk
                    replace hkey := Lib.hid hkey
                    clear hSk hPk hKk hbv hBB hKK hRR w4
                    cases hwb : wroteB xe ls[k].f0 with
                    | false =>
                      rw [hwb] at hwr
                      have hnx : readsV xe u ok ls[k] = ok := by unfold readsV; rw [hwb]; rfl
                      rw [hnx] at hnext
                      replace hnext := Lib.hid hnext
                      clear hnx
                      replace hwb := Lib.hid hwb
                      go_wp2_with fail
                      refine hwr.out.mono ?_
                      rintro e W6 ⟨rfl, hb6⟩
                      have hS6 := Lib.hid (hSv.out.below hb6)
                      have hP6 := Lib.hid (blk_below hPv.out hb6)
                      have hK6 := Lib.hid (hKv.out.trans (KeepN.below hb6))
                      clear hb6
                      go_wp2
                      go_roundw
                      case rel => exact ⟨k + 1, by omega, by go_num, ⟨⟨vs2, by rw [hnext.out]; exact hS6.out⟩, hK6.out⟩, by rw [hnext.out]; exact hBk.out.mono (by omega), hP6.out⟩
                      case measure => simp [intOf]; omega
                    | true =>
                      rw [hwb] at hwr
                      have hnx : readsV xe u ok ls[k] = aheadS ok u ls[k].f1 := by unfold readsV; rw [hwb]; rfl
                      rw [hnx] at hnext
                      replace hnext := Lib.hid hnext
                      clear hnx
                      replace hwb := Lib.hid hwb
                      go_wp2_with (first
                        | (go_at_call 55; refine hwr.out.mono ?_; rintro e W6 ⟨rfl, hb6⟩; have hS6 := hSv.out.below hb6; have hP6 := Lib.hid (blk_below hPv.out hb6); have hK6 := Lib.hid (hKv.out.trans (KeepN.below hb6)); have hV6 := blk_below hVb.out hb6; have y1 := blk_cell hV6 1; have yl := blk_lt hV6; simp only [List.getElem?_toArray, List.getElem?_cons_zero, List.getElem?_cons_succ] at y1; have hah := Lib.hid (ahead_any u ls[k].f1 w0 W6 hS6 hulk.out hkey.out (fun h0 => by obtain ⟨q, hq⟩ := hids2.out h0; exact ⟨q, by rw [hsk.out.ids, hsame.out.ids]; exact hq⟩) hbdk.out); clear hb6 hS6 hV6)
                        | (go_at_call 51; refine hah.out.mono ?_; rintro e W7 ⟨rfl, ⟨vs3, hS7⟩, hK7⟩; have hP7 := Lib.hid (hK7.blk hP6.out (by decide) (by decide) (by decide)); have hK8 := Lib.hid (hK6.out.trans hK7); replace hS7 := Lib.hid hS7; clear hK7)
                        | go_in)
                      go_roundw
                      case rel => exact ⟨k + 1, by omega, by go_num, ⟨⟨vs3, by rw [hnext.out]; exact hS7.out⟩, hK8.out⟩, by rw [hnext.out]; exact Bnd.aheadS hBk.out u _, hP7.out⟩
                      case measure => simp [intOf]; omega
                  · obtain rfl : k = ls.length := by omega
                    rw [List.take_of_length_le (Nat.le_refl _)] at hSk hBk
                    replace hSk := Lib.hid hSk
                    replace hKk := Lib.hid hKk
                    replace hBk := Lib.hid hBk
                    clear hPk
                    go_wp2
                    go_roundw
                    case rel => exact ⟨u + 1, by have := hnn.out; omega, by go_num, ⟨⟨vs2, by rw [hgo.out]; exact hSk.out⟩, hKk.out⟩, by rw [hgo.out]; exact hBk.out.mono (by rw [Nat.succ_mul]; omega)⟩
                    case measure => simp [intOf]; omega
          ·
            have hgo := hgF.out rfl
            replace hgo := Lib.hid hgo
            go_wp2_with (first | (go_at_call 53; refine htl.out.mono ?_; rintro e W5 ⟨rfl, hb5⟩; have hS5 := hSp.out.below hb5; have hP5 := blk_below hPp.out hb5; have hE5 := blk_below hEp.out hb5; have hK5 := Lib.hid (hKp.out.trans (KeepN.below hb5)); have pp0 := blk_cell hP5 0; have e95 := blk_cell hE5 9; have el5 := blk_lt hE5; have pl5 := blk_lt hP5; have d11 : W5.cell? ⟨Bv, 11, none⟩ = _ := pw_cell_below hb5 w11; simp only [List.getElem?_toArray, List.getElem?_cons_zero, List.getElem?_cons_succ] at pp0 e95; replace hS5 := Lib.hid hS5; replace hP5 := Lib.hid hP5; replace hE5 := Lib.hid hE5; clear hb5) | go_in)
            generalize wr.heap.size = P at *
            go_loopw [99] (fun s wr => RelR3 w0 W3 Bo Bm (.slice (some ao) n rc) bs nm ou ls xe u (m + u * ls.length) P Bv s wr) (fun s _ => ls.length - (intOf s).toNat)
            case atStart => exact ⟨0, Nat.zero_le _, rfl, ⟨⟨vs', hS5.out⟩, hK5.out⟩, hBu.out, hP5.out⟩
            case round =>
              clear hS5 hK5 hP5 hE5
              obtain ⟨k, hk, rfl, ⟨⟨vs2, hSk⟩, hKk⟩, hBk, hPk⟩ := hrel
              by_cases hlt3 : k < ls.length
              · obtain ⟨av, A3, c3, hav, v0, v1, v2, v3, hx1, hx2⟩ := ver_at (Kd.C_below hVC.out hSk.bel) hlt3
                subst hav
                clear hx1 hx2
                have hsk := SameE.foldV xe u (ls.take k) ou
                have hnext := take_fold ls hlt3 (readsV xe u) ou
                have hids2 := fun h0 => hids.out k hlt3 h0
                generalize hok : (ls.take k).foldl (readsV xe u) ou = ok at *
                have hulk : u < ok.ws.length := by rw [hsk.len]; exact hul.out
                have hevk : ok.ws[u].ev = xe := (hsk.at_ hul.out hulk).trans hxe.out
                have hbv : Below wr.heap.size wr (wr.alloc (.cells #[.string ls[k].f0, .int .u64 ls[k].f1, .string ls[k].f2, .slice A3 ls[k].f3.length c3] 49)) := below_alloc (Below.refl _ _) _
                have hVb := heap_alloc_new wr (.cells #[.string ls[k].f0, .int .u64 ls[k].f1, .string ls[k].f2, .slice A3 ls[k].f3.length c3] 49)
                have hPl := blk_lt hPk
                have hSv := hSk.below hbv
                have hPv := blk_below hPk hbv
                have hKv := hKk.trans (KeepN.below hbv)
                obtain ⟨D4, d4, D5, d5, D9, d9, hBB, hKK, hRR⟩ := hSv.blk hulk
                rw [hBv.out] at hBB
                rw [hevk] at hKK
                have hBl : Bv < wr.heap.size := by
                  obtain ⟨_, _, _, _, _, _, hBw, _⟩ := hSk.blk hulk
                  rw [hBv.out] at hBw
                  exact blk_lt hBw
                have w4 := blk_cell hBB 4
                simp only [swCells, List.getElem?_toArray, List.getElem?_cons_zero, List.getElem?_cons_succ] at w4
                rw [hevk] at w4
                have hwr := wroteS_any Bv xe D4 d4 ls[k].f0 _ w4 (Kd.C_below (evt_open hKK).2.1 hSv.bel)
                have p0 := blk_cell hPk 0
                have hkey := hu.out k hlt3
                have hmul := hmul2.out
                have hbdk : ∀ i (h : i < ok.ws.length), -1099511627776 ≤ ok.ws[i].waits ∧ ok.ws[i].waits ≤ 1099511627776 ∧ ok.ws[i].behind.length ≤ 1099511627776 := fun i hi => by
                  obtain ⟨b1, b2, b3⟩ := hBk i hi
                  omega
                simp only [List.getElem?_toArray, List.getElem?_cons_zero] at p0
                replace hwr := Lib.hid hwr
                replace hSv := Lib.hid hSv
                replace hPv := Lib.hid hPv
                replace hKv := Lib.hid hKv
                replace hVb := Lib.hid hVb
                replace hsk := Lib.hid hsk
                replace hids2 := Lib.hid hids2
                replace hBk := Lib.hid hBk
                replace hevk := Lib.hid hevk
                replace hulk := Lib.hid hulk
                replace hbdk := Lib.hid hbdk
                replace hkey := Lib.hid hkey
                clear hSk hPk hKk hbv hBB hKK hRR w4
                cases hwb : wroteB xe ls[k].f0 with
                | false =>
                  rw [hwb] at hwr
                  have hnx : readsV xe u ok ls[k] = ok := by unfold readsV; rw [hwb]; rfl
                  rw [hnx] at hnext
                  replace hnext := Lib.hid hnext
                  clear hnx
                  replace hwb := Lib.hid hwb
                  go_wp2_with fail
                  refine hwr.out.mono ?_
                  rintro e W6 ⟨rfl, hb6⟩
                  have hS6 := Lib.hid (hSv.out.below hb6)
                  have hP6 := Lib.hid (blk_below hPv.out hb6)
                  have hK6 := Lib.hid (hKv.out.trans (KeepN.below hb6))
                  clear hb6
                  go_wp2
                  go_roundw
                  case rel => exact ⟨k + 1, by omega, by go_num, ⟨⟨vs2, by rw [hnext.out]; exact hS6.out⟩, hK6.out⟩, by rw [hnext.out]; exact hBk.out.mono (by omega), hP6.out⟩
                  case measure => simp [intOf]; omega
                | true =>
                  rw [hwb] at hwr
                  have hnx : readsV xe u ok ls[k] = aheadS ok u ls[k].f1 := by unfold readsV; rw [hwb]; rfl
                  rw [hnx] at hnext
                  replace hnext := Lib.hid hnext
                  clear hnx
                  replace hwb := Lib.hid hwb
                  go_wp2_with (first
                    | (go_at_call 55; refine hwr.out.mono ?_; rintro e W6 ⟨rfl, hb6⟩; have hS6 := hSv.out.below hb6; have hP6 := Lib.hid (blk_below hPv.out hb6); have hK6 := Lib.hid (hKv.out.trans (KeepN.below hb6)); have hV6 := blk_below hVb.out hb6; have y1 := blk_cell hV6 1; have yl := blk_lt hV6; simp only [List.getElem?_toArray, List.getElem?_cons_zero, List.getElem?_cons_succ] at y1; have hah := Lib.hid (ahead_any u ls[k].f1 w0 W6 hS6 hulk.out hkey.out (fun h0 => by obtain ⟨q, hq⟩ := hids2.out h0; exact ⟨q, by rw [hsk.out.ids, hsame.out.ids]; exact hq⟩) hbdk.out); clear hb6 hS6 hV6)
                    | (go_at_call 51; refine hah.out.mono ?_; rintro e W7 ⟨rfl, ⟨vs3, hS7⟩, hK7⟩; have hP7 := Lib.hid (hK7.blk hP6.out (by decide) (by decide) (by decide)); have hK8 := Lib.hid (hK6.out.trans hK7); replace hS7 := Lib.hid hS7; clear hK7)
                    | go_in)
                  go_roundw
                  case rel => exact ⟨k + 1, by omega, by go_num, ⟨⟨vs3, by rw [hnext.out]; exact hS7.out⟩, hK8.out⟩, by rw [hnext.out]; exact Bnd.aheadS hBk.out u _, hP7.out⟩
                  case measure => simp [intOf]; omega
              · obtain rfl : k = ls.length := by omega
                rw [List.take_of_length_le (Nat.le_refl _)] at hSk hBk
                replace hSk := Lib.hid hSk
                replace hKk := Lib.hid hKk
                replace hBk := Lib.hid hBk
                clear hPk
                go_wp2
                go_roundw
                case rel => exact ⟨u + 1, by have := hnn.out; omega, by go_num, ⟨⟨vs2, by rw [hgo.out]; exact hSk.out⟩, hKk.out⟩, by rw [hgo.out]; exact hBk.out.mono (by rw [Nat.succ_mul]; omega)⟩
                case measure => simp [intOf]; omega
        · obtain rfl : u = n := by omega
          replace hSu := Lib.hid hSu
          replace hKu := Lib.hid hKu
          replace hBu := Lib.hid hBu
          go_wp2
          go_ret
          rw [hre.out, hnn.out, hvs.out]
          exact ⟨rfl, ⟨⟨_, hSu.out⟩, (KeepN.below hbW.out).trans hKu.out⟩, hBu.out⟩
end Go.Proofs.YtiibjgnmdieicaaGreat.Hist
