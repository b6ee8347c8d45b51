/- spec: lay, in plain words; its search walked. -/
import Derived.Test.YtiibjgnmdieicaaGreatQk
namespace Go.Proofs.YtiibjgnmdieicaaGreat.Hist
open Go.RowKit Go.Proofs.YtiibjgnmdieicaaGreatW.PrintWords Go.Sort
open Go.Maps (Keyed)
def freeB (x : Sw) : Bool := !x.placed && x.waits == 0
def placeW (x : Sw) : Sw := ⟨x.ev, x.place, x.done, x.waits, x.behind, true⟩
def lowerW (ws : List Sw) (v : Nat) : List Sw := ws.modify v fun x => waitsW x (-1)
/-- one round of lay, at the write n -/
def layW (ws : List Sw) (n : Nat) : List Sw := match ws[n]? with
  | none => ws
  | some x => x.behind.foldl lowerW (ws.modify n placeW)
def idAt (ws : List Sw) (n : Nat) : Int := match ws[n]? with
  | none => 0
  | some x => x.ev.f3
def layN : Nat → List Sw → List Int → List Int
  | 0, _, out => out
  | k + 1, ws, out => if fidx freeB ws < 0 then out else layN k (layW ws (fidx freeB ws).toNat) (out ++ [idAt ws (fidx freeB ws).toNat])
def layAll (ws : List Sw) : List Int := layN ws.length ws []
/-- what lay never turns -/
structure SameB (ws ws' : List Sw) : Prop where
  len : ws'.length = ws.length
  ev : ∀ i : Nat, (ws'[i]?).map (fun x => (x.ev, x.behind)) = (ws[i]?).map (fun x => (x.ev, x.behind))
theorem SameB.refl (ws : List Sw) : SameB ws ws := ⟨rfl, fun _ => rfl⟩
theorem SameB.trans {ws w1 w2 : List Sw} (h : SameB ws w1) (k : SameB w1 w2) : SameB ws w2 := ⟨k.len.trans h.len, fun i => (k.ev i).trans (h.ev i)⟩
theorem SameB.modify (ws : List Sw) (v : Nat) (f : Sw → Sw) (hf : ∀ x, (f x).ev = x.ev ∧ (f x).behind = x.behind) : SameB ws (ws.modify v f) := ⟨by simp, fun i => by
  rw [List.getElem?_modify]
  cases ws[i]? with
  | none => rfl
  | some x =>
    by_cases h1 : v = i <;> simp [h1, hf]⟩
theorem SameB.lower (ws : List Sw) (v : Nat) : SameB ws (lowerW ws v) := SameB.modify _ _ _ fun _ => ⟨rfl, rfl⟩
theorem SameB.fold : ∀ (bh : List Nat) (ws : List Sw), SameB ws (bh.foldl lowerW ws)
  | [], ws => SameB.refl ws
  | v :: r, ws => (SameB.lower ws v).trans (SameB.fold r _)
theorem SameB.at_ {ws ws' : List Sw} (h : SameB ws ws') {i : Nat} (hi : i < ws.length) (hi' : i < ws'.length) : ws'[i].ev = ws[i].ev ∧ ws'[i].behind = ws[i].behind := by
  have := h.ev i
  rw [List.getElem?_eq_getElem hi, List.getElem?_eq_getElem hi'] at this
  simp only [Option.map_some, Option.some.injEq, Prod.mk.injEq] at this
  exact this
/-- how low a number may be, how great -/
def BndL (lo hi : Nat) (ws : List Sw) : Prop := ∀ i (h : i < ws.length), -(lo : Int) ≤ ws[i].waits ∧ ws[i].waits ≤ hi ∧ ws[i].behind.length ≤ hi
theorem BndL.mono {lo lo' hi : Nat} {ws : List Sw} (h : BndL lo hi ws) (hl : lo ≤ lo') : BndL lo' hi ws := fun i hi' => by
  obtain ⟨h1, h2, h3⟩ := h i hi'
  omega
theorem BndL.lower {lo hi : Nat} {ws : List Sw} (h : BndL lo hi ws) (v : Nat) : BndL (lo + 1) hi (lowerW ws v) := fun i hi' => by
  unfold lowerW at hi' ⊢
  simp only [List.length_modify] at hi'
  rw [List.getElem_modify]
  obtain ⟨h1, h2, h3⟩ := h i hi'
  split
  · simp only [waitsW]
    omega
  · omega
theorem BndL.place {lo hi : Nat} {ws : List Sw} (h : BndL lo hi ws) (v : Nat) : BndL lo hi (ws.modify v placeW) := fun i hi' => by
  simp only [List.length_modify] at hi'
  rw [List.getElem_modify]
  split <;> exact h i hi'
/-- what is named behind a write is a write -/
def InV (ws : List Sw) : Prop := ∀ i (h : i < ws.length), ∀ v ∈ ws[i].behind, v < ws.length
theorem InV.same {ws ws' : List Sw} (h : InV ws) (k : SameB ws ws') : InV ws' := fun i hi v hv => by
  have hi0 : i < ws.length := by rw [← k.len]; exact hi
  rw [k.len]
  rw [(k.at_ hi0 hi).2] at hv
  exact h i hi0 v hv
variable {w0 W : World} {Bo Bm : Nat} {rv : Value} {bs : List Nat} {vs : Nat → Value} {nm : Nat} {ws : List Sw} {ids : Int → Option Nat} {rnd : Bool}
set_option maxHeartbeats 2000000 in
set_option maxRecDepth 100000 in
theorem indexLay_any (hO : OS w0 W Bo Bm rv bs vs nm ws ids rnd) (hm : ws.length ≤ 9223372036854775807) :
    Calls Tryz.prog 56 #[rv, .func (.func 57) #[] #[]] W fun e w' => e = .returned (.int .i64 (fidx freeB ws)) ∧ Below W.heap.size W w' := by
  obtain ⟨r, hr⟩ : ∃ r, r = fidx freeB ws := ⟨_, rfl⟩
  rw [← hr]
  replace hr := Lib.hid hr
  obtain ⟨RA, rc, rfl⟩ := slice_of hO.row hO.len
  replace hO := Lib.hid hO
  go_enter Tryz.func56, Tryz.ntmps56
  go_wp2
  go_loopw [8] (fun s wr => RelI W freeB ws s wr) (fun s _ => ws.length - (intOf s).toNat)
  case atStart => exact ⟨0, Nat.zero_le _, rfl, (fun t _ h => absurd h (Nat.not_lt_zero t)), Below.refl _ _⟩
  case round =>
    obtain ⟨j, hj, rfl, hp, hB⟩ := hrel
    replace hp := Lib.hid hp
    by_cases hlt : j < ws.length
    · have hOr := hO.out.below hB
      obtain ⟨ao, rc', he, _⟩ := hOr.slice1 hlt
      obtain ⟨rfl, -⟩ := Value.slice.inj he
      clear he
      have hcm := hOr.cells hlt
      obtain ⟨D4, d4, D5, d5, D9, d9, hBB, hKK, hRR⟩ := hOr.blk hlt
      obtain ⟨Bv, hBv⟩ : ∃ B, bs.getD j 0 = B := ⟨_, rfl⟩
      rw [hBv] at hcm hBB
      replace hBv := Lib.hid hBv
      have w12 := blk_cell hBB 12
      have w14 := blk_cell hBB 14
      simp only [swCells, List.getElem?_toArray, List.getElem?_cons_zero, List.getElem?_cons_succ] at w12 w14
      have hcall := layc_any Bv ws[j].placed ws[j].waits wr w14 w12
      clear w12 w14 hBB hKK hRR hOr
      have hat := @fidx_at _ freeB ws j hlt hp.out
      have hnx : freeB ws[j] = false → ∀ t, (ht : t < ws.length) → t < j + 1 → freeB ws[t] = false := fun h t ht h1 => by
        by_cases e : t = j
        · subst e; exact h
        · exact hp.out t ht (by omega)
      have hfb : freeB ws[j] = (!ws[j].placed && ws[j].waits == 0) := rfl
      rw [← hfb] at hcall
      clear hfb
      generalize hb0 : freeB ws[j] = b0 at *
      replace hcall := Lib.hid hcall
      replace hat := Lib.hid hat
      replace hnx := Lib.hid hnx
      replace hb0 := Lib.hid hb0
      replace hB := Lib.hid hB
      cases b0
      · go_wp2_with fail
        refine hcall.out.mono ?_
        rintro e W' ⟨rfl, rfl⟩
        go_wp2
        go_roundw
        case rel => exact ⟨j + 1, by omega, by go_num, hnx.out (by first | trivial | rfl), hB.out⟩
        case measure => simp [intOf]; omega
      · go_wp2_with fail
        refine hcall.out.mono ?_
        rintro e W' ⟨rfl, rfl⟩
        go_wp2
        go_ret
        exact ⟨by rw [hr.out, hat.out (by first | trivial | exact hb0.out)]; rfl, hB.out⟩
    · have hno := Lib.hid (fidx_none (p := freeB) (l := ws) (fun t ht => hp.out t ht (by omega)))
      go_wp2
      go_ret
      exact ⟨by rw [hr.out, hno.out]; rfl, hB⟩
end Go.Proofs.YtiibjgnmdieicaaGreat.Hist
/- spec: lay, walked. -/
namespace Go.Proofs.YtiibjgnmdieicaaGreat.Hist
open Go.RowKit Go.Proofs.YtiibjgnmdieicaaGreatW.PrintWords Go.Sort
open Go.Maps (Keyed)
def RID (q : Int) (cs : List Value) : Prop := cs = [.int .u64 q]
theorem infoID : (Tryz.prog.info? 31).map (fun i => (i.zero, i.size, i.bytes)) = some (some (.int .u64 0), 1, 8) := by kernel_rfl
theorem oneID (b : Int) : ∀ u ∈ ([.int .u64 b] : List Value), u.oneCell' = true := by
  intro u hu
  simp at hu
  subst hu
  rfl
variable {w0 W W1 : World} {Bo Bm : Nat} {rv : Value} {bs : List Nat} {vs : Nat → Value} {nm : Nat} {ws : List Sw} {ids : Int → Option Nat} {rnd : Bool}
/-- a row of names is written: the order stays -/
theorem OS.offrow (h : OS w0 W Bo Bm rv bs vs nm ws ids rnd) {v : Value} {l : List Int} (hv : OwnRow RID tID 1 W w0.heap.size v l) (hg : W.grownBy W1 v.ownBlock) : OS w0 W1 Bo Bm rv bs vs nm ws ids rnd := by
  have hne : ∀ {c : Array Value} {t : TypeId} {g : Nat}, W.heap[g]? = some (.cells c t (0, 0)) → t ≠ tID → some g ≠ v.ownBlock := fun hc ht e => by
    obtain ⟨cells, hk⟩ := own_typed2 hv e.symm
    rw [hk] at hc
    injection hc with hc
    injection hc with _ hc _
    exact ht hc.symm
  have hrow : ∀ {α : Type} {R : α → List Value → Prop} {e : TypeId} {u : Value} {l : List α}, e ≠ tID → OwnRow R e 1 W w0.heap.size u l → OwnRow R e 1 W1 w0.heap.size u l := fun ht hr => hr.other hg (by
    rename_i u _
    cases hu : u.ownBlock with
    | none => exact .inl rfl
    | some k =>
      obtain ⟨cells, hk⟩ := own_typed2 hr hu
      exact .inr (hne hk ht))
  refine ⟨blk_grown h.bo hg (hne h.bo (by decide)), hrow (by decide) h.row, h.mp.kept hg (row_map h.mp hv), h.inb, h.len, ?_, h.far, h.dis, h.hi, h.bas, pw_below_grown h.bel _ h.bel.size hg (own_ge hv)⟩
  intro i b x h1 h2
  obtain ⟨A4, c4, A5, c5, A9, c9, hB, hK, hri⟩ := h.wr i b x h1 h2
  exact ⟨A4, c4, A5, c5, A9, c9, blk_grown hB hg (hne hB (by decide)), hK, hrow (by decide) hri⟩
theorem layN_stop (k : Nat) {ws : List Sw} (out : List Int) (h : fidx freeB ws = -1) : layN k ws out = out := by
  cases k with
  | zero => rfl
  | succ k => unfold layN; rw [h]; rfl
theorem layN_go {k : Nat} {ws : List Sw} (out : List Int) {j : Nat} (hk : 0 < k) (h : fidx freeB ws = (j : Int)) : layN k ws out = layN (k - 1) (layW ws j) (out ++ [idAt ws j]) := by
  cases k with
  | zero => cases hk
  | succ k =>
    show (if fidx freeB ws < 0 then out else _) = _
    rw [h, if_neg (by omega)]
    rfl
theorem layW_eq {ws : List Sw} {j : Nat} (h : j < ws.length) : layW ws j = ws[j].behind.foldl lowerW (ws.set j (placeW ws[j])) := by
  unfold layW
  rw [List.getElem?_eq_getElem h]
  show ws[j].behind.foldl lowerW (ws.modify j placeW) = _
  rw [modify_set _ _ _ h]
theorem take_foldN (l : List Nat) {k : Nat} (hk : k < l.length) (f : List Sw → Nat → List Sw) (o : List Sw) : (l.take (k + 1)).foldl f o = f ((l.take k).foldl f o) l[k] := by
  rw [← List.take_append_getElem hk, List.foldl_append]
  rfl
def RelLay (w0 : World) (Bo Bm : Nat) (rv : Value) (bs : List Nat) (vs : Nat → Value) (nm : Nat) (ids : Int → Option Nat) (rnd : Bool) (ws0 : List Sw) (hi : Nat) (s3 s12 : Value) (wr : World) : Prop :=
  ∃ (r : Nat) (ws : List Sw) (out : List Int) (A : Option Addr) (c : Nat), r ≤ ws0.length ∧ s12 = .int .i64 r ∧ s3 = .slice A r c ∧ OwnRow RID tID 1 wr w0.heap.size (.slice A r c) out ∧ out.length = r ∧ OS w0 wr Bo Bm rv bs vs nm ws ids rnd ∧ SameB ws0 ws ∧ BndL (r * hi) hi ws ∧ layAll ws0 = layN (ws0.length - r) ws out
def RelLow (w0 : World) (Bo Bm : Nat) (rv : Value) (bs : List Nat) (vs : Nat → Value) (nm : Nat) (ids : Int → Option Nat) (rnd : Bool) (ws1 : List Sw) (bh : List Nat) (lo hi : Nat) (v3 : Value) (out : List Int) (s55 : Value) (wr : World) : Prop :=
  ∃ k : Nat, k ≤ bh.length ∧ s55 = .int .i64 k ∧ OwnRow RID tID 1 wr w0.heap.size v3 out ∧ OS w0 wr Bo Bm rv bs vs nm ((bh.take k).foldl lowerW ws1) ids rnd ∧ BndL (lo + k) hi ((bh.take k).foldl lowerW ws1)
/-- what lay hands back -/
def Laid (w0 : World) (Bo Bm : Nat) (rv : Value) (bs : List Nat) (nm : Nat) (ids : Int → Option Nat) (rnd : Bool) (ws : List Sw) (e : Ending) (w' : World) : Prop :=
  ∃ A c vs' ws', e = .returned (.slice A (layAll ws).length c) ∧ OwnRow RID tID 1 w' w0.heap.size (.slice A (layAll ws).length c) (layAll ws) ∧ OS w0 w' Bo Bm rv bs vs' nm ws' ids rnd ∧ ws'.length = ws.length ∧ (layAll ws).length ≤ ws.length
theorem own_nat {W : World} {base : Nat} {A : Option Addr} {n c : Nat} {l : List Nat} (h : OwnRow RI tI 1 W base (.slice A n c) l) {k : Nat} (hk : k < l.length) : ∃ ad, A = some ad ∧ W.cell? (ad.add k) = some (.int .i64 l[k]) := by
  obtain ⟨A', c', e, _, hr⟩ := h.reads
  injection e with e1 e2 e3
  subst e1
  obtain ⟨ad, e, hc⟩ := hr.2.2 (by omega)
  refine ⟨ad, e, ?_⟩
  obtain ⟨cs, hl, hR, hcs⟩ := hc k l[k] (List.getElem?_eq_getElem hk)
  unfold RI at hR
  subst hR
  have h0 := hcs 0 _ rfl
  simpa using h0
set_option maxHeartbeats 16000000 in
set_option maxRecDepth 100000 in
theorem lay_any (hi : Nat) (hO : OS w0 W Bo Bm rv bs vs nm ws ids rnd) (hn : ws.length ≤ 1024) (hhi : hi ≤ 4294967296) (hB : BndL 0 hi ws) (hV : InV ws) :
    Calls Tryz.prog 30 #[.pointer (some ⟨Bo, 0, none⟩)] W (Laid w0 Bo Bm rv bs nm ids rnd ws) := by
  obtain ⟨RA, rc, rfl⟩ := slice_of hO.row hO.len
  have p0 := blk_cell hO.bo 0
  have pl := blk_lt hO.bo
  simp only [List.getElem?_toArray, List.getElem?_cons_zero] at p0
  have hmx : ws.length ≤ 9223372036854775807 := by omega
  replace hO := Lib.hid hO
  replace hB := Lib.hid hB
  replace hV := Lib.hid hV
  go_enter Tryz.func30, Tryz.ntmps30
  go_wp2
  go_loopw [3, 12] (fun s3 s12 wr => RelLay w0 Bo Bm (.slice RA ws.length rc) bs vs nm ids rnd ws hi s3 s12 wr) (fun _ s12 _ => ws.length - (intOf s12).toNat)
  case atStart => exact ⟨0, ws, [], none, 0, Nat.zero_le _, rfl, rfl, OwnRow.none_ _ _ _ _ _, rfl, hO.out, SameB.refl _, by rw [Nat.zero_mul]; exact hB.out, rfl⟩
  case round =>
    clear p0 pl hO
    obtain ⟨r, ws1, out, OA, oc, hr, rfl, rfl, hout, hol, hO, hsame, hbd, hlay⟩ := hrel
    have hl1 := hsame.len
    have hlen : (layAll ws) = out → (layAll ws).length ≤ ws.length := fun e => by rw [e, hol]; exact hr
    by_cases hlt : r < ws.length
    · have hidx := Lib.hid (indexLay_any hO (by omega))
      have p0 := blk_cell hO.bo 0
      have pl := blk_lt hO.bo
      simp only [List.getElem?_toArray, List.getElem?_cons_zero] at p0
      replace hO := Lib.hid hO
      replace hout := Lib.hid hout
      replace hlen := Lib.hid hlen
      replace hsame := Lib.hid hsame
      replace hbd := Lib.hid hbd
      replace hol := Lib.hid hol
      obtain ⟨hfx, hmn⟩ | ⟨n, hn1, hn2, hfx⟩ := fidx_find freeB ws1
      · rw [hmn] at hidx
        have hL : layAll ws = out := by rw [hlay, layN_stop _ _ hmn]
        replace hL := Lib.hid hL
        replace hlay := Lib.hid hlay
        replace hl1 := Lib.hid hl1
        clear hfx hmn
        go_wp2_with (first | (go_at_call 56; refine hidx.out.mono ?_; rintro e W3 ⟨rfl, hb3⟩; have hO3 := Lib.hid (hO.out.below hb3); have hr3 := Lib.hid (hout.out.below hb3); clear hb3) | go_in)
        go_ret
        exact ⟨OA, oc, vs, ws1, by rw [hL.out, hol.out]; rfl, by rw [hL.out, hol.out]; exact hr3.out, hO3.out, hl1.out, hlen.out hL.out⟩
      · rw [hfx] at hidx
        have hnext := layN_go (k := ws.length - r) out (by omega) hfx
        rw [← hlay] at hnext
        have hidn : idAt ws1 n = ws1[n].ev.f3 := by unfold idAt; rw [List.getElem?_eq_getElem hn1]
        rw [hidn, layW_eq hn1, show ws.length - r - 1 = ws.length - (r + 1) by omega] at hnext
        have hnn : ¬ ((n : Int) < 0) := by omega
        have hnw : n < ws.length := by rw [← hl1]; exact hn1
        have hmul : r * hi ≤ 1024 * 4294967296 := Nat.mul_le_mul (by omega) hhi
        have hbh : ws1[n].behind.length ≤ 4294967296 := by
          obtain ⟨_, _, h3⟩ := hbd.out n hn1
          omega
        have hbp : BndL (r * hi) hi (ws1.set n (placeW ws1[n])) := by
          rw [← modify_set _ _ _ hn1]
          exact hbd.out.place n
        have hsp : SameB ws (ws1.set n (placeW ws1[n])) := by
          rw [← modify_set _ _ _ hn1]
          exact hsame.out.trans (SameB.modify _ _ _ fun _ => ⟨rfl, rfl⟩)
        have hbl : ws1[n].behind.length ≤ hi := (hbd.out n hn1).2.2
        have hVn : ∀ v ∈ ws1[n].behind, v < ws.length := fun v hv => hV.out n hnw v (by rw [← (hsame.out.at_ hnw hn1).2]; exact hv)
        obtain ⟨ao, rc', he, -⟩ := hO.out.slice1 hn1
        obtain ⟨rfl, -⟩ := Value.slice.inj he
        clear he
        have hln : (out ++ [ws1[n].ev.f3]).length = r + 1 := by simp [hol.out]
        replace hnext := Lib.hid hnext
        replace hlay := Lib.hid hlay
        replace hl1 := Lib.hid hl1
        replace hbp := Lib.hid hbp
        replace hsp := Lib.hid hsp
        replace hVn := Lib.hid hVn
        replace hn1' := Lib.hid hn1
        replace hln := Lib.hid hln
        clear hfx hn2 hidn
        go_wp2_with fail
        refine hidx.out.mono ?_
        rintro e W3 ⟨rfl, hb3⟩
        have hO3 := hO.out.below hb3
        have hr3 := hout.out.below hb3
        have u0 := blk_cell hO3.bo 0
        have hcm := hO3.cells hn1
        have hFi := hO3.field hn1 14 (.bool true) (placeW ws1[n]) (by intros; rfl) rfl rfl
        obtain ⟨D4, d4, D5, d5, D9, d9, hBB, hKK, hRR⟩ := hO3.blk hn1
        obtain ⟨Bv, hBv⟩ : ∃ B, bs.getD n 0 = B := ⟨_, rfl⟩
        rw [hBv] at hcm hBB hFi
        have w14 := blk_cell hBB 14
        have f14 := blk_frozen hBB 14
        have lv := blk_lt hBB
        have ul := blk_lt hO3.bo
        have hr4 := hr3.set_ hBB (by decide) 14 (.bool true)
        have hns : n < (ws1.set n (placeW ws1[n])).length := by rw [List.length_set]; exact hn1
        have x0 := blk_cell hFi.bo 0
        have xl := blk_lt hFi.bo
        have xc := hFi.cells hns
        obtain ⟨F4, f4, F5, f5, F9, f9, hBf, hKf, hRf⟩ := hFi.blk hns
        rw [hBv] at xc hBf
        have x3 := blk_cell hBf 3
        have x13 := blk_cell hBf 13
        have xv := blk_lt hBf
        have hgs : (ws1.set n (placeW ws1[n]))[n]'hns = placeW ws1[n] := List.getElem_set_self _
        rw [hgs] at x3 x13 hRf
        simp only [swCells, placeW, List.getElem?_toArray, List.getElem?_cons_zero, List.getElem?_cons_succ] at u0 w14 x0 x3 x13
        replace hRf := Lib.hid hRf
        clear hBf hKf
        replace hgs := Lib.hid hgs
        replace hBv := Lib.hid hBv
        replace hFi := Lib.hid hFi
        replace hr4 := Lib.hid hr4
        clear hb3 hBB hKK hRR hO3 hr3 hO hout p0 pl
        obtain ⟨BA, bc, hbv⟩ := slice_of (n := ws1[n].behind.length) hRf.out rfl
        replace hbv := Lib.hid hbv
        have hone := Lib.hid (oneID ws1[n].ev.f3)
        have s5 : (out.length + 1) * 8 ≤ 140737488355328 := by rw [hol.out]; omega
        replace s5 := Lib.hid s5
        go_wp2_with (first
          | (at_builtin; refine append_plain (P := Tryz.prog) (R := RID) (w0 := w0) (W := W3.setCell ⟨Bv, 14, none⟩ (.bool true)) w0.heap.size rfl (.tmp 30) (.tmp 42) 40 31 (.int .u64 0) 1 8 rfl Tryz.underlying40 infoID rfl (by decide) (by decide) (.slice OA r oc) out ws1[n].ev.f3 [.int .u64 ws1[n].ev.f3] rfl (by simp [Act.eval]) rfl rfl (by exact hone.out) (by exact hr4.out) (by exact hFi.out.bel) (by exact hFi.out.bel.size) (by exact s5.out) (r + 1) (by exact hln.out) ?_; intro A7 c7 W7 own7 bel7 gr7; have hO7 := hFi.out.offrow hr4.out gr7; have z0 := blk_cell hO7.bo 0; have zl := blk_lt hO7.bo; have zc := hO7.cells hns; obtain ⟨G4, g4, G5, g5, G9, g9, hBg, hKg, hRg⟩ := hO7.blk hns; rw [hBv.out] at zc hBg; have z13 := blk_cell hBg 13; have zv := blk_lt hBg; rw [hgs.out] at z13 hRg; simp only [swCells, placeW, List.getElem?_toArray, List.getElem?_cons_zero, List.getElem?_cons_succ] at z0 z13; rw [hbv.out] at z13 hRg; replace own7 := Lib.hid own7; replace hO7 := Lib.hid hO7; replace hRg := Lib.hid hRg; clear hBg hKg bel7 gr7)
          | go_in)
        generalize hbe : ws1[n].behind = bh at *
        replace hbe := Lib.hid hbe
        go_loopw [55] (fun s wr => RelLow w0 Bo Bm (.slice (some ao) ws.length rc) bs vs nm ids rnd (ws1.set n (placeW ws1[n])) bh (r * hi) hi (.slice A7 (r + 1) c7) (out ++ [ws1[n].ev.f3]) s wr) (fun s _ => bh.length - (intOf s).toNat)
        case atStart => exact ⟨0, Nat.zero_le _, rfl, own7.out, hO7.out, hbp.out⟩
        case round =>
          clear z0 zl zc z13 zv own7 hO7
          obtain ⟨k, hk, rfl, hrk, hOk, hbk⟩ := hrel
          by_cases hlt2 : k < bh.length
          · have hsf := SameB.fold (bh.take k) (ws1.set n (placeW ws1[n]))
            have hnk := take_foldN bh hlt2 lowerW (ws1.set n (placeW ws1[n]))
            generalize hwk : (bh.take k).foldl lowerW (ws1.set n (placeW ws1[n])) = wk at *
            have hlk : wk.length = ws.length := by rw [hsf.len, List.length_set]; exact hl1.out
            have hnk2 : n < wk.length := by omega
            have hbk2 : wk[n].behind = bh := by rw [(hsf.at_ hns hnk2).2, hgs.out]; exact hbe.out
            have hvl : bh[k] < wk.length := by rw [hlk]; exact hVn.out _ (List.getElem_mem hlt2)
            obtain ⟨_, _, _, _, _, _, _, _, hRk⟩ := hOk.blk hnk2
            rw [hbk2, hbv.out] at hRk
            obtain ⟨an, rfl, hcn⟩ := own_nat hRk hlt2
            clear hRk
            generalize bh[k] = v at *
            have u0 := blk_cell hOk.bo 0
            have ul := blk_lt hOk.bo
            have uc := hOk.cells hvl
            obtain ⟨H4, h4, H5, h5, H9, h9, hBh, hKh, hRh⟩ := hOk.blk hvl
            have hFk := hOk.field hvl 12 (.int .i64 (wk[v].waits - 1)) (waitsW wk[v] (-1)) (by intros; rfl) rfl rfl
            have hrk2 := hrk.set_ hBh (by decide) 12 (.int .i64 (wk[v].waits - 1))
            obtain ⟨Bw, hBw⟩ : ∃ B, bs.getD v 0 = B := ⟨_, rfl⟩
            rw [hBw] at uc hBh hFk hrk2
            rw [← modify_set wk v (fun x => waitsW x (-1)) hvl] at hFk
            have y12 := blk_cell hBh 12
            have z12 := blk_frozen hBh 12
            have yl := blk_lt hBh
            simp only [swCells, List.getElem?_toArray, List.getElem?_cons_zero, List.getElem?_cons_succ] at u0 y12
            obtain ⟨hw1, hw2, _⟩ := hbk v hvl
            have hvw : v < ws.length := by omega
            have hkb : k < 4294967296 := by omega
            have hw3 : -9223372036854775807 ≤ wk[v].waits := by omega
            have hw4 : wk[v].waits ≤ 9223372036854775807 := by omega
            have hbk3 := hbk.lower v
            replace hBw := Lib.hid hBw
            replace hFk := Lib.hid hFk
            replace hrk2 := Lib.hid hrk2
            replace hnk := Lib.hid hnk
            replace hbk3 := Lib.hid hbk3
            clear hBh hKh hRh hOk hrk hbk hsf hw1 hw2
            generalize wk[v].waits = wt at *
            go_wp2
            go_roundw
            case rel => exact ⟨k + 1, by omega, by go_num, hrk2.out, by rw [hnk.out]; exact hFk.out, by rw [hnk.out]; exact hbk3.out⟩
            case measure => simp [intOf]; omega
          · obtain rfl : k = bh.length := by omega
            rw [List.take_of_length_le (Nat.le_refl _)] at hOk hbk
            have hsk := Lib.hid (hsp.out.trans (SameB.fold bh _))
            replace hrk := Lib.hid hrk
            replace hOk := Lib.hid hOk
            replace hbk := Lib.hid hbk
            go_wp2
            go_roundw
            case rel => exact ⟨r + 1, _, _, A7, c7, by omega, by go_num, rfl, hrk.out, hln.out, hOk.out, hsk.out, hbk.out.mono (by rw [Nat.succ_mul]; omega), hnext.out⟩
            case measure => simp [intOf]; omega
    · obtain rfl : r = ws.length := by omega
      have hL : layAll ws = out := by rw [hlay, Nat.sub_self]; rfl
      replace hO := Lib.hid hO
      replace hout := Lib.hid hout
      replace hlen := Lib.hid hlen
      replace hL := Lib.hid hL
      replace hl1 := Lib.hid hl1
      replace hol := Lib.hid hol
      go_wp2
      go_ret
      exact ⟨OA, oc, vs, ws1, by rw [hL.out, hol.out]; rfl, by rw [hL.out, hol.out]; exact hout.out, hO.out, hl1.out, hlen.out hL.out⟩
end Go.Proofs.YtiibjgnmdieicaaGreat.Hist
/- spec: Order, in plain words. -/
namespace Go.Proofs.YtiibjgnmdieicaaGreat.Hist
open Go.RowKit Go.Proofs.YtiibjgnmdieicaaGreatW.PrintWords Go.Sort
def toldB (e : Evt) : Bool := e.f0 == 3 && e.f6.f1 == 1 && decide (0 < e.f6.f3.length)
def orderRun (h : List Evt) : List Evt → Nat → Os → Os × Bool
  | [], _, o => (o, true)
  | e :: r, i, o => if toldB e = true then (if (readsS h o e i).2 = true then orderRun h r (i + 1) (readsS h o e i).1 else ((readsS h o e i).1, false)) else orderRun h r (i + 1) o
/-- what Order tells: the order, is there one, the error -/
def orderS (l : List Evt) : List Int × Bool × Int :=
  if properB l = true then (
    if (orderRun l l 0 (collAll l 0 cs0).o).2 = true then (
      if (orderRun l l 0 (collAll l 0 cs0).o).1.rnd = true ∨ (layAll (orderRun l l 0 (collAll l 0 cs0).o).1.ws).length < (orderRun l l 0 (collAll l 0 cs0).o).1.ws.length then ([], false, 0)
      else (layAll (orderRun l l 0 (collAll l 0 cs0).o).1.ws, true, 0))
    else ([], false, 1))
  else ([], false, 1)
theorem run_step {l : List Evt} {j : Nat} {o o0 : Os} (hlt : j < l.length) (hp : orderRun l l 0 o0 = orderRun l (l.drop j) j o) :
    orderRun l l 0 o0 = if toldB l[j] = true then (if (readsS l o l[j] j).2 = true then orderRun l (l.drop (j + 1)) (j + 1) (readsS l o l[j] j).1 else ((readsS l o l[j] j).1, false)) else orderRun l (l.drop (j + 1)) (j + 1) o := by
  rw [hp, List.drop_eq_getElem_cons hlt, orderRun]
/-- what is named is a write -/
def InO (o : Os) : Prop := (∀ q i, o.ids q = some i → i < o.ws.length) ∧ InV o.ws
theorem InV.modify {ws : List Sw} (h : InV ws) (v : Nat) (f : Sw → Sw) (hf : ∀ x, (f x).ev = x.ev ∧ (f x).behind = x.behind) : InV (ws.modify v f) := h.same (SameB.modify _ _ _ hf)
theorem InO.ahead {o : Os} (h : InO o) (u : Nat) (id : Int) : InO (aheadS o u id) := by
  unfold aheadS
  split
  · exact h
  · split
    · exact h
    · rename_i v hv
      split
      · exact h
      · refine ⟨fun q i hq => ?_, ?_⟩
        · show i < (aheadW o.ws u v).length
          unfold aheadW
          rw [List.length_modify, List.length_modify]
          exact h.1 q i hq
        · show InV (aheadW o.ws u v)
          unfold aheadW
          refine InV.modify ?_ _ _ (fun _ => ⟨rfl, rfl⟩)
          intro i hi w hw
          rw [List.length_modify] at hi ⊢
          rw [List.getElem_modify] at hw
          split at hw
          · simp only [behindW, List.mem_append, List.mem_singleton] at hw
            rcases hw with hw | hw
            · exact h.2 i hi w hw
            · subst hw
              exact h.1 _ _ hv
          · exact h.2 i hi w hw
theorem InV.push {ws : List Sw} (h : InV ws) (i : Int) (e : Evt) : InV (ws ++ [newSw i e]) := fun k hk w hw => by
  rw [List.length_append, List.length_singleton] at hk ⊢
  by_cases hl : k < ws.length
  · rw [List.getElem_append_left hl] at hw
    have := h k hl w hw
    omega
  · rw [List.getElem_append_right (by omega)] at hw
    simp [newSw] at hw
theorem InO.push {o : Os} (h : InO o) (i : Int) (e : Evt) : InO (pushS o i e) := by
  refine ⟨fun q n hq => ?_, ?_⟩
  · show n < (o.ws ++ [newSw i e]).length
    rw [List.length_append, List.length_singleton]
    have hq' : (if q = e.f3 then some o.ws.length else o.ids q) = some n := hq
    split at hq'
    · injection hq' with hq'
      omega
    · have := h.1 q n hq'
      omega
  · exact h.2.push i e
theorem InO.coll {s : Cs} (h : InO s.o) (i : Int) (e : Evt) : InO (collS s i e).o := by
  unfold collS
  split
  · show InO (match s.last e.f1 with | none => pushS s.o i e | some u => aheadS (pushS s.o i e) u e.f3)
    split
    · exact h.push i e
    · exact (h.push i e).ahead _ _
  · split
    · split
      · exact h
      · refine ⟨fun q n hq => ?_, h.2.modify _ _ fun _ => ⟨rfl, rfl⟩⟩
        show n < (s.o.ws.modify _ _).length
        rw [List.length_modify]
        exact h.1 q n hq
    · exact h
theorem InO.collAll : ∀ (l : List Evt) (i : Int) (s : Cs), InO s.o → InO (collAll l i s).o
  | [], _, _, h => h
  | e :: r, i, s, h => InO.collAll r (i + 1) (collS s i e) (h.coll i e)
theorem InO.cs0 : InO cs0.o := ⟨fun _ _ h => (by cases h), fun i hi => absurd hi (Nat.not_lt_zero _)⟩
theorem InO.foldV (x : Evt) (u : Nat) : ∀ (vs : List Ver) (o : Os), InO o → InO (vs.foldl (readsV x u) o)
  | [], _, h => h
  | v :: r, o, h => InO.foldV x u r _ (by unfold readsV; split; exact h.ahead _ _; exact h)
theorem InO.all (vs : List Ver) (asked : Int) (o : Os) (h : InO o) : ∀ n, InO (readsAll vs asked o n)
  | 0 => h
  | n + 1 => by
    rw [readsAll_succ]
    have := InO.all vs asked o h n
    unfold readsU
    split
    · exact this
    · split
      · exact this
      · exact InO.foldV _ _ _ _ this
theorem InO.reads {o : Os} (h : InO o) (l : List Evt) (a : Evt) (at_ : Nat) : InO (readsS l o a at_).1 := by
  unfold readsS
  split
  · exact h.all _ _ _ _
  · exact h
theorem SameE.reads (l : List Evt) (o : Os) (a : Evt) (at_ : Nat) : SameE o (readsS l o a at_).1 := by
  unfold readsS
  split
  · exact SameE.all _ _ _ _
  · exact SameE.refl _
/-- what Order is handed -/
structure OrdIn (l : List Evt) : Prop where
  few : l.length ≤ 1024
  vrs : ∀ j (h : j < l.length), l[j].f6.f3.length ≤ 1024
  u64 : ∀ j (h : j < l.length), (Lit.int .u64 l[j].f3).wf = true
  a64 : ∀ j (h : j < l.length), (Lit.int .u64 l[j].f6.f2).wf = true
  v64 : ∀ j (h : j < l.length) k (hk : k < l[j].f6.f3.length), (Lit.int .u64 l[j].f6.f3[k].f1).wf = true
theorem OrdIn.coll {l : List Evt} (h : OrdIn l) (hp : properB l = true) : CollIn l where
  few := Nat.le_trans h.few (by decide)
  kind j hj := (proper_in hp j hj).1
  c64 j hj := by
    have := proper_in hp j hj
    exact ⟨by omega, by omega⟩
  u64 := h.u64
  a64 := h.a64
def RelO (w : World) (Bo Bm : Nat) (rv : Value) (bs : List Nat) (nm : Nat) (l : List Evt) (o0 : Os) (s16 : Value) (wr : World) : Prop :=
  ∃ (j : Nat) (o : Os) (vs : Nat → Value), j ≤ l.length ∧ s16 = .int .i64 j ∧ OS w wr Bo Bm rv bs vs nm o.ws o.ids o.rnd ∧ Bnd (1024 + j * 1048576) o.ws ∧ SameE o0 o ∧ InO o ∧ orderRun l l 0 o0 = orderRun l (l.drop j) j o
/-- what Order hands back -/
def Ordered (w : World) (l : List Evt) (e : Ending) (w' : World) : Prop := ∃ A c, e = .returned (.tuple #[.slice A (orderS l).1.length c, .bool (orderS l).2.1, .int .i64 (orderS l).2.2]) ∧ OwnRow RID tID 1 w' w.heap.size (.slice A (orderS l).1.length c) (orderS l).1 ∧ Below w.heap.size w w'
end Go.Proofs.YtiibjgnmdieicaaGreat.Hist
/- spec: Order, walked. -/
namespace Go.Proofs.YtiibjgnmdieicaaGreat.Hist
open Go.RowKit Go.Proofs.YtiibjgnmdieicaaGreatW.PrintWords Go.Sort
open Go.Maps (Keyed)
set_option maxHeartbeats 16000000 in
set_option maxRecDepth 100000 in
theorem order_any (A : Option Addr) (c : Nat) (l : List Evt) (w : World) (hC : kEvt.C w A l.length l) (hI : OrdIn l) :
    Calls Tryz.prog 13 #[.slice A l.length c] w (Ordered w l) := by
  have hpr := proper_any A c l w hC (Nat.le_trans hI.few (by decide))
  have hm : l.length ≤ 9223372036854775807 := hC.2.1
  have hfew := hI.few
  cases hp : properB l with
  | false =>
    rw [hp] at hpr
    have ho : orderS l = ([], false, 1) := by unfold orderS; rw [hp]; rfl
    unfold Ordered
    rw [ho]
    replace hpr := Lib.hid hpr
    clear ho hp hC hI
    go_enter Tryz.func13, Tryz.ntmps13
    go_wp2_with fail
    refine hpr.out.mono ?_
    rintro e W1 ⟨rfl, hb1⟩
    replace hb1 := Lib.hid hb1
    go_wp2
    go_ret3
    exact ⟨none, 0, rfl, OwnRow.none_ _ _ _ _ _, hb1.out⟩
  | true =>
    rw [hp] at hpr
    have hcoll := fun W1 (hb : Below w.heap.size w W1) => collect_any A c l W1 (Kd.C_below hC hb) (hI.coll hp)
    have hino := InO.collAll l 0 cs0 InO.cs0
    obtain ⟨o0, ho0⟩ : ∃ o0, o0 = (collAll l 0 cs0).o := ⟨_, rfl⟩
    have hoS : orderS l = if (orderRun l l 0 o0).2 = true then (
        if (orderRun l l 0 o0).1.rnd = true ∨ (layAll (orderRun l l 0 o0).1.ws).length < (orderRun l l 0 o0).1.ws.length then ([], false, 0)
        else (layAll (orderRun l l 0 o0).1.ws, true, 0)) else ([], false, 1) := by
      unfold orderS
      rw [if_pos hp, ← ho0]
    obtain ⟨q, hq⟩ : ∃ q, q = orderS l := ⟨_, rfl⟩
    unfold Ordered
    rw [← hq]
    rw [← hq] at hoS
    unfold Collected at hcoll
    rw [← ho0] at hcoll hino
    replace hpr := Lib.hid hpr
    replace hC := Lib.hid hC
    replace hI := Lib.hid hI
    replace hcoll := Lib.hid hcoll
    replace hino := Lib.hid hino
    replace hoS := Lib.hid hoS
    clear hp ho0 hq
    go_enter Tryz.func13, Tryz.ntmps13
    go_wp2_with (first
      | (go_at_call 23; refine hpr.out.mono ?_; rintro e W1 ⟨rfl, hb1⟩; have hc1 := Lib.hid (hcoll.out W1 hb1); replace hb1 := Lib.hid hb1; clear hcoll)
      | (go_at_call 28; refine hc1.out.mono ?_; rintro e W2 ⟨Bo, Bm, rv, bs, vs, nm, rfl, hO2, hB2, hl2⟩; replace hO2 := Lib.hid hO2; replace hB2 := Lib.hid hB2; clear hc1)
      | go_in)
    go_loopw [16] (fun s wr => RelO W1 Bo Bm rv bs nm l o0 s wr) (fun s _ => l.length - (intOf s).toNat)
    case atStart => exact ⟨0, o0, vs, Nat.zero_le _, rfl, hO2.out, hB2.out.mono (by omega), SameE.refl _, hino.out, rfl⟩
    case round =>
      clear hO2 hB2 hino
      obtain ⟨j, o, vs1, hj, rfl, hO, hbd, hse, hin, hrun⟩ := hrel
      by_cases hlt : j < l.length
      · obtain ⟨ad, A4, c4, A5, c5, A9, c9, rfl, q0, q1, q2, q3, q4, q5, q6, q7, q8, q9, hK, hl9, hk9⟩ := evt_at (Kd.C_below hC.out hb1.out) hlt
        have hb0 := hO.bel
        replace q0 := pw_cell_below hb0 q0
        replace q1 := pw_cell_below hb0 q1
        replace q2 := pw_cell_below hb0 q2
        replace q3 := pw_cell_below hb0 q3
        replace q4 := pw_cell_below hb0 q4
        replace q5 := pw_cell_below hb0 q5
        replace q6 := pw_cell_below hb0 q6
        replace q7 := pw_cell_below hb0 q7
        replace q8 := pw_cell_below hb0 q8
        replace q9 := pw_cell_below hb0 q9
        clear hb0 hK hl9 hk9
        have hbE : Below wr.heap.size wr (wr.alloc (.cells #[.int .i64 l[j].f0, .int .i64 l[j].f1, .int .i64 l[j].f2, .int .u64 l[j].f3, .slice A4 l[j].f4.length c4, .slice A5 l[j].f5.length c5, .int .i64 l[j].f6.f0, .int .i64 l[j].f6.f1, .int .u64 l[j].f6.f2, .slice A9 l[j].f6.f3.length c9] 38)) := below_alloc (Below.refl _ _) _
        have hO1 := hO.below hbE
        have hst := run_step hlt hrun
        have hsame : orderRun l l 0 o0 = orderRun l (l.drop (j + 1)) (j + 1) o → RelO W1 Bo Bm rv bs nm l o0 (.int .i64 ((j + 1 : Nat) : Int)) (wr.alloc (.cells #[.int .i64 l[j].f0, .int .i64 l[j].f1, .int .i64 l[j].f2, .int .u64 l[j].f3, .slice A4 l[j].f4.length c4, .slice A5 l[j].f5.length c5, .int .i64 l[j].f6.f0, .int .i64 l[j].f6.f1, .int .u64 l[j].f6.f2, .slice A9 l[j].f6.f3.length c9] 38)) := fun h =>
          ⟨j + 1, o, vs1, by omega, rfl, hO1, hbd.mono (by rw [Nat.succ_mul]; omega), hse, hin, h⟩
        have hrd := reads_any (some ad) c l W1 (wr.alloc (.cells #[.int .i64 l[j].f0, .int .i64 l[j].f1, .int .i64 l[j].f2, .int .u64 l[j].f3, .slice A4 l[j].f4.length c4, .slice A5 l[j].f5.length c5, .int .i64 l[j].f6.f0, .int .i64 l[j].f6.f1, .int .u64 l[j].f6.f2, .slice A9 l[j].f6.f3.length c9] 38)) o j (1024 + j * 1048576) hlt (Kd.C_below hC.out hb1.out) hO1 hbd (hI.out.vrs j hlt) (by rw [hse.len]; omega) (by omega) (hI.out.v64 j hlt)
        have hin2 := hin.reads l l[j] j
        have hse2 := hse.trans (SameE.reads l o l[j] j)
        have hmul : o.ws.length * l[j].f6.f3.length ≤ 1048576 := Nat.le_trans (Nat.mul_le_mul (by rw [hse.len]; omega : o.ws.length ≤ 1024) (hI.out.vrs j hlt)) (by decide)
        obtain ⟨rs, hrs⟩ : ∃ rs, rs = readsS l o l[j] j := ⟨_, rfl⟩
        rw [← hrs] at hrd hin2 hse2 hst
        replace hrs := Lib.hid hrs
        replace hO1 := Lib.hid hO1
        replace hsame := Lib.hid hsame
        replace hrd := Lib.hid hrd
        replace hin2 := Lib.hid hin2
        replace hse2 := Lib.hid hse2
        clear hO hbd hse hin hrun hbE
        by_cases k3 : l[j].f0 = 3
        · have b3 : (l[j].f0 == 3) = true := beq_iff_eq.2 k3
          replace k3 := Lib.hid k3
          by_cases k1 : l[j].f6.f1 = 1
          · have b1 : (l[j].f6.f1 == 1) = true := beq_iff_eq.2 k1
            replace k1 := Lib.hid k1
            by_cases kv : 0 < l[j].f6.f3.length
            · have htb : toldB l[j] = true := by unfold toldB; rw [b3, b1, decide_eq_true kv]; rfl
              rw [if_pos htb] at hst
              have bv : decide ((0 : Int) < (l[j].f6.f3.length : Int)) = true := decide_eq_true (by omega)
              replace hmul := Lib.hid hmul
              replace kv := Lib.hid kv
              replace htb := Lib.hid htb
              obtain ⟨o2, ok⟩ := rs
              generalize hvn : l[j].f6.f3.length = vn at *
              replace hvn := Lib.hid hvn
              cases ok with
              | false =>
                rw [if_neg (by simp)] at hst
                have hqf : q = ([], false, 1) := by rw [hoS.out, hst]; rfl
                replace hst := Lib.hid hst
                replace hqf := Lib.hid hqf
                go_wp2_with (first | (go_at_call 29; refine hrd.out.mono ?_; rintro e W4 ⟨rfl, ⟨⟨vs4, hO4⟩, hK4⟩, hB4⟩; replace hO4 := Lib.hid hO4; replace hB4 := Lib.hid hB4; clear hK4) | go_in)
                go_ret3
                rw [hqf.out]
                exact ⟨none, 0, rfl, OwnRow.none_ _ _ _ _ _, below_then hb1.out hb1.out.size hO4.out.bel⟩
              | true =>
                rw [if_pos rfl] at hst
                replace hst := Lib.hid hst
                go_wp2_with (first | (go_at_call 29; refine hrd.out.mono ?_; rintro e W4 ⟨rfl, ⟨⟨vs4, hO4⟩, hK4⟩, hB4⟩; replace hO4 := Lib.hid hO4; replace hB4 := Lib.hid hB4; clear hK4) | go_in)
                go_roundw
                case rel => exact ⟨j + 1, o2, vs4, by omega, by go_num, hO4.out, hB4.out.mono (by have := hmul.out; rw [Nat.succ_mul]; omega), hse2.out, hin2.out, hst.out⟩
                case measure => simp [intOf]; omega
            · have htb : toldB l[j] = false := by unfold toldB; rw [b3, b1, decide_eq_false kv]; rfl
              rw [htb] at hst
              replace hst := Lib.hid hst
              replace htb := Lib.hid htb
              clear hmul
              generalize hvn : l[j].f6.f3.length = vn at *
              replace hvn := Lib.hid hvn
              have hz : vn = 0 := by omega
              clear kv
              subst hz
              go_wp2
              go_roundw
              case rel => exact hsame.out hst.out
              case measure => simp [intOf]; omega
          · have b1 : (l[j].f6.f1 == 1) = false := beq_eq_false_iff_ne.2 k1
            have htb : toldB l[j] = false := by unfold toldB; rw [b3, b1]; rfl
            rw [htb] at hst
            replace hst := Lib.hid hst
            clear hmul
            replace k1 := Lib.hid k1
            generalize l[j].f6.f3.length = vn at *
            go_wp2
            go_roundw
            case rel => exact hsame.out hst.out
            case measure => simp [intOf]; omega
        · have b3 : (l[j].f0 == 3) = false := beq_eq_false_iff_ne.2 k3
          have htb : toldB l[j] = false := by unfold toldB; rw [b3]; rfl
          rw [htb] at hst
          replace hst := Lib.hid hst
          clear hmul
          replace k3 := Lib.hid k3
          generalize l[j].f6.f3.length = vn at *
          go_wp2
          go_roundw
          case rel => exact hsame.out hst.out
          case measure => simp [intOf]; omega
      · obtain rfl : j = l.length := by omega
        rw [List.drop_of_length_le (Nat.le_refl _), orderRun] at hrun
        have hoq := hoS.out
        rw [hrun, if_pos rfl] at hoq
        have hlay := lay_any (1024 + l.length * 1048576) hO (by rw [hse.len]; omega) (by omega) (fun i hi => by
          obtain ⟨b1, b2, b3⟩ := hbd i hi
          exact ⟨by omega, by omega, b3⟩) hin.2
        have hol : o.ws.length ≤ 1024 := by rw [hse.len]; omega
        replace hO := Lib.hid hO
        replace hlay := Lib.hid hlay
        clear hbd hse hin hrun hoS
        obtain ⟨L, hL⟩ : ∃ L, L = layAll o.ws := ⟨_, rfl⟩
        unfold Laid at hlay
        rw [← hL] at hlay hoq
        replace hL := Lib.hid hL
        obtain ⟨ows, oids, ornd⟩ := o
        by_cases hrd : ornd = true
        · subst hrd
          rw [if_pos (.inl rfl)] at hoq
          replace hoq := Lib.hid hoq
          go_wp2_with (first | (go_at_call 30; refine hlay.out.mono ?_; rintro e W5 ⟨LA, lc, vs5, ws5, rfl, hr5, hO5, hl5, hl6⟩; have u0 := blk_cell hO5.bo 0; have u2 := blk_cell hO5.bo 2; have ul := blk_lt hO5.bo; simp only [List.getElem?_toArray, List.getElem?_cons_zero, List.getElem?_cons_succ] at u0 u2; replace hr5 := Lib.hid hr5; replace hO5 := Lib.hid hO5; clear hlay) | go_in)
          go_ret3
          rw [hoq.out]
          exact ⟨none, 0, rfl, OwnRow.none_ _ _ _ _ _, below_then hb1.out hb1.out.size hO5.out.bel⟩
        · obtain rfl : ornd = false := by simpa using hrd
          clear hrd
          by_cases hlt2 : L.length < ows.length
          · rw [if_pos (.inr hlt2)] at hoq
            replace hoq := Lib.hid hoq
            have b5 : decide ((L.length : Int) < (ows.length : Int)) = true := decide_eq_true (by omega)
            replace hlt2 := Lib.hid hlt2
            generalize hln : L.length = ln at *
            generalize hwn : ows.length = wn at *
            replace hln := Lib.hid hln
            replace hwn := Lib.hid hwn
            go_wp2_with (first | (go_at_call 30; refine hlay.out.mono ?_; rintro e W5 ⟨LA, lc, vs5, ws5, rfl, hr5, hO5, hl5, hl6⟩; obtain ⟨RA, rc, rfl⟩ := slice_of hO5.row (hO5.len.trans hl5); have u0 := blk_cell hO5.bo 0; have u2 := blk_cell hO5.bo 2; have ul := blk_lt hO5.bo; simp only [List.getElem?_toArray, List.getElem?_cons_zero, List.getElem?_cons_succ] at u0 u2; replace hr5 := Lib.hid hr5; replace hO5 := Lib.hid hO5; replace hl5 := Lib.hid hl5; replace hl6 := Lib.hid hl6; clear hlay) | go_in)
            go_ret3
            rw [hoq.out]
            exact ⟨none, 0, rfl, OwnRow.none_ _ _ _ _ _, below_then hb1.out hb1.out.size hO5.out.bel⟩
          · rw [if_neg (by rintro (h | h); · cases h
                           · exact hlt2 h)] at hoq
            have hq1 : q = (L, true, 0) := hoq
            replace hq1 := Lib.hid hq1
            clear hoq
            have b5 : decide ((L.length : Int) < (ows.length : Int)) = false := decide_eq_false (by omega)
            replace hlt2 := Lib.hid hlt2
            generalize hln : L.length = ln at *
            generalize hwn : ows.length = wn at *
            replace hln := Lib.hid hln
            replace hwn := Lib.hid hwn
            go_wp2_with (first | (go_at_call 30; refine hlay.out.mono ?_; rintro e W5 ⟨LA, lc, vs5, ws5, rfl, hr5, hO5, hl5, hl6⟩; obtain ⟨RA, rc, rfl⟩ := slice_of hO5.row (hO5.len.trans hl5); have u0 := blk_cell hO5.bo 0; have u2 := blk_cell hO5.bo 2; have ul := blk_lt hO5.bo; simp only [List.getElem?_toArray, List.getElem?_cons_zero, List.getElem?_cons_succ] at u0 u2; replace hr5 := Lib.hid hr5; replace hO5 := Lib.hid hO5; replace hl5 := Lib.hid hl5; replace hl6 := Lib.hid hl6; clear hlay) | go_in)
            go_ret3
            rw [hq1.out]
            exact ⟨LA, lc, by rw [hln.out]; rfl, by rw [hln.out]; exact hr5.out.lower hb1.out.size, below_then hb1.out hb1.out.size hO5.out.bel⟩
end Go.Proofs.YtiibjgnmdieicaaGreat.Hist
