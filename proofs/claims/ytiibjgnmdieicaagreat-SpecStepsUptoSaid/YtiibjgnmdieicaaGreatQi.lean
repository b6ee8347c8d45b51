/- spec: request, wrote, walked. -/
import Derived.Test.YtiibjgnmdieicaaGreatQh
import Derived.Deep.RegionHeld3
import Derived.StillTail
namespace Go.Proofs.YtiibjgnmdieicaaGreat.Hist
open Go.RowKit Go.Proofs.YtiibjgnmdieicaaGreatW.PrintWords Go.Sort
/-- is an event the request of an answer? -/
def reqB (a x : Evt) : Bool := (x.f0 != 3) && x.f1 == a.f1 && x.f2 == a.f2
set_option maxHeartbeats 4000000 in
set_option maxRecDepth 100000 in
theorem reqc_any (a x : Evt) (A4 : Option Addr) (c4 : Nat) (A5 : Option Addr) (c5 : Nat) (A9 : Option Addr) (c9 : Nat) (B : Nat) (w : World) (h1 : w.cell? ⟨B, 1, none⟩ = some (.int .i64 a.f1)) (h2 : w.cell? ⟨B, 2, none⟩ = some (.int .i64 a.f2)) :
    Calls Tryz.prog 74 #[.agg #[.int .i64 x.f0, .int .i64 x.f1, .int .i64 x.f2, .int .u64 x.f3, .slice A4 x.f4.length c4, .slice A5 x.f5.length c5, .int .i64 x.f6.f0, .int .i64 x.f6.f1, .int .u64 x.f6.f2, .slice A9 x.f6.f3.length c9], .pointer (some ⟨B, 0, none⟩)] w fun e w' => e = .returned (.bool (reqB a x)) ∧ Below w.heap.size w w' := by
  have hl := World.block_lt_of_cell? w _ h1
  have hB := Lib.hid (below_alloc (Below.refl _ _) (.cells #[.int .i64 x.f0, .int .i64 x.f1, .int .i64 x.f2, .int .u64 x.f3, .slice A4 x.f4.length c4, .slice A5 x.f5.length c5, .int .i64 x.f6.f0, .int .i64 x.f6.f1, .int .u64 x.f6.f2, .slice A9 x.f6.f3.length c9] 38) : Below w.heap.size w _)
  obtain ⟨r, hr⟩ : ∃ r, r = reqB a x := ⟨_, rfl⟩
  rw [← hr]
  unfold reqB at hr
  cases d0 : (x.f0 != 3) <;> cases d1 : (x.f1 == a.f1) <;> cases d2 : (x.f2 == a.f2) <;> rw [d0, d1, d2] at hr
  all_goals
    replace hr := Lib.hid hr
    go_enter Tryz.func74, Tryz.ntmps74
    go_wp2
    go_ret
    exact ⟨by rw [hr.out]; rfl, hB.out⟩
set_option maxHeartbeats 2000000 in
set_option maxRecDepth 100000 in
theorem indexReq_any (A : Option Addr) (c : Nat) (l : List Evt) (a : Evt) (B : Nat) (w : World) (hC : Kd.C kEvt w A l.length l) (h1 : w.cell? ⟨B, 1, none⟩ = some (.int .i64 a.f1)) (h2 : w.cell? ⟨B, 2, none⟩ = some (.int .i64 a.f2)) :
    Calls Tryz.prog 73 #[.slice A l.length c, .func (.func 74) #[] #[.pointer (some ⟨B, 0, none⟩)]] w fun e w' => e = .returned (.int .i64 (fidx (fun x => reqB a x) l)) ∧ Below w.heap.size w w' := by
  have hm : l.length ≤ 9223372036854775807 := hC.2.1
  obtain ⟨r, hr⟩ : ∃ r, r = fidx (fun x => reqB a x) l := ⟨_, rfl⟩
  rw [← hr]
  replace hr := Lib.hid hr
  replace hC := Lib.hid hC
  replace h1 := Lib.hid h1
  replace h2 := Lib.hid h2
  go_enter Tryz.func73, Tryz.ntmps73
  go_wp2
  go_loopw [8] (fun s wr => RelI w (fun x => reqB a x) l s wr) (fun s _ => l.length - (intOf s).toNat)
  case atStart => exact ⟨0, Nat.zero_le _, rfl, (fun t _ h => absurd h (Nat.not_lt_zero t)), Below.refl _ _⟩
  case round =>
    obtain ⟨j, hj, rfl, hp, hB⟩ := hrel
    replace hp := Lib.hid hp
    replace hB := Lib.hid hB
    by_cases hlt : j < l.length
    · obtain ⟨ad, A4, c4, A5, c5, A9, c9, rfl, q0, q1, q2, q3, q4, q5, q6, q7, q8, q9, hx1, hx2, hx3⟩ := evt_at (Kd.C_below hC.out hB.out) hlt
      clear hx1 hx2 hx3
      have hcall := reqc_any a l[j] A4 c4 A5 c5 A9 c9 B wr (pw_cell_below hB.out h1.out) (pw_cell_below hB.out h2.out)
      have hat := @fidx_at _ (fun x => reqB a x) l j hlt hp.out
      have hnx : reqB a l[j] = false → ∀ t, (ht : t < l.length) → t < j + 1 → reqB a l[t] = false := fun h t ht h1 => by
        by_cases e : t = j
        · subst e; exact h
        · exact hp.out t ht (by omega)
      generalize hb0 : reqB a l[j] = b0 at *
      replace hcall := Lib.hid hcall
      replace hat := Lib.hid hat
      replace hnx := Lib.hid hnx
      replace hb0 := Lib.hid hb0
      cases b0
      · go_wp2_with fail
        refine hcall.out.mono ?_
        rintro e W ⟨rfl, hb⟩
        replace hb := Lib.hid hb
        go_wp2
        go_roundw
        case rel => exact ⟨j + 1, by omega, by go_num, hnx.out (by first | trivial | rfl), hB.out.trans (hb.out.mono hB.out.size)⟩
        case measure => simp [intOf]; omega
      · go_wp2_with fail
        refine hcall.out.mono ?_
        rintro e W ⟨rfl, hb⟩
        replace hb := Lib.hid hb
        go_wp2
        go_ret
        exact ⟨by rw [hr.out, hat.out (by first | trivial | exact hb0.out)]; rfl, hB.out.trans (hb.out.mono hB.out.size)⟩
    · have hno := Lib.hid (fidx_none (p := fun x => reqB a x) (l := l) (fun t ht => hp.out t ht (by omega)))
      go_wp2
      go_ret
      exact ⟨by rw [hr.out, hno.out]; rfl, hB.out⟩
set_option maxHeartbeats 2000000 in
set_option maxRecDepth 100000 in
theorem request_any (A : Option Addr) (c : Nat) (l : List Evt) (a : Evt) (A4 : Option Addr) (c4 : Nat) (A5 : Option Addr) (c5 : Nat) (A9 : Option Addr) (c9 : Nat) (w : World) (hC : Kd.C kEvt w A l.length l) :
    Calls Tryz.prog 52 #[.slice A l.length c, .agg #[.int .i64 a.f0, .int .i64 a.f1, .int .i64 a.f2, .int .u64 a.f3, .slice A4 a.f4.length c4, .slice A5 a.f5.length c5, .int .i64 a.f6.f0, .int .i64 a.f6.f1, .int .u64 a.f6.f2, .slice A9 a.f6.f3.length c9]] w fun e w' => e = .returned (.int .i64 (fidx (fun x => reqB a x) l)) ∧ Below w.heap.size w w' := by
  have hB := below_alloc (Below.refl _ _) (.cells #[.int .i64 a.f0, .int .i64 a.f1, .int .i64 a.f2, .int .u64 a.f3, .slice A4 a.f4.length c4, .slice A5 a.f5.length c5, .int .i64 a.f6.f0, .int .i64 a.f6.f1, .int .u64 a.f6.f2, .slice A9 a.f6.f3.length c9] 38) (w := w)
  have hbk := heap_alloc_new w (.cells #[.int .i64 a.f0, .int .i64 a.f1, .int .i64 a.f2, .int .u64 a.f3, .slice A4 a.f4.length c4, .slice A5 a.f5.length c5, .int .i64 a.f6.f0, .int .i64 a.f6.f1, .int .u64 a.f6.f2, .slice A9 a.f6.f3.length c9] 38)
  have h := indexReq_any A c l a w.heap.size _ (Kd.C_below hC hB) (by rw [blk_cell hbk 1]; rfl) (by rw [blk_cell hbk 2]; rfl)
  generalize fidx (fun x => reqB a x) l = i at *
  replace h := Lib.hid h
  replace hB := Lib.hid hB
  clear hbk hC
  go_enter Tryz.func52, Tryz.ntmps52
  go_wp2_with fail
  refine h.out.mono ?_
  rintro e W ⟨rfl, hb⟩
  replace hb := Lib.hid hb
  go_wp2
  go_ret
  exact ⟨rfl, hB.out.trans (hb.out.mono hB.out.size)⟩
end Go.Proofs.YtiibjgnmdieicaaGreat.Hist
/- spec: wrote, walked. -/
namespace Go.Proofs.YtiibjgnmdieicaaGreat.Hist
open Go.RowKit Go.Proofs.YtiibjgnmdieicaaGreatW.PrintWords Go.Sort
set_option maxHeartbeats 1000000 in
theorem wrotec_any (p : Pai) (k : ByteArray) (B : Nat) (w : World) (h1 : w.cell? ⟨B, 0, none⟩ = some (.string k)) :
    Calls Tryz.prog 77 #[.agg #[.string p.f0, .string p.f1], .pointer (some ⟨B, 0, none⟩)] w fun e w' => e = .returned (.bool (eqS p.f0 k)) ∧ Below w.heap.size w w' := by
  have hl := World.block_lt_of_cell? w _ h1
  have hB := Lib.hid (below_alloc (Below.refl _ _) (.cells #[.string p.f0, .string p.f1] 75) : Below w.heap.size w _)
  unfold eqS
  go_enter Tryz.func77, Tryz.ntmps77
  go_wp2
  go_ret
  exact ⟨rfl, hB.out⟩
set_option maxHeartbeats 2000000 in
set_option maxRecDepth 100000 in
theorem indexWrote_any (A : Option Addr) (c : Nat) (l : List Pai) (k : ByteArray) (B : Nat) (w : World) (hC : Kd.C kPai w A l.length l) (h1 : w.cell? ⟨B, 0, none⟩ = some (.string k)) :
    Calls Tryz.prog 85 #[.slice A l.length c, .func (.func 77) #[] #[.pointer (some ⟨B, 0, none⟩)]] w fun e w' => e = .returned (.int .i64 (fidx (fun x => eqS x.f0 k) l)) ∧ Below w.heap.size w w' := by
  have hm : l.length ≤ 9223372036854775807 := hC.2.1
  obtain ⟨r, hr⟩ : ∃ r, r = fidx (fun x => eqS x.f0 k) l := ⟨_, rfl⟩
  rw [← hr]
  replace hr := Lib.hid hr
  replace hC := Lib.hid hC
  replace h1 := Lib.hid h1
  go_enter Tryz.func85, Tryz.ntmps85
  go_wp2
  go_loopw [8] (fun s wr => RelI w (fun x => eqS x.f0 k) l s wr) (fun s _ => l.length - (intOf s).toNat)
  case atStart => exact ⟨0, Nat.zero_le _, rfl, (fun t _ h => absurd h (Nat.not_lt_zero t)), Below.refl _ _⟩
  case round =>
    obtain ⟨j, hj, rfl, hp, hB⟩ := hrel
    replace hp := Lib.hid hp
    replace hB := Lib.hid hB
    by_cases hlt : j < l.length
    · obtain ⟨ad, rfl, q0, q1⟩ := pair_at (Kd.C_below hC.out hB.out) hlt
      have hcall := wrotec_any l[j] k B wr (pw_cell_below hB.out h1.out)
      have hat := @fidx_at _ (fun x => eqS x.f0 k) l j hlt hp.out
      have hnx : eqS l[j].f0 k = false → ∀ t, (ht : t < l.length) → t < j + 1 → eqS l[t].f0 k = false := fun h t ht h1 => by
        by_cases e : t = j
        · subst e; exact h
        · exact hp.out t ht (by omega)
      generalize hb0 : eqS l[j].f0 k = b0 at *
      replace hcall := Lib.hid hcall
      replace hat := Lib.hid hat
      replace hnx := Lib.hid hnx
      replace hb0 := Lib.hid hb0
      cases b0
      · go_wp2_with fail
        refine hcall.out.mono ?_
        rintro e W ⟨rfl, hb⟩
        replace hb := Lib.hid hb
        go_wp2
        go_roundw
        case rel => exact ⟨j + 1, by omega, by go_num, hnx.out (by first | trivial | rfl), hB.out.trans (hb.out.mono hB.out.size)⟩
        case measure => simp [intOf]; omega
      · go_wp2_with fail
        refine hcall.out.mono ?_
        rintro e W ⟨rfl, hb⟩
        replace hb := Lib.hid hb
        go_wp2
        go_ret
        exact ⟨by rw [hr.out, hat.out (by first | trivial | exact hb0.out)]; rfl, hB.out.trans (hb.out.mono hB.out.size)⟩
    · have hno := Lib.hid (fidx_none (p := fun x => eqS x.f0 k) (l := l) (fun t ht => hp.out t ht (by omega)))
      go_wp2
      go_ret
      exact ⟨by rw [hr.out, hno.out]; rfl, hB.out⟩
set_option maxHeartbeats 1000000 in
theorem containsWrote_any (A : Option Addr) (c : Nat) (l : List Pai) (k : ByteArray) (B : Nat) (w : World) (hC : Kd.C kPai w A l.length l) (h1 : w.cell? ⟨B, 0, none⟩ = some (.string k)) :
    Calls Tryz.prog 76 #[.slice A l.length c, .func (.func 77) #[] #[.pointer (some ⟨B, 0, none⟩)]] w fun e w' => e = .returned (.bool (l.any fun x => eqS x.f0 k)) ∧ Below w.heap.size w w' := by
  have h := indexWrote_any A c l k B w hC h1
  have hd := fidx_any (fun x : Pai => eqS x.f0 k) l
  generalize fidx (fun x : Pai => eqS x.f0 k) l = i at h hd
  rw [← hd]
  clear hd hC h1
  replace h := Lib.hid h
  go_enter Tryz.func76, Tryz.ntmps76
  go_wp2_with fail
  refine h.out.mono ?_
  rintro e W ⟨rfl, hb⟩
  replace hb := Lib.hid hb
  go_wp2
  go_ret
  exact ⟨rfl, hb.out⟩
def wroteB (x : Evt) (k : ByteArray) : Bool := x.f4.any fun p => eqS p.f0 k
set_option maxHeartbeats 1000000 in
theorem wroteS_any (b : Nat) (x : Evt) (A4 : Option Addr) (c4 : Nat) (k : ByteArray) (w : World) (h4 : w.cell? ⟨b, 4, none⟩ = some (.slice A4 x.f4.length c4)) (hC : Kd.C kPai w A4 x.f4.length x.f4) :
    Calls Tryz.prog 55 #[.pointer (some ⟨b, 0, none⟩), .string k] w fun e w' => e = .returned (.bool (wroteB x k)) ∧ Below w.heap.size w w' := by
  have hl := World.block_lt_of_cell? w _ h4
  have hB := below_alloc (Below.refl _ _) (.cells #[.string k] 9) (w := w)
  have hbk := heap_alloc_new w (.cells #[.string k] 9)
  have h := containsWrote_any A4 c4 x.f4 k w.heap.size _ (Kd.C_below hC hB) (by rw [blk_cell hbk 0]; rfl)
  unfold wroteB
  generalize (x.f4.any fun p => eqS p.f0 k) = r at *
  replace h := Lib.hid h
  replace hB := Lib.hid hB
  clear hbk hC
  go_enter Tryz.func55, Tryz.ntmps55
  go_wp2_with fail
  refine h.out.mono ?_
  rintro e W ⟨rfl, hb⟩
  replace hb := Lib.hid hb
  go_wp2
  go_ret
  exact ⟨rfl, hB.out.trans (hb.out.mono hB.out.size)⟩
end Go.Proofs.YtiibjgnmdieicaaGreat.Hist
/- spec: the closures of lay and reads, walked; the keys of the order's maps. -/
namespace Go.Proofs.YtiibjgnmdieicaaGreat.Hist
open Go.RowKit Go.Proofs.YtiibjgnmdieicaaGreatW.PrintWords Go.Sort
open Go.Maps (Keyed)
def kvId (x : Int) : Value := .int .u64 x
def kvInt (x : Int) : Value := .int .i64 x
theorem kvId_inj (x y : Int) (h : kvId x = kvId y) : x = y := (Value.int.inj h).2
theorem kvInt_inj (x y : Int) (h : kvInt x = kvInt y) : x = y := (Value.int.inj h).2
theorem keyedId : Keyed Tryz.prog 31 := Go.Maps.int_keyed Tryz.underlying31
theorem keyedInt : Keyed Tryz.prog 3 := Go.Maps.int_keyed Tryz.underlying3
theorem keyId (x : Int) (h : (Lit.int .u64 x).wf = true) : ∃ kl, keyOf Tryz.prog 31 (kvId x) = some kl := ⟨_, Go.Maps.keyOf_int_mk Tryz.underlying31 h⟩
theorem keyInt (x : Int) (h : in64 x) : ∃ kl, keyOf Tryz.prog 3 (kvInt x) = some kl := ⟨_, Go.Maps.keyOf_int_mk Tryz.underlying3 (wf64 h)⟩
set_option maxHeartbeats 1000000 in
theorem layc_any (b : Nat) (placed : Bool) (waits : Int) (w : World) (h14 : w.cell? ⟨b, 14, none⟩ = some (.bool placed)) (h12 : w.cell? ⟨b, 12, none⟩ = some (.int .i64 waits)) :
    Calls Tryz.prog 57 #[.pointer (some ⟨b, 0, none⟩)] w fun e w' => e = .returned (.bool (!placed && waits == 0)) ∧ w = w' := by
  cases placed <;> cases hw : (waits == 0)
  all_goals
    go_enter Tryz.func57, Tryz.ntmps57
    go_wp2
    go_ret
    exact ⟨rfl, rfl⟩
set_option maxHeartbeats 1000000 in
theorem toldc_any (v : Ver) (A : Option Addr) (c : Nat) (id : Int) (b B : Nat) (w : World) (h1 : w.cell? ⟨B, 0, none⟩ = some (.pointer (some ⟨b, 0, none⟩))) (h2 : w.cell? ⟨b, 3, none⟩ = some (.int .u64 id)) :
    Calls Tryz.prog 54 #[.agg #[.string v.f0, .int .u64 v.f1, .string v.f2, .slice A v.f3.length c], .pointer (some ⟨B, 0, none⟩)] w fun e w' => e = .returned (.bool (v.f1 == id)) ∧ Below w.heap.size w w' := by
  have l1 := World.block_lt_of_cell? w _ h1
  have l2 := World.block_lt_of_cell? w _ h2
  have hB := Lib.hid (below_alloc (Below.refl _ _) (.cells #[.string v.f0, .int .u64 v.f1, .string v.f2, .slice A v.f3.length c] 49) : Below w.heap.size w _)
  go_enter Tryz.func54, Tryz.ntmps54
  go_wp2
  go_quiet (fail)
  go_wp2
  go_ret
  exact ⟨rfl, below_then hB.out hB.out.size (pw_below_drewN (Below.refl _ _) _)⟩
set_option maxHeartbeats 2000000 in
set_option maxRecDepth 100000 in
theorem indexTold_any (A : Option Addr) (c : Nat) (l : List Ver) (id : Int) (b B : Nat) (w : World) (hC : Kd.C kVer w A l.length l) (h1 : w.cell? ⟨B, 0, none⟩ = some (.pointer (some ⟨b, 0, none⟩))) (h2 : w.cell? ⟨b, 3, none⟩ = some (.int .u64 id)) :
    Calls Tryz.prog 75 #[.slice A l.length c, .func (.func 54) #[] #[.pointer (some ⟨B, 0, none⟩)]] w fun e w' => e = .returned (.int .i64 (fidx (fun x : Ver => x.f1 == id) l)) ∧ Below w.heap.size w w' := by
  have hm : l.length ≤ 9223372036854775807 := hC.2.1
  obtain ⟨r, hr⟩ : ∃ r, r = fidx (fun x : Ver => x.f1 == id) l := ⟨_, rfl⟩
  rw [← hr]
  replace hr := Lib.hid hr
  replace hC := Lib.hid hC
  replace h1 := Lib.hid h1
  replace h2 := Lib.hid h2
  go_enter Tryz.func75, Tryz.ntmps75
  go_wp2
  go_loopw [8] (fun s wr => RelI w (fun x : Ver => x.f1 == id) l s wr) (fun s _ => l.length - (intOf s).toNat)
  case atStart => exact ⟨0, Nat.zero_le _, rfl, (fun t _ h => absurd h (Nat.not_lt_zero t)), Below.refl _ _⟩
  case round =>
    obtain ⟨j, hj, rfl, hp, hB⟩ := hrel
    replace hp := Lib.hid hp
    replace hB := Lib.hid hB
    by_cases hlt : j < l.length
    · obtain ⟨ad, A3, c3, rfl, q0, q1, q2, q3, hx1, hx2⟩ := ver_at (Kd.C_below hC.out hB.out) hlt
      clear hx1 hx2
      have hcall := toldc_any l[j] A3 c3 id b B wr (pw_cell_below hB.out h1.out) (pw_cell_below hB.out h2.out)
      have hat := @fidx_at _ (fun x : Ver => x.f1 == id) l j hlt hp.out
      have hnx : (l[j].f1 == id) = false → ∀ t, (ht : t < l.length) → t < j + 1 → (l[t].f1 == id) = false := fun h t ht h1 => by
        by_cases e : t = j
        · subst e; exact h
        · exact hp.out t ht (by omega)
      generalize hb0 : (l[j].f1 == id) = b0 at *
      replace hcall := Lib.hid hcall
      replace hat := Lib.hid hat
      replace hnx := Lib.hid hnx
      replace hb0 := Lib.hid hb0
      cases b0
      · go_wp2_with fail
        refine hcall.out.mono ?_
        rintro e W ⟨rfl, hb⟩
        replace hb := Lib.hid hb
        go_wp2
        go_roundw
        case rel => exact ⟨j + 1, by omega, by go_num, hnx.out (by first | trivial | rfl), hB.out.trans (hb.out.mono hB.out.size)⟩
        case measure => simp [intOf]; omega
      · go_wp2_with fail
        refine hcall.out.mono ?_
        rintro e W ⟨rfl, hb⟩
        replace hb := Lib.hid hb
        go_wp2
        go_ret
        exact ⟨by rw [hr.out, hat.out (by first | trivial | exact hb0.out)]; rfl, hB.out.trans (hb.out.mono hB.out.size)⟩
    · have hno := Lib.hid (fidx_none (p := fun x : Ver => x.f1 == id) (l := l) (fun t ht => hp.out t ht (by omega)))
      go_wp2
      go_ret
      exact ⟨by rw [hr.out, hno.out]; rfl, hB.out⟩
set_option maxHeartbeats 1000000 in
theorem containsTold_any (A : Option Addr) (c : Nat) (l : List Ver) (id : Int) (b B : Nat) (w : World) (hC : Kd.C kVer w A l.length l) (h1 : w.cell? ⟨B, 0, none⟩ = some (.pointer (some ⟨b, 0, none⟩))) (h2 : w.cell? ⟨b, 3, none⟩ = some (.int .u64 id)) :
    Calls Tryz.prog 53 #[.slice A l.length c, .func (.func 54) #[] #[.pointer (some ⟨B, 0, none⟩)]] w fun e w' => e = .returned (.bool (l.any fun x : Ver => x.f1 == id)) ∧ Below w.heap.size w w' := by
  have h := indexTold_any A c l id b B w hC h1 h2
  have hd := fidx_any (fun x : Ver => x.f1 == id) l
  generalize fidx (fun x : Ver => x.f1 == id) l = i at h hd
  rw [← hd]
  clear hd hC h1 h2
  replace h := Lib.hid h
  go_enter Tryz.func53, Tryz.ntmps53
  go_wp2_with fail
  refine h.out.mono ?_
  rintro e W ⟨rfl, hb⟩
  replace hb := Lib.hid hb
  go_wp2
  go_ret
  exact ⟨rfl, hb.out⟩
end Go.Proofs.YtiibjgnmdieicaaGreat.Hist
/- spec: the order in the making, in memory. -/
namespace Go.Proofs.YtiibjgnmdieicaaGreat.Hist
open Go.RowKit Go.Proofs.YtiibjgnmdieicaaGreatW.PrintWords Go.Sort
open Go.Maps (Keyed)
structure Sw where
  ev : Evt
  place : Int
  done : Int
  waits : Int
  behind : List Nat
  placed : Bool
abbrev tSW : TypeId := 100
abbrev tSP : TypeId := 98
abbrev tOr : TypeId := 70
abbrev tI : TypeId := 3
abbrev tID : TypeId := 31
def RI (i : Nat) (cs : List Value) : Prop := cs = [.int .i64 i]
def swCells (x : Sw) (A4 : Option Addr) (c4 : Nat) (A5 : Option Addr) (c5 : Nat) (A9 : Option Addr) (c9 : Nat) (v : Value) : Array Value :=
  #[.int .i64 x.ev.f0, .int .i64 x.ev.f1, .int .i64 x.ev.f2, .int .u64 x.ev.f3, .slice A4 x.ev.f4.length c4, .slice A5 x.ev.f5.length c5, .int .i64 x.ev.f6.f0, .int .i64 x.ev.f6.f1, .int .u64 x.ev.f6.f2, .slice A9 x.ev.f6.f3.length c9, .int .i64 x.place, .int .i64 x.done, .int .i64 x.waits, v, .bool x.placed]
/-- a write of the order's, in a block of its own -/
def SwB (w0 W : World) (b : Nat) (x : Sw) (v : Value) : Prop := ∃ A4 c4 A5 c5 A9 c9, W.heap[b]? = some (.cells (swCells x A4 c4 A5 c5 A9 c9 v) tSW (0, 0)) ∧ kEvt.K w0 x.ev (evCells x.ev A4 c4 A5 c5 A9 c9) ∧ OwnRow RI tI 1 W w0.heap.size v x.behind
structure OS (w0 W : World) (Bo Bm : Nat) (rv : Value) (bs : List Nat) (vs : Nat → Value) (nm : Nat) (ws : List Sw) (ids : Int → Option Nat) (rnd : Bool) : Prop where
  bo : W.heap[Bo]? = some (.cells #[rv, .map (some Bm), .bool rnd] tOr (0, 0))
  row : OwnRow RB tSP 1 W w0.heap.size rv bs
  mp : MapIs Tryz.prog tID kvId W Bm nm (fun q => (ids q).map fun n : Nat => .int .i64 n)
  inb : ∀ q i, ids q = some i → i < ws.length
  len : bs.length = ws.length
  wr : ∀ (i b : Nat) (x : Sw), bs[i]? = some b → ws[i]? = some x → SwB w0 W b x (vs i)
  far : ∀ i j : Nat, i < ws.length → j < ws.length → i ≠ j → (vs i).ownBlock = none ∨ (vs i).ownBlock ≠ (vs j).ownBlock
  dis : ∀ (i j b : Nat), bs[i]? = some b → bs[j]? = some b → i = j
  hi : ∀ b, b ∈ bs → w0.heap.size ≤ b
  bas : w0.heap.size ≤ Bo ∧ w0.heap.size ≤ Bm
  bel : Below w0.heap.size w0 W
theorem SwB.below {w0 W W1 : World} {b : Nat} {x : Sw} {v : Value} (h : SwB w0 W b x v) (hb : Below W.heap.size W W1) : SwB w0 W1 b x v := by
  obtain ⟨A4, c4, A5, c5, A9, c9, h1, h2, h3⟩ := h
  exact ⟨A4, c4, A5, c5, A9, c9, blk_below h1 hb, h2, h3.below hb⟩
theorem SwB.set_ {w0 W : World} {b : Nat} {x : Sw} {v : Value} (h : SwB w0 W b x v) {g : Nat} {t : TypeId} {c : Array Value} (hg : W.heap[g]? = some (.cells c t (0, 0))) (ht : tI ≠ t) (hne : b ≠ g) (j : Nat) (u : Value) : SwB w0 (W.setCell ⟨g, j, none⟩ u) b x v := by
  obtain ⟨A4, c4, A5, c5, A9, c9, h1, h2, h3⟩ := h
  exact ⟨A4, c4, A5, c5, A9, c9, blk_far h1 hne u, h2, h3.set_ hg ht _ _⟩
variable {w0 W W1 : World} {Bo Bm : Nat} {rv : Value} {bs : List Nat} {vs : Nat → Value} {nm : Nat} {ws : List Sw} {ids : Int → Option Nat} {rnd : Bool}
theorem OS.below (h : OS w0 W Bo Bm rv bs vs nm ws ids rnd) (hb : Below W.heap.size W W1) : OS w0 W1 Bo Bm rv bs vs nm ws ids rnd :=
  ⟨blk_below h.bo hb, h.row.below hb, h.mp.below hb, h.inb, h.len, fun i b x h1 h2 => (h.wr i b x h1 h2).below hb, h.far, h.dis, h.hi, h.bas, below_then h.bel h.bel.size hb⟩
/-- there is no order -/
theorem OS.round_ (h : OS w0 W Bo Bm rv bs vs nm ws ids rnd) : OS w0 (W.setCell ⟨Bo, 2, none⟩ (.bool true)) Bo Bm rv bs vs nm ws ids true :=
  ⟨by simpa using blk_set h.bo 2 (.bool true), h.row.set_ h.bo (by decide) _ _, h.mp.set_ (a := ⟨Bo, 2, none⟩) h.bo _, h.inb, h.len, fun i b x h1 h2 => by
    have h3 := h.wr i b x h1 h2
    refine h3.set_ h.bo (by decide) ?_ _ _
    obtain ⟨_, _, _, _, _, _, hB, _⟩ := h3
    exact blk_ne hB h.bo (by decide), h.far, h.dis, h.hi, h.bas, below_set_ h.bel h.bas.1 _⟩
/-- a field of a write is written: what the others keep -/
theorem OS.field (h : OS w0 W Bo Bm rv bs vs nm ws ids rnd) {m : Nat} (hm : m < ws.length) (j : Nat) (u : Value) (x' : Sw)
    (hx : ∀ A4 c4 A5 c5 A9 c9, (swCells ws[m] A4 c4 A5 c5 A9 c9 (vs m)).setIfInBounds j u = swCells x' A4 c4 A5 c5 A9 c9 (vs m)) (hev : x'.ev = ws[m].ev) (hbe : x'.behind = ws[m].behind) :
    OS w0 (W.setCell ⟨bs.getD m 0, j, none⟩ u) Bo Bm rv bs vs nm (ws.set m x') ids rnd := by
  have hl : m < bs.length := by rw [h.len]; exact hm
  have hbm : bs[m]? = some (bs.getD m 0) := by simp [List.getD_eq_getElem?_getD, hl]
  generalize bs.getD m 0 = b at *
  obtain ⟨A4, c4, A5, c5, A9, c9, hB, hK, hr⟩ := h.wr m b ws[m] hbm (List.getElem?_eq_getElem hm)
  have hb0 : w0.heap.size ≤ b := h.hi b (List.mem_of_getElem? hbm)
  refine ⟨blk_far h.bo (blk_ne h.bo hB (by decide)) u, h.row.set_ hB (by decide) _ _, h.mp.set_ (a := ⟨b, j, none⟩) hB _, ?_, by rw [List.length_set]; exact h.len, ?_, ?_, h.dis, h.hi, h.bas, below_set_ h.bel hb0 _⟩
  · intro q i hq
    rw [List.length_set]
    exact h.inb q i hq
  · intro i b' x h1 h2
    by_cases e : m = i
    · subst e
      rw [h1] at hbm
      injection hbm with hbm
      subst hbm
      rw [List.getElem?_set_self hm] at h2
      injection h2 with h2
      subst h2
      refine ⟨A4, c4, A5, c5, A9, c9, by rw [← hx]; exact blk_set hB j u, by rw [hev]; exact hK, by rw [hbe]; exact hr.set_ hB (by decide) _ _⟩
    · rw [List.getElem?_set_ne e] at h2
      have hne : b' ≠ b := fun eb => e (by subst eb; exact h.dis m i b' hbm h1)
      exact (h.wr i b' x h1 h2).set_ hB (by decide) hne _ _
  · intro i k hi hk hne
    rw [List.length_set] at hi hk
    exact h.far i k hi hk hne
/-- a row of numbers is written: what the others keep -/
def OffI (W : World) (row : Option Nat) : Prop := ∀ k c t, row = some k → W.heap[k]? = some (.cells c t (0, 0)) → t = tI
theorem OffI.row {α : Type} {R : α → List Value → Prop} {size : Nat} {W : World} {base : Nat} {v : Value} {l : List α} (h : OwnRow R tI size W base v l) : OffI W v.ownBlock := fun k c t e hc => by
  obtain ⟨cells, hk⟩ := own_typed2 h e
  rw [hk] at hc
  injection hc with hc
  injection hc with _ hc _
  exact hc.symm
theorem OffI.ne {W : World} {row : Option Nat} (h : OffI W row) {b : Nat} {c : Array Value} {t : TypeId} (hb : W.heap[b]? = some (.cells c t (0, 0))) (ht : t ≠ tI) : some b ≠ row := fun e => ht (h b c t e.symm hb)
theorem row_map {κ : Type} {P : Program} {k : TypeId} {kv : κ → Value} {W : World} {b n : Nat} {f : κ → Option Value} (hm : MapIs P k kv W b n f) {α : Type} {R : α → List Value → Prop} {e : TypeId} {size : Nat} {base : Nat} {v : Value} {l : List α} (h : OwnRow R e size W base v l) : some b ≠ v.ownBlock := fun q => by
  obtain ⟨cells, hk⟩ := own_typed2 h q.symm
  exact hm.no_cells hk
/-- what a write must be ahead of grows by one -/
theorem OS.behind (h : OS w0 W Bo Bm rv bs vs nm ws ids rnd) {m : Nat} (hm : m < ws.length) {v1 : Value} {x' : Sw} (hg : W.grownBy W1 (vs m).ownBlock) (hr : OwnRow RI tI 1 W1 w0.heap.size v1 x'.behind)
    (hat : v1.ownBlock = (vs m).ownBlock ∨ ∃ b, v1.ownBlock = some b ∧ W.heap.size ≤ b)
    (hx : ∀ A4 c4 A5 c5 A9 c9, (swCells ws[m] A4 c4 A5 c5 A9 c9 (vs m)).setIfInBounds 13 v1 = swCells x' A4 c4 A5 c5 A9 c9 v1) (hev : x'.ev = ws[m].ev) :
    OS w0 (W1.setCell ⟨bs.getD m 0, 13, none⟩ v1) Bo Bm rv bs (upd vs m v1) nm (ws.set m x') ids rnd := by
  have hl : m < bs.length := by rw [h.len]; exact hm
  have hbm : bs[m]? = some (bs.getD m 0) := by simp [List.getD_eq_getElem?_getD, hl]
  generalize bs.getD m 0 = b at *
  obtain ⟨A4, c4, A5, c5, A9, c9, hB, hK, hrm⟩ := h.wr m b ws[m] hbm (List.getElem?_eq_getElem hm)
  have hb0 : w0.heap.size ≤ b := h.hi b (List.mem_of_getElem? hbm)
  have ho := OffI.row hrm
  have hB1 := blk_grown hB hg (ho.ne hB (by decide))
  have far' : ∀ i, i < ws.length → i ≠ m → (vs i).ownBlock = none ∨ (vs i).ownBlock ≠ v1.ownBlock := fun i hi hne => by
    rcases hat with hat | ⟨g, hgb, hle⟩
    · have := h.far i m hi hm hne
      rw [hat]; exact this
    · rcases he : (vs i).ownBlock with _ | k
      · exact .inl rfl
      · refine .inr fun hq => ?_
        have hib : i < bs.length := by rw [h.len]; exact hi
        obtain ⟨_, _, _, _, _, _, _, _, hri⟩ := h.wr i bs[i] ws[i] (List.getElem?_eq_getElem hib) (List.getElem?_eq_getElem hi)
        obtain ⟨inner, hoi, _⟩ := hri
        have := own_lt hoi k he
        rw [hgb] at hq
        injection hq with hq
        omega
  have hBel : Below w0.heap.size w0 W1 := pw_below_grown h.bel _ h.bel.size hg (fun k hk => own_ge hrm k hk)
  have hrow1 : OwnRow RB tSP 1 W1 w0.heap.size rv bs := h.row.other hg (by
    cases hv : rv.ownBlock with
    | none => exact .inl rfl
    | some k =>
      obtain ⟨cells, hk⟩ := own_typed2 h.row hv
      exact .inr (ho.ne hk (by decide)))
  refine ⟨blk_far (blk_grown h.bo hg (ho.ne h.bo (by decide))) (blk_ne h.bo hB (by decide)) v1, hrow1.set_ hB1 (by decide) _ _, (h.mp.kept hg (row_map h.mp hrm)).set_ (a := ⟨b, 13, none⟩) hB1 _, ?_, by rw [List.length_set]; exact h.len, ?_, ?_, h.dis, h.hi, h.bas, below_set_ hBel hb0 _⟩
  · intro q i hq
    rw [List.length_set]
    exact h.inb q i hq
  · intro i b' x h1 h2
    by_cases e : m = i
    · subst e
      rw [h1] at hbm
      injection hbm with hbm
      subst hbm
      rw [List.getElem?_set_self hm] at h2
      injection h2 with h2
      subst h2
      rw [upd_same]
      exact ⟨A4, c4, A5, c5, A9, c9, by rw [← hx]; exact blk_set hB1 13 v1, by rw [hev]; exact hK, hr.set_ hB1 (by decide) _ _⟩
    · rw [List.getElem?_set_ne e] at h2
      have hne : b' ≠ b := fun eb => e (by subst eb; exact h.dis m i b' hbm h1)
      rw [upd_ne _ _ (Ne.symm e)]
      have hi : i < ws.length := (List.getElem?_eq_some_iff.1 h2).1
      obtain ⟨A4, c4, A5, c5, A9, c9, hBi, hKi, hri⟩ := h.wr i b' x h1 h2
      have h3 : SwB w0 W1 b' x (vs i) := ⟨A4, c4, A5, c5, A9, c9, blk_grown hBi hg (ho.ne hBi (by decide)), hKi, hri.other hg (h.far i m hi hm (Ne.symm e))⟩
      exact ⟨A4, c4, A5, c5, A9, c9, blk_far (blk_grown hBi hg (ho.ne hBi (by decide))) hne v1, hKi, (hri.other hg (h.far i m hi hm (Ne.symm e))).set_ hB1 (by decide) _ _⟩
  · intro i k hi hk hne
    rw [List.length_set] at hi hk
    by_cases e : i = m
    · subst e
      rw [upd_same, upd_ne _ _ (Ne.symm hne)]
      rcases far' k hk (Ne.symm hne) with this | this
      · rcases hv : v1.ownBlock with _ | b
        · exact .inl rfl
        · exact .inr (by rw [this]; simp)
      · exact .inr (Ne.symm this)
    · by_cases e' : k = m
      · subst e'
        rw [upd_same, upd_ne _ _ e]
        exact far' i hi e
      · rw [upd_ne _ _ e, upd_ne _ _ e']
        exact h.far i k hi hk hne
theorem OS.nin (h : OS w0 W Bo Bm rv bs vs nm ws ids rnd) : W.heap.size ∉ bs := fun hb => by
  obtain ⟨i, hi, e⟩ := List.getElem_of_mem hb
  have hl : i < ws.length := by rw [← h.len]; exact hi
  obtain ⟨_, _, _, _, _, _, hB, _⟩ := h.wr i bs[i] ws[i] (List.getElem?_eq_getElem hi) (List.getElem?_eq_getElem hl)
  have := blk_lt hB
  omega
def OffP (W : World) (row : Option Nat) : Prop := ∀ k c t, row = some k → W.heap[k]? = some (.cells c t (0, 0)) → t = tSP
theorem OffP.row {α : Type} {R : α → List Value → Prop} {size : Nat} {W : World} {base : Nat} {v : Value} {l : List α} (h : OwnRow R tSP size W base v l) : OffP W v.ownBlock := fun k c t e hc => by
  obtain ⟨cells, hk⟩ := own_typed2 h e
  rw [hk] at hc
  injection hc with hc
  injection hc with _ hc _
  exact hc.symm
theorem OffP.ne {W : World} {row : Option Nat} (h : OffP W row) {b : Nat} {c : Array Value} {t : TypeId} (hb : W.heap[b]? = some (.cells c t (0, 0))) (ht : t ≠ tSP) : some b ≠ row := fun e => ht (h b c t e.symm hb)
/-- a write more: E is its block, W1 the memory behind the append -/
theorem OS.push (h : OS w0 W Bo Bm rv bs vs nm ws ids rnd) {E : Nat} {x : Sw} {rv1 : Value} (hE : w0.heap.size ≤ E) (hn : E ∉ bs) (hx : SwB w0 W E x (.slice none 0 0)) (hg : W.grownBy W1 rv.ownBlock) (hr : OwnRow RB tSP 1 W1 w0.heap.size rv1 (bs ++ [E])) :
    OS w0 (W1.setCell ⟨Bo, 0, none⟩ rv1) Bo Bm rv1 (bs ++ [E]) (upd vs ws.length (.slice none 0 0)) nm (ws ++ [x]) ids rnd := by
  have ho := OffP.row h.row
  have hB1 : W1.heap[Bo]? = some (.cells #[rv, .map (some Bm), .bool rnd] tOr (0, 0)) := blk_grown h.bo hg (ho.ne h.bo (by decide))
  have hoff : ∀ {b : Nat} {y : Sw} {v : Value}, SwB w0 W b y v → SwB w0 (W1.setCell ⟨Bo, 0, none⟩ rv1) b y v := fun hy => by
    obtain ⟨A4, c4, A5, c5, A9, c9, hB, hK, hri⟩ := hy
    have h1 := blk_grown hB hg (ho.ne hB (by decide))
    refine ⟨A4, c4, A5, c5, A9, c9, blk_far h1 (blk_ne h1 hB1 (by decide)) _, hK, (hri.other hg ?_).set_ hB1 (by decide) _ _⟩
    rename_i v
    cases hv : v.ownBlock with
    | none => exact .inl rfl
    | some k =>
      obtain ⟨cells, hk⟩ := own_typed2 hri hv
      exact .inr (ho.ne hk (by decide))
  have hBel : Below w0.heap.size w0 W1 := pw_below_grown h.bel _ h.bel.size hg (fun k hk => own_ge h.row k hk)
  refine ⟨by simpa using blk_set hB1 0 rv1, hr.set_ hB1 (by decide) _ _, (h.mp.kept hg (row_map h.mp h.row)).set_ (a := ⟨Bo, 0, none⟩) hB1 _, ?_, by simp [h.len], ?_, ?_, ?_, ?_, h.bas, below_set_ hBel h.bas.1 _⟩
  · intro q i hq
    have := h.inb q i hq
    simp
    omega
  · intro i b y h1 h2
    by_cases hi : i < bs.length
    · rw [List.getElem?_append_left hi] at h1
      rw [List.getElem?_append_left (by rw [← h.len]; exact hi)] at h2
      rw [upd_ne _ _ (by rw [h.len] at hi; omega)]
      exact hoff (h.wr i b y h1 h2)
    · have e1 : i = bs.length := by
        have := (List.getElem?_eq_some_iff.1 h1).1
        simp at this
        omega
      subst e1
      rw [List.getElem?_append_right (Nat.le_refl _)] at h1
      rw [List.getElem?_append_right (by rw [h.len]; exact Nat.le_refl _)] at h2
      simp at h1
      rw [h.len] at h2
      simp at h2
      subst h1
      subst h2
      rw [h.len, upd_same]
      exact hoff hx
  · intro i k hi hk hne
    rw [List.length_append, List.length_singleton] at hi hk
    by_cases e : i = ws.length
    · subst e
      rw [upd_same]
      exact .inl rfl
    · rw [upd_ne _ _ e]
      by_cases e' : k = ws.length
      · subst e'
        rw [upd_same]
        cases (vs i).ownBlock with
        | none => exact .inl rfl
        | some k => exact .inr (by simp [Value.ownBlock])
      · rw [upd_ne _ _ e']
        exact h.far i k (by omega) (by omega) hne
  · intro i j b h1 h2
    have hb1 : ∀ i, (bs ++ [E])[i]? = some b → (i < bs.length ∧ bs[i]? = some b) ∨ (i = bs.length ∧ b = E) := fun i hi => by
      by_cases hl : i < bs.length
      · rw [List.getElem?_append_left hl] at hi
        exact .inl ⟨hl, hi⟩
      · have e1 : i = bs.length := by
          have := (List.getElem?_eq_some_iff.1 hi).1
          simp at this
          omega
        subst e1
        simp at hi
        exact .inr ⟨rfl, hi.symm⟩
    rcases hb1 i h1 with ⟨_, a1⟩ | ⟨a1, a2⟩ <;> rcases hb1 j h2 with ⟨_, b1⟩ | ⟨b1, b2⟩
    · exact h.dis i j b a1 b1
    · exact (hn (b2 ▸ List.mem_of_getElem? a1)).elim
    · exact (hn (a2 ▸ List.mem_of_getElem? b1)).elim
    · rw [a1, b1]
  · intro b hb
    rcases List.mem_append.1 hb with hb | hb
    · exact h.hi b hb
    · simp at hb
      subst hb
      exact hE
/-- a write is noted by its name -/
theorem OS.putId (h : OS w0 W Bo Bm rv bs vs nm ws ids rnd) {q : Int} {m n : Nat} (hm1 : m < ws.length) (hg : W.grownBy W1 (some Bm)) (hm : MapIs Tryz.prog tID kvId W1 Bm n (putF (fun q => (ids q).map fun n : Nat => .int .i64 n) q (.int .i64 m))) :
    OS w0 W1 Bo Bm rv bs vs n ws (putF ids q m) rnd := by
  have hne : ∀ {c : Array Value} {t : TypeId} {g : Nat}, W.heap[g]? = some (.cells c t (0, 0)) → some g ≠ some Bm := fun hc e => by
    injection e with e
    subst e
    exact h.mp.no_cells hc
  have hrow : ∀ {α : Type} {R : α → List Value → Prop} {e : TypeId} {v : Value} {l : List α}, OwnRow R e 1 W w0.heap.size v l → OwnRow R e 1 W1 w0.heap.size v l := fun hr => hr.other hg (by
    rename_i v _
    cases hv : v.ownBlock with
    | none => exact .inl rfl
    | some k =>
      obtain ⟨cells, hk⟩ := own_typed2 hr hv
      exact .inr (hne hk))
  refine ⟨blk_grown h.bo hg (hne h.bo), hrow h.row, hm.congr fun q => map_putF ids _ _ (fun n : Nat => Value.int .i64 n) _, ?_, h.len, ?_, h.far, h.dis, h.hi, h.bas, pw_below_grown h.bel _ h.bel.size hg (fun k e => by injection e with e; subst e; exact h.bas.2)⟩
  · intro q' n' hq
    simp only [putF] at hq
    split at hq
    · injection hq with hq
      subst hq
      exact hm1
    · exact h.inb _ _ hq
  · intro i b x h1 h2
    obtain ⟨A4, c4, A5, c5, A9, c9, hB, hK, hri⟩ := h.wr i b x h1 h2
    exact ⟨A4, c4, A5, c5, A9, c9, blk_grown hB hg (hne hB), hK, hrow hri⟩
end Go.Proofs.YtiibjgnmdieicaaGreat.Hist
/- a region that draws its order: loads taken first under a condition S that need not outlast the region's last store. -/
namespace Go.Proofs.YtiibjgnmdieicaaGreat.Hist
section
variable {P : Program} {ops : Array Oper} {Q : Exit → Act → World → Prop} {md : Region.Mode} {S : World → Prop} {n : Nat}
/-- S behind each operation till number n has come up -/
def wpAnyF (P : Program) (md : Region.Mode) (ops : Array Oper) (Q : Exit → Act → World → Prop) (S : World → Prop) (n : Nat) : Nat → Array Bool → Act → World → Prop
  | 0, listed, a, w => Region.ready md ops listed = [] ∧ Q .normal a w
  | fuel + 1, listed, a, w => (Region.ready md ops listed = [] → Q .normal a w) ∧
    ∀ i ∈ Region.ready md ops listed, wpOp P ops Q i (fun a' w' => ((listed.setIfInBounds i true).getD n true = false → S w') ∧ wpAnyF P md ops Q S n fuel (listed.setIfInBounds i true) a' w') a w
theorem wpAny_of_F : ∀ (fuel : Nat) (listed : Array Bool) (a : Act) (w : World), wpAnyF P md ops Q S n fuel listed a w → wpAny P md ops Q fuel listed a w
  | 0, _, _, _, h => h
  | fuel + 1, _, _, _, h => ⟨h.1, fun i hi => wpOp_mono (fun a' w' h' => wpAny_of_F fuel _ a' w' h'.2) (h.2 i hi)⟩
theorem wpAnyF_first {i : Nat} {oi : Oper} {v : Value} (hi : ops[i]? = some oi) (hsel : ∀ (j : Nat) (o : Oper) cs b, ops[j]? = some o → o.op ≠ .select cs b)
    (hQ : ∀ c a w, Q (.panic c) (a.put oi.dst v) w → Q (.panic c) a w) (hni : n ≠ i) (hwait : Region.waitsFor md ops n i = true) :
    ∀ (fuel : Nat) (listed : Array Bool) (a : Act) (w : World),
      (∀ j oj, ops[j]? = some oj → j ≠ i → listed.getD j true = false → (∀ e ∈ oj.after, Region.binds md e = true → e.on ≠ i) → oi.apart ops oj = true) →
      i ∈ Region.ready md ops listed → listed.getD n true = false → YieldsIf P ops S oi v a → S w →
      wpAnyF P md ops Q S n fuel (listed.setIfInBounds i true) (a.put oi.dst v) w → wpAnyF P md ops Q S n (fuel + 1) listed a w := by
  intro fuel
  induction fuel with
  | zero =>
    intro listed a w _ hr _ hy hS H
    refine ⟨fun h => (by rw [h] at hr; cases hr), fun j hj => ?_⟩
    by_cases hji : j = i
    · subst hji; exact hy.wpOp hi hS ⟨fun _ => hS, H⟩
    · have := ready_mono hj hji
      rw [H.1] at this
      cases this
  | succ fuel ih =>
    intro listed a w hfree hr hn hy hS H
    refine ⟨fun h => (by rw [h] at hr; cases hr), fun j hj => ?_⟩
    by_cases hji : j = i
    · subst hji; exact hy.wpOp hi hS ⟨fun _ => hS, H⟩
    · have h1 := H.2 j (ready_mono hj hji)
      obtain ⟨hjun, oj, hoj, hall⟩ := mem_ready.1 hj
      have hiun : ¬ (listed.getD i false = true) := fun h0' => by
        have h0 := (mem_ready.1 hr).1
        rcases Nat.lt_or_ge i listed.size with h' | h'
        · simp [h'] at h0 h0'; rw [h0] at h0'; cases h0'
        · simp [Array.getElem?_eq_none h'] at h0
      have hnot : ∀ e ∈ oj.after, Region.binds md e = true → e.on ≠ i := fun e he hb heq => hiun (by
        have h1 := hall e he hb
        rw [heq] at h1
        exact h1)
      have hjn : j ≠ n := fun e => by
        subst e
        obtain ⟨on, hon, e, he, hb, heq⟩ := Region.waitsFor_spec hwait
        rw [hoj] at hon
        injection hon with hon
        subst hon
        exact hnot e he hb heq
      have h2 := wpOp_putIf hoj (hfree j oj hoj hji hjun hnot) (fun cs b => hsel i oi cs b hi) (fun cs b => hsel j oj cs b hoj) hQ hy h1
      have hfree' : ∀ k ok, ops[k]? = some ok → k ≠ i → (listed.setIfInBounds j true).getD k true = false →
          (∀ e ∈ ok.after, Region.binds md e = true → e.on ≠ i) → oi.apart ops ok = true := fun k ok hk hki hun hno => by
        refine hfree k ok hk hki ?_ hno
        by_cases hjk : j = k
        · subst hjk; exact hjun
        · rw [getD_set_ne true hjk] at hun; exact hun
      have hn1 : (listed.setIfInBounds j true).getD n true = false := by rw [getD_set_ne true hjn]; exact hn
      have hn2 : ((listed.setIfInBounds i true).setIfInBounds j true).getD n true = false := by rw [getD_set_ne true hjn, getD_set_ne true (Ne.symm hni)]; exact hn
      refine wpOp_mono (fun a' w' h3 => ⟨fun _ => h3.2.1 hn2, ih (listed.setIfInBounds j true) a' w' hfree' (ready_mono hr (Ne.symm hji)) hn1 h3.1 (h3.2.1 hn2) ?_⟩) h2
      rw [Array.setIfInBounds_comm _ _ hji]
      exact h3.2.2
theorem wpAnyF_take {i : Nat} {oi : Oper} {v : Value} {fuel : Nat} {listed : Array Bool} {a : Act} {w : World} (hi : ops[i]? = some oi)
    (hs : Region.noSelect ops = true) (hf : Region.free md ops listed i = true) (hr : (Region.ready md ops listed).contains i = true) (hni : (n == i) = false) (hwait : Region.waitsFor md ops n i = true) (hn : listed.getD n true = false)
    (hQ : ∀ (c : _) (a : Act) (d : Option Tmp) (v : Value) (w : World), Q (.panic c) (a.put d v) w → Q (.panic c) a w) (hS : S w) (hw : Region.wanted oi (yielded ops a.tmps) = true) (hy : ∀ w, S w → (execOp a.eval oi).run P w = .ok (.value v) w)
    (h : wpAnyF P md ops Q S n fuel (listed.setIfInBounds i true) (a.put oi.dst v) w) : wpAnyF P md ops Q S n (fuel + 1) listed a w :=
  wpAnyF_first hi (Region.noSelect_spec hs) (fun c a w => hQ c a _ _ w) (fun e => by simp [e] at hni) hwait fuel listed a w (Region.free_spec hi hf) (by simpa using hr) hn (Or.inl ⟨hw, hy⟩) hS h
theorem wpAnyF_one {i : Nat} {o : Oper} {fuel : Nat} {listed : Array Bool} {a : Act} {w : World} (hr : Region.ready md ops listed = [i]) (ho : ops[i]? = some o)
    (h : ∀ K' : Act → World → Prop, Shut (∀ a w, S w → (S w → wpAnyF P md ops Q S n fuel (listed.setIfInBounds i true) a w) → K' a w) → if Region.wanted o (yielded ops a.tmps) = true then Oper.wp P o a w K' Q else K' (a.put o.dst undef) w) :
    wpAnyF P md ops Q S n (fuel + 1) listed a w :=
  ⟨fun h0 => (by rw [hr] at h0; cases h0), fun j hj => by
    rw [hr] at hj
    obtain rfl : j = i := by simpa using hj
    exact wpOp_step ho (fun K' hK => h K' (fun a w hS hW => hK a w ⟨fun _ => hS, hW hS⟩))⟩
/-- the last operation: S is not asked behind it -/
theorem wpAnyF_last {o : Oper} {fuel : Nat} {listed : Array Bool} {a : Act} {w : World} (hr : Region.ready md ops listed = [n]) (ho : ops[n]? = some o) (hr' : Region.ready md ops (listed.setIfInBounds n true) = []) (hl : (listed.setIfInBounds n true).getD n true = true)
    (h : ∀ K' : Act → World → Prop, Shut (∀ a w, Q .normal a w → K' a w) → if Region.wanted o (yielded ops a.tmps) = true then Oper.wp P o a w K' Q else K' (a.put o.dst undef) w) :
    wpAnyF P md ops Q S n (fuel + 1) listed a w :=
  ⟨fun h0 => (by rw [hr] at h0; cases h0), fun j hj => by
    rw [hr] at hj
    obtain rfl : j = n := by simpa using hj
    refine wpOp_step ho (fun K' hK => h K' (fun a w hQ => hK a w ⟨fun hc => (by rw [hl] at hc; cases hc), ?_⟩))
    cases fuel with
    | zero => exact ⟨hr', hQ⟩
    | succ f => exact ⟨fun _ => hQ, by rw [hr']; intro i hi; cases hi⟩⟩
theorem wp_region_F {id : Nat} {a : Act} {w : World} (n : Nat) (S : World → Prop) (hm : P.follows .mixedOrders = true)
    (h : wpAnyF P .any ops Q S n ops.size (Array.replicate ops.size false) a w.drew) : (Code.region id ops true).wp P Q a w :=
  wp_region_any hm (wpAny_of_F _ _ _ _ h)
end
end Go.Proofs.YtiibjgnmdieicaaGreat.Hist
/- spec: ahead, walked. -/
namespace Go.Proofs.YtiibjgnmdieicaaGreat.Hist
open Go.RowKit Go.Proofs.YtiibjgnmdieicaaGreatW.PrintWords Go.Sort
open Go.Maps (Keyed)
structure Os where
  ws : List Sw
  ids : Int → Option Nat
  rnd : Bool
def behindW (x : Sw) (v : Nat) : Sw := ⟨x.ev, x.place, x.done, x.waits, x.behind ++ [v], x.placed⟩
def waitsW (x : Sw) (d : Int) : Sw := ⟨x.ev, x.place, x.done, x.waits + d, x.behind, x.placed⟩
def aheadW (ws : List Sw) (u v : Nat) : List Sw := (ws.modify u fun x => behindW x v).modify v fun x => waitsW x 1
def aheadS (o : Os) (u : Nat) (id : Int) : Os :=
  if id = 0 then ⟨o.ws, o.ids, true⟩ else match o.ids id with
    | none => o
    | some v => if v = u then o else ⟨aheadW o.ws u v, o.ids, o.rnd⟩
theorem modify_set {α : Type} (l : List α) (m : Nat) (f : α → α) (h : m < l.length) : l.modify m f = l.set m (f l[m]) := by
  apply List.ext_getElem?
  intro i
  rw [List.getElem?_modify, List.getElem?_set]
  by_cases e : m = i
  · subst e
    simp [h]
  · simp [e]
/-- all but the order's own blocks stays -/
def KeepN (W W' : World) : Prop := W.heap.size ≤ W'.heap.size ∧ ∀ (g : Nat) (o : Obj), W.heap[g]? = some o → (∀ c t fr, o = .cells c t fr → t ≠ tOr ∧ t ≠ tSW ∧ t ≠ tI) → W'.heap[g]? = some o
theorem KeepN.refl (W : World) : KeepN W W := ⟨Nat.le_refl _, fun _ _ h _ => h⟩
theorem KeepN.trans {W W1 W2 : World} (h : KeepN W W1) (k : KeepN W1 W2) : KeepN W W2 := ⟨Nat.le_trans h.1 k.1, fun g o e t => k.2 g o (h.2 g o e t) t⟩
theorem KeepN.below {W W' : World} (h : Below W.heap.size W W') : KeepN W W' := ⟨h.size, fun _ _ e _ => blk_below e h⟩
theorem KeepN.set_ {W : World} {g j : Nat} {u : Value} {c : Array Value} {t : TypeId} (hg : W.heap[g]? = some (.cells c t (0, 0))) (ht : t = tOr ∨ t = tSW ∨ t = tI) : KeepN W (W.setCell ⟨g, j, none⟩ u) :=
  ⟨by simp, fun b o e k => (Below.heap_setCell W _ u b (fun q => by
    subst q
    rw [hg] at e
    injection e with e
    obtain ⟨k1, k2, k3⟩ := k c t (0, 0) e.symm
    rcases ht with ht | ht | ht <;> contradiction)).trans e⟩
theorem KeepN.grown {W W1 : World} {row : Option Nat} (hg : W.grownBy W1 row) (hc : ∀ k, row = some k → ∃ c, W.heap[k]? = some (.cells c tI (0, 0))) : KeepN W W1 :=
  ⟨hg.size, fun b o e k => blk_grown e hg (fun q => by
    obtain ⟨c, h1⟩ := hc b q.symm
    rw [h1] at e
    injection e with e
    exact (k c tI (0, 0) e.symm).2.2 rfl)⟩
theorem KeepN.map {κ : Type} {P : Program} {k : TypeId} {kv : κ → Value} {W W1 : World} {b n : Nat} {f : κ → Option Value} (h : KeepN W W1) (m : MapIs P k kv W b n f) : MapIs P k kv W1 b n f := by
  obtain ⟨D, ⟨es, clock, hb, _⟩, _⟩ := id m
  exact m.of_block ((h.2 b _ hb (fun c t fr e => by cases e)).trans hb.symm)
theorem KeepN.blk {W W1 : World} (h : KeepN W W1) {g : Nat} {c : Array Value} {t : TypeId} {fr : Nat × Nat} (hb : W.heap[g]? = some (.cells c t fr)) (h1 : t ≠ tOr) (h2 : t ≠ tSW) (h3 : t ≠ tI) : W1.heap[g]? = some (.cells c t fr) :=
  h.2 g _ hb (fun c' t' fr' e => by injection e with _ e _; subst e; exact ⟨h1, h2, h3⟩)
theorem infoI : (Tryz.prog.info? 3).map (fun i => (i.zero, i.size, i.bytes)) = some (some (.int .i64 0), 1, 8) := by kernel_rfl
variable {w0 W W1 : World} {Bo Bm : Nat} {rv : Value} {bs : List Nat} {vs : Nat → Value} {nm : Nat} {ws : List Sw} {ids : Int → Option Nat} {rnd : Bool}
theorem row_cells {W : World} {base : Nat} {bs : List Nat} {ad : Addr} {n c : Nat} (h : OwnRow RB tSP 1 W base (.slice (some ad) n c) bs) {j : Nat} (hj' : j < bs.length) : W.cell? (ad.add j) = some (.pointer (some ⟨bs.getD j 0, 0, none⟩)) := by
  obtain ⟨A, c', e, _, hr⟩ := h.reads
  injection e with e1 e2 e3
  subst e1
  obtain ⟨ad', e, hc⟩ := hr.2.2 (by omega)
  injection e with e
  subst e
  obtain ⟨cs, hl, hR, hcs⟩ := hc j bs[j] (List.getElem?_eq_getElem hj')
  unfold RB at hR
  subst hR
  have h0 := hcs 0 _ rfl
  simp only [Nat.mul_one, Nat.add_zero] at h0
  rw [h0]
  simp [List.getD_eq_getElem?_getD, hj']
theorem OS.cells {ad : Addr} {n c : Nat} (h : OS w0 W Bo Bm (.slice (some ad) n c) bs vs nm ws ids rnd) {j : Nat} (hj : j < ws.length) : W.cell? (ad.add j) = some (.pointer (some ⟨bs.getD j 0, 0, none⟩)) :=
  row_cells h.row (by rw [h.len]; exact hj)
/-- the pointers stay when a row of numbers grows -/
theorem OS.cells_grown {ad : Addr} {n c u : Nat} (h : OS w0 W Bo Bm (.slice (some ad) n c) bs vs nm ws ids rnd) (hu : u < ws.length) (hg : W.grownBy W1 (vs u).ownBlock) {j : Nat} (hj : j < ws.length) : W1.cell? (ad.add j) = some (.pointer (some ⟨bs.getD j 0, 0, none⟩)) ∧ W1.cell? ⟨Bo, 0, none⟩ = some (.slice (some ad) n c) := by
  have hl : u < bs.length := by rw [h.len]; exact hu
  obtain ⟨_, _, _, _, _, _, _, _, hrm⟩ := h.wr u bs[u] ws[u] (List.getElem?_eq_getElem hl) (List.getElem?_eq_getElem hu)
  have ho := OffI.row hrm
  refine ⟨row_cells (h.row.other hg (by
    generalize hv : (Value.slice (some ad) n c).ownBlock = r
    cases r with
    | none => exact .inl rfl
    | some k =>
      obtain ⟨cells, hk⟩ := own_typed2 h.row hv
      exact .inr (ho.ne hk (by decide)))) (by rw [h.len]; exact hj), ?_⟩
  rw [blk_cell (blk_grown h.bo hg (ho.ne h.bo (by decide))) 0]
  rfl
theorem OS.slice1 (h : OS w0 W Bo Bm rv bs vs nm ws ids rnd) {u : Nat} (hu : u < ws.length) : ∃ ad c, rv = .slice (some ad) ws.length c ∧ ws.length ≤ c := by
  obtain ⟨A, c', e, hle, hr⟩ := h.row.reads
  obtain ⟨ad, e', hc⟩ := hr.2.2 (by rw [h.len]; omega)
  subst e'
  rw [h.len] at e hle
  exact ⟨ad, c', e, hle⟩
theorem OS.blk (h : OS w0 W Bo Bm rv bs vs nm ws ids rnd) {u : Nat} (hu : u < ws.length) : SwB w0 W (bs.getD u 0) ws[u] (vs u) := by
  have hl : u < bs.length := by rw [h.len]; exact hu
  exact h.wr u _ _ (by simp [List.getD_eq_getElem?_getD, hl]) (List.getElem?_eq_getElem hu)
theorem OS.bne (h : OS w0 W Bo Bm rv bs vs nm ws ids rnd) {u v : Nat} (hu : u < ws.length) (hv : v < ws.length) (hne : u ≠ v) : bs.getD u 0 ≠ bs.getD v 0 := fun e => by
  have hl : u < bs.length := by rw [h.len]; exact hu
  have hl' : v < bs.length := by rw [h.len]; exact hv
  exact hne (h.dis u v (bs.getD u 0) (by simp [List.getD_eq_getElem?_getD, hl]) (by rw [e]; simp [List.getD_eq_getElem?_getD, hl']))
/-- the order behind a call: another row or another number, no more -/
def OSx (w0 W W' : World) (Bo Bm : Nat) (rv : Value) (bs : List Nat) (nm : Nat) (o : Os) : Prop := (∃ vs', OS w0 W' Bo Bm rv bs vs' nm o.ws o.ids o.rnd) ∧ KeepN W W'
set_option maxHeartbeats 4000000 in
set_option maxRecDepth 100000 in
theorem ahead_any (u : Nat) (id : Int) (w0 W : World) (hO : OS w0 W Bo Bm rv bs vs nm ws ids rnd) (hu : u < ws.length) (hwf : (Lit.int .u64 id).wf = true) (hid : id ≠ 0 → ∃ v, ids id = some v)
    (hw : ∀ i (h : i < ws.length), -1099511627776 ≤ ws[i].waits ∧ ws[i].waits ≤ 1099511627776 ∧ ws[i].behind.length ≤ 1099511627776) :
    Calls Tryz.prog 51 #[.pointer (some ⟨Bo, 0, none⟩), .int .i64 u, .int .u64 id] W fun e w' => e = .returned (.tuple #[]) ∧ OSx w0 W w' Bo Bm rv bs nm (aheadS ⟨ws, ids, rnd⟩ u id) := by
  have o0 := blk_cell hO.bo 0
  have o1 := blk_cell hO.bo 1
  have o2 := blk_cell hO.bo 2
  have z2 := blk_frozen hO.bo 2
  have ol := blk_lt hO.bo
  simp only [List.getElem?_toArray, List.getElem?_cons_zero, List.getElem?_cons_succ] at o0 o1 o2
  by_cases h0 : id = 0
  · subst h0
    have hR := Lib.hid hO.round_
    have hk := Lib.hid (KeepN.set_ (j := 2) (u := .bool true) hO.bo (.inl rfl))
    clear hid hw
    replace hO := Lib.hid hO
    go_enter Tryz.func51, Tryz.ntmps51
    go_wp2
    refine bodyPost_ret (results_none rfl _ _ _) rfl ?_
    exact ⟨rfl, ⟨_, hR.out⟩, hk.out⟩
  · have b0 : (id == 0) = false := by simpa using h0
    obtain ⟨v, hv⟩ := hid h0
    have hvl := hO.inb id v hv
    have ha : aheadS ⟨ws, ids, rnd⟩ u id = if v = u then ⟨ws, ids, rnd⟩ else ⟨aheadW ws u v, ids, rnd⟩ := by
      unfold aheadS
      rw [if_neg h0]
      show (match ids id with | none => _ | some v => _) = _
      rw [hv]
    rw [ha]
    clear ha hid
    have hkey := Lib.hid (keyId id hwf)
    have hmv : ((ids id).map fun n : Nat => (.int .i64 n : Value)).getD (.int .i64 0) = .int .i64 v := by rw [hv]; rfl
    replace hmv := Lib.hid hmv
    by_cases hvu : v = u
    · rw [if_pos hvu]
      have b1 : ((v : Int) != (u : Int)) = false := by simp [hvu]
      replace hO := Lib.hid hO
      replace h0 := Lib.hid h0
      clear hw
      go_enter Tryz.func51, Tryz.ntmps51
      go_wp2_with (first | (at_lookup; refine wpList_look1_map (κ := Int) rfl _ _ 68 rfl 3 keyedId Tryz.underlying68 (zeroInt _) rfl hO.out.mp id rfl hkey.out _ hmv.out ?_) | go_in)
      go_wp2
      go_end0
      exact ⟨rfl, ⟨_, hO.out⟩, KeepN.refl _⟩
    · rw [if_neg hvu]
      have b1 : ((v : Int) != (u : Int)) = true := by
        simp only [bne_iff_ne, ne_eq]
        omega
      have hne : u ≠ v := fun e => hvu e.symm
      obtain ⟨ad, rc, rfl, hrc⟩ := hO.slice1 hu
      have hcu := hO.cells hu
      have hSu := hO.blk hu
      obtain ⟨A4, c4, A5, c5, A9, c9, hB, hK, hr⟩ := hSu
      obtain ⟨BA, bc, hbv⟩ := slice_of hr rfl
      have hwu := (hw u hu).2.2
      have hwv1 := (hw v hvl).1
      have hwv2 := (hw v hvl).2.1
      have hbd := hO.bne hu hvl hne
      have bd : Below W.heap.size W W.drew := below_drew (Below.refl _ _)
      have hD := Lib.hid (hO.below bd)
      have rD := Lib.hid (hr.below bd)
      have s5 : (ws[u].behind.length + 1) * 8 ≤ 140737488355328 := by omega
      have hln : (ws[u].behind ++ [v]).length = ws[u].behind.length + 1 := by simp
      have hX1 : ∀ (v1 : Value) A4 c4 A5 c5 A9 c9, (swCells ws[u] A4 c4 A5 c5 A9 c9 (vs u)).setIfInBounds 13 v1 = swCells (behindW ws[u] v) A4 c4 A5 c5 A9 c9 v1 := fun v1 _ _ _ _ _ _ => rfl
      have hone : ∀ q ∈ ([.int .i64 (v : Int)] : List Value), q.oneCell' = true := by
        intro q hq
        simp at hq
        subst hq
        rfl
      have hmap : aheadW ws u v = (ws.set u (behindW ws[u] v)).set v (waitsW ws[v] 1) := by
        unfold aheadW
        rw [modify_set ws u _ hu, modify_set _ v _ (by simpa using hvl), List.getElem_set_ne hne]
      rw [hmap]
      clear hmap
      have hgv : (ws.set u (behindW ws[u] v))[v]'(by simpa using hvl) = ws[v] := by rw [List.getElem_set_ne hne]
      have hmx : ws.length ≤ 9223372036854775807 := by
        obtain ⟨_, _, e, _, hr⟩ := hO.row.reads
        have := hr.2.1
        rw [hO.len] at this
        exact this
      have hBeh := fun (W1 : World) (v1 : Value) => (hO.below bd).behind (W1 := W1) (v1 := v1) (x' := behindW ws[u] v) hu
      obtain ⟨Bu, hBu⟩ : ∃ B, bs.getD u 0 = B := ⟨_, rfl⟩
      obtain ⟨Bv, hBv⟩ : ∃ B, bs.getD v 0 = B := ⟨_, rfl⟩
      have hcells := fun (W1 : World) vs ws' ids rnd (h : OS w0 W1 Bo Bm (.slice (some ad) ws.length rc) bs vs nm ws' ids rnd) (hl : v < ws'.length) => h.cells hl
      have hcu' := Lib.hid fun (W1 : World) vs ws' ids rnd (h : OS w0 W1 Bo Bm (.slice (some ad) ws.length rc) bs vs nm ws' ids rnd) (hl : u < ws'.length) => h.cells hl
      have hul := Lib.hid hu
      have hgr := fun (W1 : World) (gr : W.drew.grownBy W1 (vs u).ownBlock) => (hO.below bd).cells_grown hu gr hu
      have hblk := fun (W1 : World) vs (ws' : List Sw) ids rnd (h : OS w0 W1 Bo Bm (.slice (some ad) ws.length rc) bs vs nm ws' ids rnd) (hl : v < ws'.length) => h.blk hl
      rw [hBu] at hcu hB hBeh hbd
      simp only [hBu] at hgr
      rw [hBu] at hcu'
      rw [hBv] at hbd
      simp only [hBv] at hcells hblk
      have kD := Lib.hid (blk_below hB bd)
      have hca : ∀ o, (W.alloc o).cell? (ad.add u) = some (.pointer (some ⟨Bu, 0, none⟩)) := fun o => pw_cell_below (below_alloc (Below.refl _ _) o) hcu
      have e13 := blk_cell hB 13
      have lB := blk_lt hB
      have z13 := blk_frozen hB 13
      simp only [swCells, List.getElem?_toArray, List.getElem?_cons_zero, List.getElem?_cons_succ] at e13
      rw [hbv] at e13
      generalize hbl : ws[u].behind.length = bl at *
      replace hX1 := Lib.hid hX1
      replace hone := Lib.hid hone
      replace hgv := Lib.hid hgv
      replace hw := Lib.hid hw
      replace hr := Lib.hid hr
      replace hB := Lib.hid hB
      replace hK := Lib.hid hK
      replace hbd := Lib.hid hbd
      replace hO := Lib.hid hO
      replace h0 := Lib.hid h0
      replace hln := Lib.hid hln
      replace hv := Lib.hid hv
      replace hBeh := Lib.hid hBeh
      replace hBu := Lib.hid hBu
      replace hBv := Lib.hid hBv
      replace hcells := Lib.hid hcells
      replace hblk := Lib.hid hblk
      replace hgr := Lib.hid hgr
      go_enter Tryz.func51, Tryz.ntmps51
      go_wp2_with (first | (at_lookup; refine wpList_look1_map (κ := Int) rfl _ _ 68 rfl 3 keyedId Tryz.underlying68 (zeroInt _) rfl hO.out.mp id rfl hkey.out _ hmv.out ?_) | go_in)
      refine wp_region_noPanic ?_
      refine wp_region_F 22 (fun w' => w'.cell? ⟨Bo, 0, none⟩ = some (.slice (some ad) ws.length rc) ∧ w'.cell? (ad.add u) = some (.pointer (some ⟨Bu, 0, none⟩)) ∧ w'.cell? ⟨Bu, 13, none⟩ = some (.slice BA bl bc)) (by kernel_rfl) ?_
      have hHeld : W.drew.cell? ⟨Bo, 0, none⟩ = some (.slice (some ad) ws.length rc) ∧ W.drew.cell? (ad.add u) = some (.pointer (some ⟨Bu, 0, none⟩)) ∧ W.drew.cell? ⟨Bu, 13, none⟩ = some (.slice BA bl bc) := ⟨o0, hcu, e13⟩
      refine wpAnyF_take (i := 0) (v := ?_) rfl (by kernel_rfl) (by kernel_rfl) (by kernel_rfl) rfl (by kernel_rfl) rfl (fun _ _ _ _ _ h => h) hHeld rfl ?_ ?_
      rotate_left 1
      · rintro w' ⟨y0, y1, y2⟩
        go_simp
        try with_reducible rfl
      simp only [Act.put]
      refine wpAnyF_take (i := 1) (v := ?_) rfl (by kernel_rfl) (by kernel_rfl) (by kernel_rfl) rfl (by kernel_rfl) rfl (fun _ _ _ _ _ h => h) hHeld rfl ?_ ?_
      rotate_left 1
      · rintro w' ⟨y0, y1, y2⟩
        go_simp
        try with_reducible rfl
      simp only [Act.put]
      refine wpAnyF_take (i := 2) (v := ?_) rfl (by kernel_rfl) (by kernel_rfl) (by kernel_rfl) rfl (by kernel_rfl) rfl (fun _ _ _ _ _ h => h) hHeld rfl ?_ ?_
      rotate_left 1
      · rintro w' ⟨y0, y1, y2⟩
        go_simp
        try with_reducible rfl
      simp only [Act.put]
      refine wpAnyF_take (i := 3) (v := ?_) rfl (by kernel_rfl) (by kernel_rfl) (by kernel_rfl) rfl (by kernel_rfl) rfl (fun _ _ _ _ _ h => h) hHeld rfl ?_ ?_
      rotate_left 1
      · rintro w' ⟨y0, y1, y2⟩
        go_simp
        try with_reducible rfl
      simp only [Act.put]
      refine wpAnyF_take (i := 4) (v := ?_) rfl (by kernel_rfl) (by kernel_rfl) (by kernel_rfl) rfl (by kernel_rfl) rfl (fun _ _ _ _ _ h => h) hHeld rfl ?_ ?_
      rotate_left 1
      · rintro w' ⟨y0, y1, y2⟩
        go_simp
        try with_reducible rfl
      simp only [Act.put]
      refine wpAnyF_take (i := 5) (v := ?_) rfl (by kernel_rfl) (by kernel_rfl) (by kernel_rfl) rfl (by kernel_rfl) rfl (fun _ _ _ _ _ h => h) hHeld rfl ?_ ?_
      rotate_left 1
      · rintro w' ⟨y0, y1, y2⟩
        go_simp
        try with_reducible rfl
      simp only [Act.put]
      refine wpAnyF_take (i := 6) (v := ?_) rfl (by kernel_rfl) (by kernel_rfl) (by kernel_rfl) rfl (by kernel_rfl) rfl (fun _ _ _ _ _ h => h) hHeld rfl ?_ ?_
      rotate_left 1
      · rintro w' ⟨y0, y1, y2⟩
        go_simp
        try with_reducible rfl
      simp only [Act.put]
      refine wpAnyF_take (i := 7) (v := ?_) rfl (by kernel_rfl) (by kernel_rfl) (by kernel_rfl) rfl (by kernel_rfl) rfl (fun _ _ _ _ _ h => h) hHeld rfl ?_ ?_
      rotate_left 1
      · rintro w' ⟨y0, y1, y2⟩
        go_simp
        try with_reducible rfl
      simp only [Act.put]
      refine wpAnyF_take (i := 8) (v := ?_) rfl (by kernel_rfl) (by kernel_rfl) (by kernel_rfl) rfl (by kernel_rfl) rfl (fun _ _ _ _ _ h => h) hHeld rfl ?_ ?_
      rotate_left 1
      · rintro w' ⟨y0, y1, y2⟩
        go_simp
        try with_reducible rfl
      simp only [Act.put]
      refine wpAnyF_take (i := 9) (v := ?_) rfl (by kernel_rfl) (by kernel_rfl) (by kernel_rfl) rfl (by kernel_rfl) rfl (fun _ _ _ _ _ h => h) hHeld rfl ?_ ?_
      rotate_left 1
      · rintro w' ⟨y0, y1, y2⟩
        go_simp
        try with_reducible rfl
      simp only [Act.put]
      refine wpAnyF_take (i := 10) (v := ?_) rfl (by kernel_rfl) (by kernel_rfl) (by kernel_rfl) rfl (by kernel_rfl) rfl (fun _ _ _ _ _ h => h) hHeld rfl ?_ ?_
      rotate_left 1
      · rintro w' ⟨y0, y1, y2⟩
        go_simp
        try with_reducible rfl
      simp only [Act.put]
      refine wpAnyF_take (i := 11) (v := ?_) rfl (by kernel_rfl) (by kernel_rfl) (by kernel_rfl) rfl (by kernel_rfl) rfl (fun _ _ _ _ _ h => h) hHeld rfl ?_ ?_
      rotate_left 1
      · rintro w' ⟨y0, y1, y2⟩
        go_simp
        try with_reducible rfl
      simp only [Act.put]
      refine wpAnyF_take (i := 12) (v := ?_) rfl (by kernel_rfl) (by kernel_rfl) (by kernel_rfl) rfl (by kernel_rfl) rfl (fun _ _ _ _ _ h => h) hHeld rfl ?_ ?_
      rotate_left 1
      · rintro w' ⟨y0, y1, y2⟩
        go_simp
        try with_reducible rfl
      simp only [Act.put]
      refine wpAnyF_take (i := 13) (v := ?_) rfl (by kernel_rfl) (by kernel_rfl) (by kernel_rfl) rfl (by kernel_rfl) rfl (fun _ _ _ _ _ h => h) hHeld rfl ?_ ?_
      rotate_left 1
      · rintro w' ⟨y0, y1, y2⟩
        go_simp
        try with_reducible rfl
      simp only [Act.put]
      refine wpAnyF_take (i := 14) (v := ?_) rfl (by kernel_rfl) (by kernel_rfl) (by kernel_rfl) rfl (by kernel_rfl) rfl (fun _ _ _ _ _ h => h) hHeld rfl ?_ ?_
      rotate_left 1
      · rintro w' ⟨y0, y1, y2⟩
        go_simp
        try with_reducible rfl
      simp only [Act.put]
      refine wpAnyF_take (i := 15) (v := ?_) rfl (by kernel_rfl) (by kernel_rfl) (by kernel_rfl) rfl (by kernel_rfl) rfl (fun _ _ _ _ _ h => h) hHeld rfl ?_ ?_
      rotate_left 1
      · rintro w' ⟨y0, y1, y2⟩
        go_simp
        try with_reducible rfl
      simp only [Act.put]
      refine wpAnyF_take (i := 16) (v := ?_) rfl (by kernel_rfl) (by kernel_rfl) (by kernel_rfl) rfl (by kernel_rfl) rfl (fun _ _ _ _ _ h => h) hHeld rfl ?_ ?_
      rotate_left 1
      · rintro w' ⟨y0, y1, y2⟩
        go_simp
        try with_reducible rfl
      simp only [Act.put]
      refine wpAnyF_take (i := 17) (v := ?_) rfl (by kernel_rfl) (by kernel_rfl) (by kernel_rfl) rfl (by kernel_rfl) rfl (fun _ _ _ _ _ h => h) hHeld rfl ?_ ?_
      rotate_left 1
      · rintro w' ⟨y0, y1, y2⟩
        go_simp
        try with_reducible rfl
      simp only [Act.put]
      refine wpAnyF_one (i := 18) (by kernel_rfl) rfl (fun K hK => ?_)
      go_simp
      refine hK.out _ _ ?_ (fun _ => ?_)
      · go_keep
      clear hK K
      refine wpAnyF_one (i := 19) (by kernel_rfl) rfl (fun K hK => ?_)
      refine OwnRow.append_step (P := Tryz.prog) (R := RI) (w0 := w0) (W := W.drew) w0.heap.size rfl (.tmp 37) (.tmp 39) 71 3 (.int .i64 0) 1 8 rfl Tryz.underlying71 infoI rfl (by decide) (by decide) (.slice BA bl bc) ws[u].behind v [.int .i64 v] (by simp [Act.eval]) (by simp [Act.eval]) rfl rfl (by exact hone.out) (by rw [← hbv]; exact rD.out) (by exact hD.out.bel) (by exact hD.out.bel.size) (by rw [hbl]; exact s5) ?_; intro v1 w1 own1 bel1 gr1 at1; obtain ⟨A1, cc1, rfl⟩ := slice_of own1 hln.out; rw [← hbv] at gr1 at1; obtain ⟨qu, qo⟩ := hgr.out _ gr1; have hS := Lib.hid (hBeh.out _ _ gr1 own1 at1 (hX1.out _) rfl); have p0 := blk_cell hS.out.bo 0; simp only [List.getElem?_toArray, List.getElem?_cons_zero] at p0; have pu := hcu'.out _ _ _ _ _ hS.out (by rw [List.length_set]; exact hul.out); have hB1 := blk_grown kD.out gr1 ((OffI.row rD.out).ne kD.out (by decide)); have f13 := blk_cell hB1 13; have g13 := blk_frozen hB1 13; have m1 := blk_lt hB1; have hKe := Lib.hid ((KeepN.below bd).trans ((KeepN.grown gr1 (fun k hk => own_typed2 rD.out hk)).trans (KeepN.set_ (j := 13) (u := .slice A1 (bl + 1) cc1) hB1 (.inr (.inl rfl))))); simp only [swCells, List.getElem?_toArray, List.getElem?_cons_zero, List.getElem?_cons_succ] at f13; rw [hbv] at f13; clear own1 bel1 gr1 at1
      refine hK.out _ _ ⟨qo, qu, f13⟩ (fun _ => ?_)
      clear hK K hHeld
      simp only [Act.put]
      refine wpAnyF_one (i := 20) (by kernel_rfl) rfl (fun K hK => ?_)
      go_simp
      refine hK.out _ _ ⟨qo, qu, f13⟩ (fun _ => ?_)
      clear hK K
      refine wpAnyF_one (i := 21) (by kernel_rfl) rfl (fun K hK => ?_)
      go_simp
      refine hK.out _ _ ⟨qo, qu, f13⟩ (fun _ => ?_)
      clear hK K
      refine wpAnyF_last (by kernel_rfl) rfl (by kernel_rfl) rfl (fun K hK => ?_)
      go_simp
      refine hK.out _ _ (NoPanic.normal ?_)
      clear hK K
      have pl := blk_lt hS.out.bo
      have pv := hcells.out _ _ _ _ _ hS.out (by rw [List.length_set]; exact hvl)
      obtain ⟨D4, d4, D5, d5, D9, d9, hBB, hKK, hRR⟩ := hblk.out _ _ _ _ _ hS.out (by rw [List.length_set]; exact hvl)
      have v12 := blk_cell hBB 12
      have y12 := blk_frozen hBB 12
      have ly := blk_lt hBB
      rw [hgv.out] at v12
      simp only [swCells, List.getElem?_toArray, List.getElem?_cons_zero, List.getElem?_cons_succ] at v12
      have hFi := hS.out.field (m := v) (by rw [List.length_set]; exact hvl) 12 (.int .i64 (ws[v].waits + 1)) (waitsW ws[v] 1) (by rw [hgv.out]; intros; rfl) (by rw [hgv.out]; rfl) (by rw [hgv.out]; rfl)
      rw [hBv.out] at hFi
      have hKf := Lib.hid (hKe.out.trans (KeepN.set_ (j := 12) (u := .int .i64 (ws[v].waits + 1)) hBB (.inr (.inl rfl))))
      replace hFi := Lib.hid hFi
      replace hS := Lib.hid hS.out
      clear hBB hKK hRR hKe hB1 f13 g13 m1 qu qo
      generalize ws[v].waits = wt at *
      generalize w1.setCell _ _ = W2 at *
      go_wp2
      go_end0
      exact ⟨rfl, ⟨_, hFi.out⟩, hKf.out⟩
end Go.Proofs.YtiibjgnmdieicaaGreat.Hist
