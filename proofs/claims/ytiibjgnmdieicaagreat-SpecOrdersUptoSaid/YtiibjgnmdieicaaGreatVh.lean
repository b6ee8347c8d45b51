/- SpecOrders: the walk. -/
import Derived.Test.YtiibjgnmdieicaaGreatVg
namespace Go.Proofs.YtiibjgnmdieicaaGreat.Hist
open Go.RowKit Go.Proofs.YtiibjgnmdieicaaGreatW.PrintWords Go.Sort
theorem few_vers {l : List Evt} (hh : heavyB l = false) (j : Nat) (hj : j < l.length) : l[j].f6.f3.length ≤ 1048576 := by
  have h1 := light hh
  have h2 := wt_sum l j hj
  unfold wtE at h2
  omega
set_option maxHeartbeats 16000000 in
set_option maxRecDepth 100000 in
theorem orders_any (A : Option Addr) (c : Nat) (l : List Evt) (w : World) (hC : kEvt.C w A l.length l) (hL : LawIn l) :
    Calls Tryz.prog 4 #[.slice A l.length c] w fun e w' => e = .returned (.bool true) ∧ Below w.heap.size w w' := by
  have hkn := Lib.hid (known_any w)
  have hhv := Lib.hid fun W (hb : Below w.heap.size w W) => heavy_any A c l W (Kd.C_below hC hb) hL.sum
  cases hh : heavyB l with
  | true =>
    rw [hh] at hhv
    clear hC hL hh
    have hk2 := Lib.hid fun W => known_any W
    go_enter Tryz.func4, Tryz.ntmps4
    go_wp2_with fail
    refine hkn.out.mono ?_
    rintro e W1 ⟨rfl, hb1⟩
    have hv1 := Lib.hid (hhv.out W1 hb1)
    replace hb1 := Lib.hid hb1
    go_wp2_with fail
    refine hv1.out.mono ?_
    rintro e W2 ⟨rfl, hb2⟩
    have hb12 := Lib.hid (below_then hb1.out hb1.out.size hb2)
    have hk3 := Lib.hid (hk2.out W2)
    clear hv1 hb2 hb1
    go_wp2_with fail
    refine hk3.out.mono ?_
    rintro e W3 ⟨rfl, hb3⟩
    have hb13 := Lib.hid (below_then hb12.out hb12.out.size hb3)
    clear hb3 hb12
    go_wp2
    go_ret
    exact ⟨rfl, hb13.out⟩
  | false =>
    rw [hh] at hhv
    have hlen : l.length ≤ 60 := (light hh).1
    have hor := Lib.hid fun W (hb : Below w.heap.size w W) => order_any A c l W (Kd.C_below hC hb) (hL.ord hh)
    have hro := Lib.hid fun W (hb : Below w.heap.size w W) => rorder_any A c l (by omega) (few_vers hh) W (Kd.C_below hC hb)
    clear hC hh hL
    unfold Ordered at hor
    unfold RefTo at hro
    go_enter Tryz.func4, Tryz.ntmps4
    go_wp2_with fail
    refine hkn.out.mono ?_
    rintro e W1 ⟨rfl, hb1⟩
    have hv1 := Lib.hid (hhv.out W1 hb1)
    replace hb1 := Lib.hid hb1
    go_wp2_with fail
    refine hv1.out.mono ?_
    rintro e W2 ⟨rfl, hb2⟩
    have hb12 := below_then hb1.out hb1.out.size hb2
    have hn := Lib.hid (hor.out W2 hb12)
    replace hb12 := Lib.hid hb12
    clear hv1 hb2 hb1 hor hkn hhv
    go_wp2_with fail
    refine hn.out.mono ?_
    rintro e W3 ⟨LA, lc, rfl, hrow, hb3⟩
    have hb13 := below_then hb12.out hb12.out.size hb3
    have hRC := Lib.hid (RowC.own hrow).1
    have hn2 := Lib.hid (hro.out W3 hb13)
    replace hb13 := Lib.hid hb13
    clear hn hb3 hb12 hrow hro
    obtain ⟨L0, b0, q0, ho⟩ : ∃ L b q, orderS l = (L, b, q) := ⟨_, _, _, rfl⟩
    rw [ho] at hRC ⊢
    replace hRC : Hid (RowC RID 1 W3 LA L0) := hRC
    replace ho := Lib.hid ho
    go_wp2_with fail
    refine hn2.out.mono ?_
    rintro e W4 ⟨L, b, q, A2, c2, hres, rfl, hR2, hb4⟩
    have heq := (ho.out).symm.trans (ref_order hres)
    simp only [Prod.mk.injEq] at heq
    obtain ⟨rfl, rfl, rfl⟩ := heq
    have hb14 := below_then hb13.out hb13.out.size hb4
    have hs := Lib.hid (sameIDs_any LA A2 lc c2 L0 L0 W4 (hRC.out.below hb4) hR2)
    simp only [decide_true] at hs
    replace hb14 := Lib.hid hb14
    clear hn2 hres hR2 hb4 hRC hb13
    have hq : (q0 == q0) = true := by simp
    have hbb : (b0 == b0) = true := by simp
    go_wp2_with (first | (go_at_call 15; refine hs.out.mono ?_; rintro e W7 ⟨rfl, hb7⟩; have hb17 := Lib.hid (below_then hb14.out hb14.out.size hb7); clear hb7) | go_in)
    go_ret
    exact ⟨rfl, hb17.out⟩
end Go.Proofs.YtiibjgnmdieicaaGreat.Hist
