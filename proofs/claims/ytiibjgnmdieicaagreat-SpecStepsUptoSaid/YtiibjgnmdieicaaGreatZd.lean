/- the document's judge: Judge, walked (under way: does not build yet). -/
import Derived.Test.YtiibjgnmdieicaaGreatZc
import Derived.Test.YtiibjgnmdieicaaGreatVf
import Derived.Test.YtiibjgnmdieicaaGreatZb
import Derived.Deep.DeepCutAuto
namespace Go.Proofs.YtiibjgnmdieicaaGreat.Hist
open Go.RowKit Go.Proofs.YtiibjgnmdieicaaGreatW.PrintWords Go.Sort
def RelJd (w : World) (l : List Evt) (s4 s5 : Value) (wr : World) : Prop := ∃ j : Nat, j ≤ l.length ∧ s5 = .int .i64 j ∧ ∃ L : List Fnd, OwnRow FR tFd 5 wr w.heap.size s4 L ∧ (∀ r, (∃ f ∈ L, f.rule = r) ↔ RuleN l j r) ∧ L.length ≤ 4096 * j ∧ Below w.heap.size w wr
def RelJk (w : World) (l : List Evt) (i p : Nat) (vs : List Ver) (s4 s7 : Value) (wr : World) : Prop := ∃ k : Nat, k ≤ vs.length ∧ s7 = .int .i64 k ∧ ∃ L : List Fnd, OwnRow FR tFd 5 wr w.heap.size s4 L ∧ (∀ r, (∃ f ∈ L, f.rule = r) ↔ RuleN l i r ∨ RuleK l i p vs k r) ∧ L.length ≤ 4096 * i + 4 * k ∧ Below w.heap.size w wr
def CutJ (w : World) (B0 : Nat) (cs : Array Value) (N : Nat) (P : Int → Prop) (s4 : Value) (wx : World) : Prop := ∃ L : List Fnd, OwnRow FR tFd 5 wx w.heap.size s4 L ∧ (∀ r, (∃ f ∈ L, f.rule = r) ↔ P r) ∧ L.length ≤ N ∧ Below w.heap.size w wx ∧ wx.heap[B0]? = some (.cells cs 49 (0, 0))
theorem CutJ.below {w wx wy : World} {B0 : Nat} {cs : Array Value} {N : Nat} {P : Int → Prop} {s4 : Value} (h : CutJ w B0 cs N P s4 wx) (hb : Below wx.heap.size wx wy) : CutJ w B0 cs N P s4 wy := by
  obtain ⟨L, h1, h2, h3, h4, h5⟩ := h
  exact ⟨L, h1.below hb, h2, h3, below_then h4 h4.size hb, blk_below h5 hb⟩
theorem CutJ.skip {w wx : World} {B0 : Nat} {cs : Array Value} {N : Nat} {P : Int → Prop} {s4 : Value} (h : CutJ w B0 cs N P s4 wx) (n : Int) {Q : Prop} (hq : ¬ Q) : CutJ w B0 cs (N + 1) (fun r => P r ∨ (r = n ∧ Q)) s4 wx := by
  obtain ⟨L, h1, h2, h3, h4, h5⟩ := h
  exact ⟨L, h1, fun r => (h2 r).trans ⟨.inl, fun h => h.elim id fun h => absurd h.2 hq⟩, by omega, h4, h5⟩
theorem CutJ.put {w wx : World} {B0 : Nat} {cs : Array Value} {N : Nat} {P : Int → Prop} {L : List Fnd} {f : Fnd} {v : Value} (h1 : OwnRow FR tFd 5 wx w.heap.size v (L ++ [f])) (h2 : ∀ r, (∃ f ∈ L, f.rule = r) ↔ P r) (h3 : L.length ≤ N) (h4 : Below w.heap.size w wx) (h5 : wx.heap[B0]? = some (.cells cs 49 (0, 0))) (n : Int) (hn : f.rule = n) {Q : Prop} (hq : Q) : CutJ w B0 cs (N + 1) (fun r => P r ∨ (r = n ∧ Q)) v wx := by
  subst hn
  exact ⟨_, h1, fun r => (rule_put h2 f r).trans ⟨fun h => h.elim .inl fun h => .inr ⟨h, hq⟩, fun h => h.elim .inl fun h => .inr h.1⟩, by rw [List.length_append]; simp only [List.length_cons, List.length_nil]; omega, h4, h5⟩
theorem brk_sum {l : List Evt} {i p : Nat} {all : List Ver} {v : Ver} (r : Int) (P : Prop) : (((P ∨ (r = 1 ∧ ForgP l i v)) ∨ (r = 2 ∧ AbP l v.f1)) ∨ (r = 3 ∧ ∃ t, ∃ ht : t < all.length, TornP l i v.f0 v.f1 all[t])) ∨ (r = 4 ∧ ∃ t, t < p ∧ LostP l p v.f0 v.f1 t) ↔ P ∨ BrkP l i p all v r := by
  have e : (∃ t, ∃ ht : t < all.length, TornP l i v.f0 v.f1 all[t]) ↔ ∃ u ∈ all, TornP l i v.f0 v.f1 u :=
    ⟨fun ⟨t, ht, h⟩ => ⟨_, List.getElem_mem ht, h⟩, fun ⟨u, hu, h⟩ => by
      obtain ⟨t, ht, rfl⟩ := List.getElem_of_mem hu
      exact ⟨t, ht, h⟩⟩
  unfold BrkP
  rw [e, or_assoc, or_assoc, or_assoc]
theorem bool_of (P : Prop) : ∃ b : Bool, b = true ↔ P := ⟨@decide P (Classical.propDecidable P), @decide_eq_true_iff P (Classical.propDecidable P)⟩
theorem put_room {L N j k : Nat} (h : L ≤ N) (hN : N ≤ 4096 * j + 4 * k + 4) (hj : j ≤ 1048576) (hk : k ≤ 1024) : (L + 1) * 48 ≤ 140737488355328 := by omega
set_option maxHeartbeats 16000000 in
set_option maxRecDepth 100000 in
theorem rjudge_any (A : Option Addr) (c : Nat) (l : List Evt) (hpb : properB l = true) (hsm : l.length ≤ 1048576) (hvs : ∀ j (hj : j < l.length), l[j].f6.f3.length ≤ 1024) (hps : ∀ j (hj : j < l.length), l[j].f4.length ≤ 1048576) (hv0 : ∀ j (hj : j < l.length), ∀ v ∈ l[j].f6.f3, 0 ≤ v.f1) (w : World) (hC : kEvt.C w A l.length l) :
    Calls Tryz.prog 27 #[.slice A l.length c] w fun e w' => ∃ A2 c2, ∃ L : List Fnd, e = .returned (.tuple #[.slice A2 L.length c2, .int .i64 0]) ∧ RowC FR 5 w' A2 L ∧ (∀ r, (∃ f ∈ L, f.rule = r) ↔ RuleP l r) ∧ Below w.heap.size w w' := by
  have hm : l.length ≤ 9223372036854775807 := hC.2.1
  have H := prp hpb
  have hpr := rproper_any A c l w hC
  rw [hpb] at hpr
  have hrq := Lib.hid fun W (hb : Below w.heap.size w W) i hi => rreq24_any A c l i hi W (Kd.C_below hC hb)
  have hfo := Lib.hid fun W (hb : Below w.heap.size w W) j (hj : j < l.length) v VA vc hV r hr => rforged_any A c l j (Nat.le_of_lt hj) hps v VA vc W (Kd.C_below hC hb) hV r hr
  have hab := Lib.hid fun W (hb : Below w.heap.size w W) v VA vc r hr => raborted_any A c l v VA vc W (Kd.C_below hC hb) r hr
  have hto := Lib.hid fun W (hb : Below w.heap.size w W) j (hj : j < l.length) v VA vc hv => rtorn_any A c l j hj v VA vc hv W (Kd.C_below hC hb)
  have hlo := Lib.hid fun W (hb : Below w.heap.size w W) j (hj : j < l.length) v VA vc hv => rlost_any A c l j (Nat.le_of_lt hj) v VA vc hv W (Kd.C_below hC hb)
  replace hC := Lib.hid hC
  replace hpr := Lib.hid hpr
  go_enter Tryz.func27, Tryz.ntmps27
  go_wp2_with (first | (go_at_call 26; refine hpr.out.mono ?_; rintro e W1 ⟨rfl, hb1⟩; replace hb1 := Lib.hid hb1) | go_in)
  go_loopw [4, 5] (fun s4 s5 wr => RelJd w l s4 s5 wr) (fun _ s5 _ => l.length - (intOf s5).toNat)
  case atStart => exact ⟨0, Nat.zero_le _, rfl, [], OwnRow.none_ _ _ _ _ _, fun r => ⟨fun ⟨f, hf, _⟩ => (by cases hf), fun h => absurd h (ruleN_zero l r)⟩, Nat.le_refl _, hb1.out⟩
  case round =>
    clear hb1
    obtain ⟨j, hj, rfl, L, hO, hR, hLn, hB⟩ := hrel
    by_cases hlt : j < l.length
    · obtain ⟨ad, A4, c4, A5, c5, A9, c9, rfl, r0, -, -, -, -, -, -, r7, -, r9, -, -, hk9⟩ := evt_at hC.out hlt
      have q0 := pw_cell_below hB r0
      have q7 := pw_cell_below hB r7
      have q9 := pw_cell_below hB r9
      have hq9 := Lib.hid fun (W : World) (hb : Below w.heap.size w W) => And.intro (pw_cell_below hb r9) (Kd.C_below hk9 hb)
      clear r0 r7 r9 hk9
      have a1 : IntKind.i64.wrap ((j : Int) + 1) = (j : Int) + 1 := IntWalk.i64_in _ (by omega)
      have hvl := hvs j hlt
      by_cases k3 : l[j].f0 = 3 ∧ l[j].f6.f1 = 1
      · obtain ⟨e3, e1⟩ := k3
        obtain ⟨p, hp, hpj, hrq0, hcc, htt, hwt, hrd⟩ := H.req j hlt e3
        have hfx : fidx (reqB l[j]) (l.take j) = (p : Int) := fidx_take hpj hp (reqB_iff.2 ⟨hrq0, hcc, htt⟩) fun t htl htp => by
          rw [← Bool.not_eq_true, reqB_iff]
          rintro ⟨b1, b2, b3⟩
          have := H.uniq htl hp b1 hrq0 (b2.trans hcc.symm) (b3.trans htt.symm)
          omega
        have hca := hrq.out wr hB j hlt
        rw [hfx] at hca
        obtain ⟨ad', B4, d4, B5, d5, B9, d9, he, g0, g1, g2, g3, g4, g5, g6, g7, g8, g9, hK', hl9', hk9'⟩ := evt_at (Kd.C_below hC.out hB) hp
        cases he
        have hg0 := Lib.hid fun (W : World) (hb : Below wr.heap.size wr W) => pw_cell_below hb g0
        clear g0 g1 g2 g3 g4 g5 g6 g7 g8 g9 hK' hl9' hk9'
        have c0 : (l[j].f0 != 3) = false := by rw [e3]; rfl
        have c1 : (l[j].f6.f1 != 1) = false := by rw [e1]; rfl
        have hBs := Lib.hid fun (W : World) (hb : Below wr.heap.size wr W) => And.intro (below_then hB hB.size hb) (hO.below hb)
        by_cases hk1 : l[p].f0 = 1
        · have hem : l[j].f6.f3 = [] := by
            have := hwt hk1
            unfold writtenB at this
            split at this
            · cases this
            · exact List.eq_nil_of_length_eq_zero (by omega)
          have hR2 := Lib.hid fun r => (hR r).trans (ruleN_skip hlt hem r).symm
          have hLn2 := Lib.hid (show L.length ≤ 4096 * (j + 1) by omega)
          have c2 : (l[p].f0 != 2) = true := by rw [hk1]; rfl
          clear hR hLn hq9 q9 hrq hvl hwt hrd hO hB
          generalize l[p] = y at *
          generalize l[j] = x at *
          replace hem := Lib.hid hem
          replace hca := Lib.hid hca
          replace hfx := Lib.hid hfx
          replace hk1 := Lib.hid hk1
          replace e3 := Lib.hid e3
          replace e1 := Lib.hid e1
          go_wp2_with (first | (go_at_call 46; refine hca.out.mono ?_; rintro e W3 ⟨rfl, hb3⟩; have hB3 := Lib.hid (hBs.out _ hb3); have z0 := hg0.out W3 hb3; clear hb3) | go_in)
          go_roundw
          case rel => exact ⟨j + 1, by omega, by go_num, L, hB3.out.2, hR2.out, hLn2.out, hB3.out.1⟩
          case measure => simp [intOf]; omega
        · have k2 : l[p].f0 = 2 := by
            rcases (proper_in hpb p hp).1 with h | h | h
            · exact absurd h hk1
            · exact h
            · exact absurd h hrq0
          have c2 : (l[p].f0 != 2) = false := by rw [k2]; rfl
          have hnx := Lib.hid fun r => ruleN_next hlt e3 hfx r
          have hjm : j ≤ 1048576 := by omega
          clear q9 hrq hwt hrd hO hB k2 hk1 hrq0 hcc htt
          replace hca := Lib.hid hca
          replace hfx := Lib.hid hfx
          replace e3 := Lib.hid e3
          replace e1 := Lib.hid e1
          replace hR := Lib.hid hR
          have hvm : l[j].f6.f3.length ≤ 9223372036854775807 := by omega
          go_wp2_with (first | (go_at_call 46; refine hca.out.mono ?_; rintro e W3 ⟨rfl, hb3⟩; have hB3 := Lib.hid (hBs.out _ hb3); have z0 := hg0.out W3 hb3; clear hb3) | go_in)
          clear z0 c0 c1 c2 q0 q7 hca hBs
          go_loopw [4, 7] (fun s4 s7 wr => RelJk w l j p l[j].f6.f3 s4 s7 wr) (fun _ s7 _ => l[j].f6.f3.length - (intOf s7).toNat)
          case atStart => exact ⟨0, Nat.zero_le _, rfl, L, hB3.out.2, fun r => (hR.out r).trans ⟨.inl, fun h => h.elim id fun ⟨t, _, h, _⟩ => absurd h (Nat.not_lt_zero t)⟩, by omega, hB3.out.1⟩
          case round =>
            clear hB3 hR hLn L
            obtain ⟨k, hk, rfl, L, hO, hR, hLn, hB⟩ := hrel
            obtain ⟨q9, hk9⟩ := hq9.out _ hB
            by_cases hkl : k < l[j].f6.f3.length
            · obtain ⟨av, A3, c3, hav, z0, z1, z2, z3, hx1, hx2⟩ := ver_at hk9 hkl
              obtain rfl := hav
              have hkm : k ≤ 1024 := by omega
              have a1 : IntKind.i64.wrap ((k : Int) + 1) = (k : Int) + 1 := IntWalk.i64_in _ (by omega)
              have hk2 := fun r => ruleK_next (l := l) (i := j) (p := p) hkl r
              obtain ⟨v, hv⟩ : ∃ v, v = l[j].f6.f3[k] := ⟨_, rfl⟩
              have hvn : 0 ≤ v.f1 := by rw [hv]; exact hv0 j hlt _ (List.getElem_mem hkl)
              rw [← hv] at z0 z1 z2 z3 hx1 hx2 hk2
              replace hk2 := Lib.hid hk2
              have hbe : Below wr.heap.size wr (wr.alloc (.cells #[.string v.f0, .int .u64 v.f1, .string v.f2, .slice A3 v.f3.length c3] 49)) := below_alloc (Below.refl _ _) _
              have hX := heap_alloc_new wr (.cells #[.string v.f0, .int .u64 v.f1, .string v.f2, .slice A3 v.f3.length c3] 49)
              have hq2 := Lib.hid (pw_cell_below hbe q9)
              obtain ⟨N, hN⟩ : ∃ N, N = 4096 * j + 4 * k := ⟨_, rfl⟩
              have hNle : N ≤ 4096 * j + 4 * k := by omega
              have hNge : 4096 * j + 4 * k ≤ N := by omega
              obtain ⟨P0, hP0⟩ : ∃ P0 : Int → Prop, ∀ r, P0 r ↔ (RuleN l j r ∨ RuleK l j p l[j].f6.f3 k r) := ⟨_, fun _ => Iff.rfl⟩
              have CJ : CutJ w wr.heap.size #[.string v.f0, .int .u64 v.f1, .string v.f2, .slice A3 v.f3.length c3] N P0 _ (wr.alloc (.cells #[.string v.f0, .int .u64 v.f1, .string v.f2, .slice A3 v.f3.length c3] 49)) := ⟨L, hO.below hbe, fun r => (hR r).trans (hP0 r).symm, by omega, below_then hB hB.size hbe, hX⟩
              replace CJ := Lib.hid CJ
              replace hP0 := Lib.hid hP0
              obtain ⟨fb1, hfb1⟩ : ∃ b : Bool, b = true ↔ ForgP l j v := bool_of _
              obtain ⟨fb2, hfb2⟩ : ∃ b : Bool, b = true ↔ AbP l v.f1 := bool_of _
              have hca := Lib.hid (hfo.out _ (below_then hB hB.size hbe) j hlt v A3 c3 (Kd.C_below hx2 hbe) fb1 hfb1)
              have hab2 := Lib.hid fun W hb => hab.out W hb v A3 c3 fb2 hfb2
              have hto2 := Lib.hid fun W hb => hto.out W hb j hlt v A3 c3 hvn
              have hlo2 := Lib.hid fun W hb => hlo.out W hb p hp v A3 c3 hvn
              replace hfb1 := Lib.hid hfb1
              replace hfb2 := Lib.hid hfb2
              replace hv := Lib.hid hv
              replace hN := Lib.hid hN
              clear hX hbe hO hR hLn hB L hk9 hx1 hx2
              go_upto_region 14 with (fail)
              clear z0 z1 z2 z3 q9
              generalize wr.alloc (.cells #[.string v.f0, .int .u64 v.f1, .string v.f2, .slice A3 v.f3.length c3] 49) = W0 at *
              generalize wr.heap.size = E0 at *
              obtain ⟨L, hO, hR, hLn, hB, hX⟩ := CJ.out
              have e0 := blk_cell hX 0
              have e1 := blk_cell hX 1
              have e2 := blk_cell hX 2
              have e3 := blk_cell hX 3
              have lX := blk_lt hX
              simp only [List.getElem?_toArray, List.getElem?_cons_zero, List.getElem?_cons_succ] at e0 e1 e2 e3
              have hbw := Lib.hid hB
              clear L hO hR hLn hB hX
              go_upto_if 67 with (first | (go_at_call 47; refine hca.out.mono ?_; rintro e W1 ⟨rfl, hb1⟩; have CJ := Lib.hid (CJ.out.below hb1); clear hb1) | go_in)
              clear e0 e1 e2 e3 lX hbw hca
              go_cut [4] (fun s4 wx => CutJ w E0 #[.string v.f0, .int .u64 v.f1, .string v.f2, .slice A3 v.f3.length c3] (N + 1) (fun r => (P0 r ∨ (r = 1 ∧ ForgP l j v))) s4 wx)
              case first =>
                cases hfb : fb1
                · have hq : Hid (¬ ForgP l j v) := Lib.hid fun h => by have := hfb1.out.2 h; rw [hfb] at this; cases this
                  replace hfb := Lib.hid hfb
                  go_wp2
                  go_meet
                  exact CJ.out.skip 1 hq.out
                · have hq := Lib.hid (hfb1.out.1 hfb)
                  replace hfb := Lib.hid hfb
                  obtain ⟨L, hO, hR, hLn, hB, hX⟩ := CJ.out
                  have nX := Lib.hid (hO.ne_block hX (by decide))
                  obtain ⟨LA, lc, rfl⟩ := slice_of hO rfl
                  have e0 := blk_cell hX 0
                  have e1 := blk_cell hX 1
                  have lX := blk_lt hX
                  simp only [List.getElem?_toArray, List.getElem?_cons_zero, List.getElem?_cons_succ] at e0 e1
                  have h5 := Lib.hid (put_room hLn (by omega) hjm hkm)
                  have hone := Lib.hid (oneF ⟨j, 1, v.f0, v.f1, 0⟩)
                  have hln := Lib.hid (show (L ++ [(⟨j, 1, v.f0, v.f1, 0⟩ : Fnd)]).length = L.length + 1 by simp)
                  replace hO := Lib.hid hO
                  replace hR := Lib.hid hR
                  replace hLn := Lib.hid hLn
                  replace hB := Lib.hid hB
                  replace hX := Lib.hid hX
                  clear CJ
                  go_wp2_with (first
                    | (at_builtin; refine append_plain (P := Tryz.prog) (R := FR) (w0 := w) (W := W1) w.heap.size rfl (.tmp 68) (.tmp 75) 58 62 (.agg #[.int .i64 0, .int .i64 0, .string ByteArray.empty, .int .u64 0, .int .u64 0]) 5 48 rfl Tryz.underlying58 infoFd rfl (by decide) (by decide) (.slice LA L.length lc) L ⟨j, 1, v.f0, v.f1, 0⟩ [.int .i64 j, .int .i64 1, .string v.f0, .int .u64 v.f1, .int .u64 0] rfl (by simp [Act.eval]) rfl rfl (by exact hone.out) (by exact hO.out) (by exact hB.out) (by exact hB.out.size) (by exact h5.out) (L.length + 1) (by exact hln.out) ?_; intro A7 c7 W7 own7 bel7 gr7; have hX7 := Lib.hid (blk_grown hX.out gr7 nX.out); replace own7 := Lib.hid own7; replace bel7 := Lib.hid bel7; clear gr7)
                    | go_in)
                  go_meet
                  exact CutJ.put own7.out hR.out hLn.out bel7.out hX7.out 1 rfl hq.out
              case rest =>
                clear CJ
                have CJ := Lib.hid hcut
                clear hcut
                obtain ⟨L, hO, hR, hLn, hB, hX⟩ := CJ.out
                have e0 := blk_cell hX 0
                have e1 := blk_cell hX 1
                have e2 := blk_cell hX 2
                have e3 := blk_cell hX 3
                have lX := blk_lt hX
                simp only [List.getElem?_toArray, List.getElem?_cons_zero, List.getElem?_cons_succ] at e0 e1 e2 e3
                have hbw := Lib.hid hB
                clear L hO hR hLn hB hX
                have hca := Lib.hid (hab2.out _ hbw.out)
                go_upto_if 79 with (first | (go_at_call 48; refine hca.out.mono ?_; rintro e W2 ⟨rfl, hb2⟩; have CJ := Lib.hid (CJ.out.below hb2); clear hb2) | go_in)
                clear e0 e1 e2 e3 lX hbw hca
                go_cut [4] (fun s4 wx => CutJ w E0 #[.string v.f0, .int .u64 v.f1, .string v.f2, .slice A3 v.f3.length c3] (N + 2) (fun r => ((P0 r ∨ (r = 1 ∧ ForgP l j v)) ∨ (r = 2 ∧ AbP l v.f1))) s4 wx)
                case first =>
                  cases hfb : fb2
                  · have hq : Hid (¬ AbP l v.f1) := Lib.hid fun h => by have := hfb2.out.2 h; rw [hfb] at this; cases this
                    replace hfb := Lib.hid hfb
                    go_wp2
                    go_meet
                    exact CJ.out.skip 2 hq.out
                  · have hq := Lib.hid (hfb2.out.1 hfb)
                    replace hfb := Lib.hid hfb
                    obtain ⟨L, hO, hR, hLn, hB, hX⟩ := CJ.out
                    have nX := Lib.hid (hO.ne_block hX (by decide))
                    obtain ⟨LA, lc, rfl⟩ := slice_of hO rfl
                    have e0 := blk_cell hX 0
                    have e1 := blk_cell hX 1
                    have lX := blk_lt hX
                    simp only [List.getElem?_toArray, List.getElem?_cons_zero, List.getElem?_cons_succ] at e0 e1
                    have h5 := Lib.hid (put_room hLn (by omega) hjm hkm)
                    have hone := Lib.hid (oneF ⟨j, 2, v.f0, v.f1, 0⟩)
                    have hln := Lib.hid (show (L ++ [(⟨j, 2, v.f0, v.f1, 0⟩ : Fnd)]).length = L.length + 1 by simp)
                    replace hO := Lib.hid hO
                    replace hR := Lib.hid hR
                    replace hLn := Lib.hid hLn
                    replace hB := Lib.hid hB
                    replace hX := Lib.hid hX
                    clear CJ
                    go_wp2_with (first
                      | (at_builtin; refine append_plain (P := Tryz.prog) (R := FR) (w0 := w) (W := W2) w.heap.size rfl (.tmp 80) (.tmp 87) 58 62 (.agg #[.int .i64 0, .int .i64 0, .string ByteArray.empty, .int .u64 0, .int .u64 0]) 5 48 rfl Tryz.underlying58 infoFd rfl (by decide) (by decide) (.slice LA L.length lc) L ⟨j, 2, v.f0, v.f1, 0⟩ [.int .i64 j, .int .i64 2, .string v.f0, .int .u64 v.f1, .int .u64 0] rfl (by simp [Act.eval]) rfl rfl (by exact hone.out) (by exact hO.out) (by exact hB.out) (by exact hB.out.size) (by exact h5.out) (L.length + 1) (by exact hln.out) ?_; intro A7 c7 W7 own7 bel7 gr7; have hX7 := Lib.hid (blk_grown hX.out gr7 nX.out); replace own7 := Lib.hid own7; replace bel7 := Lib.hid bel7; clear gr7)
                      | go_in)
                    go_meet
                    exact CutJ.put own7.out hR.out hLn.out bel7.out hX7.out 2 rfl hq.out
                case rest =>
                  clear CJ
                  have CJ := Lib.hid hcut
                  clear hcut
                  obtain ⟨L, hO, hR, hLn, hB, hX⟩ := CJ.out
                  have e0 := blk_cell hX 0
                  have e1 := blk_cell hX 1
                  have e2 := blk_cell hX 2
                  have e3 := blk_cell hX 3
                  have lX := blk_lt hX
                  simp only [List.getElem?_toArray, List.getElem?_cons_zero, List.getElem?_cons_succ] at e0 e1 e2 e3
                  have hbw := Lib.hid hB
                  clear L hO hR hLn hB hX
                  have hca := Lib.hid (hto2.out _ hbw.out)
                  go_upto_if 94 with (first | (go_at_call 49; refine hca.out.mono ?_; rintro e W3 ⟨m3, rfl, hm3, hmi3, hb3⟩; have CJ := Lib.hid (CJ.out.below hb3); replace hmi3 := Lib.hid hmi3; clear hb3) | go_in)
                  clear e0 e1 e2 e3 lX hbw hca
                  go_cut [4] (fun s4 wx => CutJ w E0 #[.string v.f0, .int .u64 v.f1, .string v.f2, .slice A3 v.f3.length c3] (N + 3) (fun r => (((P0 r ∨ (r = 1 ∧ ForgP l j v)) ∨ (r = 2 ∧ AbP l v.f1)) ∨ (r = 3 ∧ ∃ t, ∃ ht : t < l[j].f6.f3.length, TornP l j v.f0 v.f1 l[j].f6.f3[t]))) s4 wx)
                  case first =>
                    by_cases hfb : 0 < m3
                    · have hq := Lib.hid (hmi3.out.1 hfb)
                      have c0 : decide (0 < m3) = true := decide_eq_true hfb
                      obtain ⟨L, hO, hR, hLn, hB, hX⟩ := CJ.out
                      have nX := Lib.hid (hO.ne_block hX (by decide))
                      obtain ⟨LA, lc, rfl⟩ := slice_of hO rfl
                      have e0 := blk_cell hX 0
                      have e1 := blk_cell hX 1
                      have lX := blk_lt hX
                      simp only [List.getElem?_toArray, List.getElem?_cons_zero, List.getElem?_cons_succ] at e0 e1
                      have h5 := Lib.hid (put_room hLn (by omega) hjm hkm)
                      have hone := Lib.hid (oneF ⟨j, 3, v.f0, v.f1, m3⟩)
                      have hln := Lib.hid (show (L ++ [(⟨j, 3, v.f0, v.f1, m3⟩ : Fnd)]).length = L.length + 1 by simp)
                      replace hO := Lib.hid hO
                      replace hR := Lib.hid hR
                      replace hLn := Lib.hid hLn
                      replace hB := Lib.hid hB
                      replace hX := Lib.hid hX
                      clear CJ
                      go_wp2_with (first
                        | (at_builtin; refine append_plain (P := Tryz.prog) (R := FR) (w0 := w) (W := W3) w.heap.size rfl (.tmp 95) (.tmp 103) 58 62 (.agg #[.int .i64 0, .int .i64 0, .string ByteArray.empty, .int .u64 0, .int .u64 0]) 5 48 rfl Tryz.underlying58 infoFd rfl (by decide) (by decide) (.slice LA L.length lc) L ⟨j, 3, v.f0, v.f1, m3⟩ [.int .i64 j, .int .i64 3, .string v.f0, .int .u64 v.f1, .int .u64 m3] rfl (by simp [Act.eval]) rfl rfl (by exact hone.out) (by exact hO.out) (by exact hB.out) (by exact hB.out.size) (by exact h5.out) (L.length + 1) (by exact hln.out) ?_; intro A7 c7 W7 own7 bel7 gr7; have hX7 := Lib.hid (blk_grown hX.out gr7 nX.out); replace own7 := Lib.hid own7; replace bel7 := Lib.hid bel7; clear gr7)
                        | go_in)
                      go_meet
                      exact CutJ.put own7.out hR.out hLn.out bel7.out hX7.out 3 rfl hq.out
                    · have hq := Lib.hid fun h => hfb (hmi3.out.2 h)
                      have c0 : decide (0 < m3) = false := decide_eq_false hfb
                      go_wp2
                      go_meet
                      exact CJ.out.skip 3 hq.out
                  case rest =>
                    clear CJ
                    have CJ := Lib.hid hcut
                    clear hcut
                    obtain ⟨L, hO, hR, hLn, hB, hX⟩ := CJ.out
                    have e0 := blk_cell hX 0
                    have e1 := blk_cell hX 1
                    have e2 := blk_cell hX 2
                    have e3 := blk_cell hX 3
                    have lX := blk_lt hX
                    simp only [List.getElem?_toArray, List.getElem?_cons_zero, List.getElem?_cons_succ] at e0 e1 e2 e3
                    have hbw := Lib.hid hB
                    clear L hO hR hLn hB hX
                    have hca := Lib.hid (hlo2.out _ hbw.out)
                    go_upto_if 110 with (first | (go_at_call 50; refine hca.out.mono ?_; rintro e W4 ⟨m4, rfl, hm4, hmi4, hb4⟩; have CJ := Lib.hid (CJ.out.below hb4); replace hmi4 := Lib.hid hmi4; clear hb4) | go_in)
                    clear e0 e1 e2 e3 lX hbw hca
                    by_cases hfb : 0 < m4
                    · have hq := Lib.hid (hmi4.out.1 hfb)
                      have c0 : decide (0 < m4) = true := decide_eq_true hfb
                      obtain ⟨L, hO, hR, hLn, hB, hX⟩ := CJ.out
                      have nX := Lib.hid (hO.ne_block hX (by decide))
                      obtain ⟨LA, lc, rfl⟩ := slice_of hO rfl
                      have e0 := blk_cell hX 0
                      have e1 := blk_cell hX 1
                      have lX := blk_lt hX
                      simp only [List.getElem?_toArray, List.getElem?_cons_zero, List.getElem?_cons_succ] at e0 e1
                      have h5 := Lib.hid (put_room hLn (by omega) hjm hkm)
                      have hone := Lib.hid (oneF ⟨j, 4, v.f0, v.f1, m4⟩)
                      have hln := Lib.hid (show (L ++ [(⟨j, 4, v.f0, v.f1, m4⟩ : Fnd)]).length = L.length + 1 by simp)
                      replace hO := Lib.hid hO
                      replace hR := Lib.hid hR
                      replace hLn := Lib.hid hLn
                      replace hB := Lib.hid hB
                      replace hX := Lib.hid hX
                      clear CJ
                      go_wp2_with (first
                        | (at_builtin; refine append_plain (P := Tryz.prog) (R := FR) (w0 := w) (W := W4) w.heap.size rfl (.tmp 111) (.tmp 119) 58 62 (.agg #[.int .i64 0, .int .i64 0, .string ByteArray.empty, .int .u64 0, .int .u64 0]) 5 48 rfl Tryz.underlying58 infoFd rfl (by decide) (by decide) (.slice LA L.length lc) L ⟨j, 4, v.f0, v.f1, m4⟩ [.int .i64 j, .int .i64 4, .string v.f0, .int .u64 v.f1, .int .u64 m4] rfl (by simp [Act.eval]) rfl rfl (by exact hone.out) (by exact hO.out) (by exact hB.out) (by exact hB.out.size) (by exact h5.out) (L.length + 1) (by exact hln.out) ?_; intro A7 c7 W7 own7 bel7 gr7; have hX7 := Lib.hid (blk_grown hX.out gr7 nX.out); replace own7 := Lib.hid own7; replace bel7 := Lib.hid bel7; clear gr7)
                        | go_in)
                      have CJ4 : Hid (CutJ w E0 #[.string v.f0, .int .u64 v.f1, .string v.f2, .slice A3 v.f3.length c3] (N + 4) (fun r => ((((P0 r ∨ (r = 1 ∧ ForgP l j v)) ∨ (r = 2 ∧ AbP l v.f1)) ∨ (r = 3 ∧ ∃ t, ∃ ht : t < l[j].f6.f3.length, TornP l j v.f0 v.f1 l[j].f6.f3[t])) ∨ (r = 4 ∧ ∃ t, t < p ∧ LostP l p v.f0 v.f1 t))) (.slice A7 (L.length + 1) c7) W7) := Lib.hid (CutJ.put own7.out hR.out hLn.out bel7.out hX7.out 4 rfl hq.out)
                      clear hR hLn hO hB hX own7 bel7 hX7
                      obtain ⟨L4, hO4, hR4, hLn4, hB4, -⟩ := CJ4.out
                      replace hO4 := Lib.hid hO4
                      replace hR4 := Lib.hid hR4
                      replace hB4 := Lib.hid hB4
                      clear CJ4
                      skip
                      go_roundw
                      case rel => exact ⟨k + 1, by omega, by go_num, L4, hO4.out, fun r => (hR4.out r).trans ((brk_sum r (P0 r)).trans (by rw [hP0.out r, hk2.out r]; exact or_assoc)), by omega, hB4.out⟩
                      case measure => simp [intOf]; omega
                    · have hq := Lib.hid fun h => hfb (hmi4.out.2 h)
                      have c0 : decide (0 < m4) = false := decide_eq_false hfb
                      have CJ4 : Hid (CutJ w E0 #[.string v.f0, .int .u64 v.f1, .string v.f2, .slice A3 v.f3.length c3] (N + 4) (fun r => ((((P0 r ∨ (r = 1 ∧ ForgP l j v)) ∨ (r = 2 ∧ AbP l v.f1)) ∨ (r = 3 ∧ ∃ t, ∃ ht : t < l[j].f6.f3.length, TornP l j v.f0 v.f1 l[j].f6.f3[t])) ∨ (r = 4 ∧ ∃ t, t < p ∧ LostP l p v.f0 v.f1 t))) _ W4) := Lib.hid (CJ.out.skip 4 hq.out)
                      clear CJ
                      obtain ⟨L4, hO4, hR4, hLn4, hB4, -⟩ := CJ4.out
                      replace hO4 := Lib.hid hO4
                      replace hR4 := Lib.hid hR4
                      replace hB4 := Lib.hid hB4
                      clear CJ4
                      go_wp2
                      go_roundw
                      case rel => exact ⟨k + 1, by omega, by go_num, L4, hO4.out, fun r => (hR4.out r).trans ((brk_sum r (P0 r)).trans (by rw [hP0.out r, hk2.out r]; exact or_assoc)), by omega, hB4.out⟩
                      case measure => simp [intOf]; omega
            · obtain rfl : k = l[j].f6.f3.length := by omega
              have hR2 := Lib.hid fun r => (hR r).trans (hnx.out r).symm
              have hL2 : L.length ≤ 4096 * (j + 1) := by omega
              replace hO := Lib.hid hO
              replace hB := Lib.hid hB
              clear hR hLn hk9
              go_wp2
              go_roundw
              case rel => exact ⟨j + 1, by omega, by go_num, L, hO.out, hR2.out, hL2, hB.out⟩
              case measure => simp [intOf]; omega
      · have hem : l[j].f6.f3 = [] := by
          refine Classical.byContradiction fun e => k3 ?_
          have := H.vers hlt e
          exact ⟨this.1, this.2.1⟩
        have hR2 := Lib.hid fun r => (hR r).trans (ruleN_skip hlt hem r).symm
        have hLn2 := Lib.hid (show L.length ≤ 4096 * (j + 1) by omega)
        have c0 : (l[j].f0 != 3) = true ∨ ((l[j].f0 != 3) = false ∧ (l[j].f6.f1 != 1) = true) := by
          by_cases e : l[j].f0 = 3
          · refine .inr ⟨by rw [e]; rfl, ?_⟩
            rw [bne_iff_ne]
            exact fun e2 => k3 ⟨e, e2⟩
          · exact .inl (by rw [bne_iff_ne]; exact e)
        clear hR hLn hq9 q9 hrq hvl
        generalize l[j] = x at *
        replace hem := Lib.hid hem
        replace hO := Lib.hid hO
        replace hB := Lib.hid hB
        replace k3 := Lib.hid k3
        rcases c0 with c0 | ⟨c0, c1⟩
        all_goals
          go_wp2
          go_roundw
          case rel => exact ⟨j + 1, by omega, by go_num, L, hO.out, hR2.out, hLn2.out, hB.out⟩
          case measure => simp [intOf]; omega
    · obtain rfl : j = l.length := by omega
      obtain ⟨LA, lc, rfl⟩ := slice_of hO rfl
      have hRo := Lib.hid (RowC.own hO).1
      have hR2 := Lib.hid fun r => (hR r).trans (ruleN_all l r)
      replace hB := Lib.hid hB
      clear hO hR hrq
      go_wp2
      go_ret2
      exact ⟨LA, lc, L, rfl, hRo.out, hR2.out, hB.out⟩
end Go.Proofs.YtiibjgnmdieicaaGreat.Hist
