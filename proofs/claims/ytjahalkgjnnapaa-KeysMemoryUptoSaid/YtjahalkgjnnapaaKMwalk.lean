/- KeysMemory: walked call by call; each callee by its contract and what the plain law says that it answers. -/
import Derived.Test.YtjahalkgjnnapaaRows
import Derived.Test.YtjahalkgjnnapaaKMc
namespace Go.Proofs.Ytjahalkgjnnapaa.keysMemory
open Go.RowKit Go.Proofs.YtjahalkgjnnapaaW.PrintWords
set_option maxHeartbeats 16000000 in
set_option maxRecDepth 100000 in
theorem walk0 (A_p : Option Addr) (c_p : Nat) (p : List ByteArray) (A_q : Option Addr) (c_q : Nat) (q : List ByteArray) (w : World) (hp : Ct w A_p p) (hc_p : p.length ≤ c_p) (hq : Ct w A_q q) (hc_q : q.length ≤ c_q) (hps : ∀ x, x ∈ p → x.size ≤ 1048576) :
    Calls Try.prog 7 #[.slice A_p p.length c_p, .slice A_q q.length c_q] w fun e w' => e = .returned (.bool true) ∧ Below w.heap.size w w' := by
  obtain ⟨a, ea, ra, na, ma⟩ := G.once_ev' p
  obtain ⟨b, eb, rb, nb, _⟩ := G.once_ev' q
  obtain ⟨a1, h1, r1, n1, n1', m1⟩ := a1_of a ra na
  have hsz : Hid (∀ x, x ∈ a1 → x.size ≤ 1048576) := fun x hx => by
    rcases m1 x hx with h | rfl
    · exact hps x (ma x h)
    · decide
  obtain ⟨_, hal⟩ := get_hid G.alive_ev rfl
  obtain ⟨_, ha⟩ := get_hid ea rfl
  obtain ⟨_, hb⟩ := get_hid eb rfl
  replace ra := Lib.hid ra
  replace rb := Lib.hid rb
  replace r1 := Lib.hid r1
  have HP : Hid (Ct w A_p p) := hp
  have HQ : Hid (Ct w A_q q) := hq
  clear hp hq ea eb m1 ma hps
  go_enter Try.func7, Try.ntmps7
  go_wp2_with fail
  refine (G.rampartlaw04_alive.calls _ _ _ hal.out).mono ?_
  rintro e W1 ⟨rfl, hb1⟩
  replace hb1 := Lib.hid hb1
  go_wp2_with fail
  refine (G.rampartlaw04_once.calls _ _ _ p a _ (Kd.C_below HP.out hb1.out) hc_p ha.out).mono ?_
  rintro e W2 ⟨v, rfl, hV, hb2⟩
  obtain ⟨A_a, c_a, rfl, hc_a, hCa⟩ := Kd.R_reads hV
  have HB2 := Lib.hid (hb1.out.trans (hb2.mono hb1.out.size))
  replace hCa := Lib.hid hCa
  clear hV hb2 hb1
  go_wp2_with fail
  refine (G.rampartlaw04_once.calls _ _ _ q b _ (Kd.C_below HQ.out HB2.out) hc_q hb.out).mono ?_
  rintro e W3 ⟨v, rfl, hV, hb3⟩
  obtain ⟨A_b, c_b, rfl, hc_b, hCb⟩ := Kd.R_reads hV
  have HB3 := Lib.hid (HB2.out.trans (hb3.mono HB2.out.size))
  have hCa3 := Lib.hid (Kd.C_below hCa.out hb3)
  replace hCb := Lib.hid hCb
  clear hV hb3 HB2 hCa HP HQ hal ha hb
  replace h1 := Lib.hid h1
  go_upto_if 46 with (fail)
  go_cut [6] (fun s6 wx => Cut6 w W3 a1 A_b b s6 wx)
  case first =>
    by_cases h0 : a.length = 0
    · have e1 : a1 = [sk] := by rw [h1.out, if_pos h0]
      have hz : ((a.length : Int) == 0) = true := by rw [beq_iff_eq]; omega
      replace e1 := Lib.hid e1
      replace h0 := Lib.hid h0
      go_wp2
      go_meet
      have e1 := e1.out
      subst e1
      have hb4 : Below W3.heap.size W3 (W3.alloc (.cells #[.string sk] 9)) := (Below.refl _ _).alloc (Nat.le_refl _) _
      exact ⟨_, 1, rfl, Nat.le_refl _, C_new W3 [sk] (by decide), Kd.C_below hCb.out hb4, HB3.out.trans (hb4.mono HB3.out.size), hb4⟩
    · have e1 : a1 = a := by rw [h1.out, if_neg h0]
      have hz : ((a.length : Int) == 0) = false := by rw [beq_eq_false_iff_ne]; omega
      replace e1 := Lib.hid e1
      go_wp2
      go_meet
      have e1 := e1.out
      subst e1
      exact ⟨_, _, rfl, hc_a, hCa3.out, hCb.out, HB3.out, Below.refl _ _⟩
  case rest =>
    obtain ⟨A_1, c_1, rfl, hc_1, hC1, hCb4, HB4, _⟩ := hcut
    clear HB3 hCa3 hCb h1 hc_a ra
    replace hC1 := Lib.hid hC1
    replace hCb4 := Lib.hid hCb4
    replace HB4 := Lib.hid HB4
    go_wp2_with fail
    refine (G.rampartlaw04_own.calls _ _ a1 a1 _ hC1.out hc_1 (G.own_some a1 (by omega))).mono ?_
    rintro e Wo ⟨v2, rfl, hV, hb⟩
    have hCt : Hid (Ct (Wo.alloc (.cells #[.string t1, .string t2] 9)) (some ⟨Wo.heap.size, 0, none⟩) [t1, t2]) := C_new Wo [t1, t2] (by decide)
    have hbA : Below Wo.heap.size Wo (Wo.alloc (.cells #[.string t1, .string t2] 9)) := (Below.refl _ _).alloc (Nat.le_refl _) _
    have hV2 := Lib.hid (Kd.R_below hV hbA)
    have hbW := Lib.hid (hb.trans (hbA.mono hb.size))
    have h16 : (a1.length + 2) * 16 ≤ 140737488355328 := by omega
    replace hb := Lib.hid hb
    replace hbA := Lib.hid hbA
    clear hV
    go_wp2_with (at_builtin; refine Kd.R_append_row (P := Try.prog) Value.string ByteArray.empty (w0 := wc) wc.heap.size rfl (.tmp 51) (.tmp 52) 22 9 (.string ByteArray.empty) 16 rfl Try.underlying22 Hand.info9 rfl (by omega) v2 a1 [t1, t2] (some ⟨Wo.heap.size, 0, none⟩) 2 2 (fun _ => True) rfl rfl (fun _ _ => trivial) hV2.out hCt.out hbW.out hbW.out.size h16 ?_; intro v3 Wf hR3 hb3 _ _; have hO3 : Rws.Own Wf wc.heap.size (v3, a1 ++ [t1, t2]) := Kd.own_of_R hR3; obtain ⟨F, cF, e3, hcF, hFw, hFf, _, _⟩ := hO3.at (k := 0) (by simp); rw [show (v3, a1 ++ [t1, t2]).2.length = a1.length + 2 from by simp] at e3 hcF; have e3 : v3 = .slice (some ⟨F, 0, none⟩) (a1.length + 2) cF := e3; subst e3; clear hR3; replace hb3 := Lib.hid hb3; replace hO3 := Lib.hid hO3)
    have hC1f := Lib.hid (Kd.C_below hC1.out (hb3.out))
    have hCbf := Lib.hid (Kd.C_below hCb4.out (hb3.out))
    have HBf := Lib.hid (HB4.out.trans (hb3.out.mono HB4.out.size))
    have hsf := hb3.out.size
    obtain ⟨ad1, e1, had⟩ := at_text hC1.out n1
    have hadb : ad1.block < wc.heap.size := by have := World.block_lt_of_cell? wc _ had; rwa [add_block] at this
    have hww : w.heap.size ≤ wc.heap.size := HB4.out.size
    subst e1
    clear had hC1 hCb4 HB4 hCt hV2 hbW hb hbA h16
    go_loopw [11, 12] (fun s11 s12 wr => RelP wc Wf a1 s11 s12 wr) (fun _ s12 _ => (intOf s12 + 1).toNat)
    case atStart => exact ⟨_, a1.length, 0, rfl, rfl, rfl, Kd.R_nil _ _ _ _ _, Below.refl _ _, hsf⟩
    case round =>
      obtain ⟨vp, i, j, rfl, hij, e12, hR, hB, _⟩ := hrel
      replace hR := Lib.hid hR
      replace hB := Lib.hid hB
      by_cases hi : 0 < i
      · obtain ⟨i, rfl⟩ : ∃ i', i = i' + 1 := ⟨i - 1, by omega⟩
        have e12' : ((i + 1 : Nat) : Int) - 1 = (i : Int) := by omega
        rw [e12'] at e12
        subst e12
        have hil : i < a1.length := by omega
        obtain ⟨ad, e, hcell⟩ := at_text (Kd.C_below hC1f.out hB.out) hil
        obtain rfl : ad1 = ad := by injection e
        obtain ⟨x, hx⟩ : ∃ x, x = a1[i] := ⟨_, rfl⟩
        rw [← hx] at hcell
        have hpl := Lib.hid (pls_len a1 sv (j := j) (by omega))
        have h32 : ((pls a1 sv j).length + 1) * 32 ≤ 140737488355328 := by rw [hpl.out]; omega
        have hsn := Lib.hid (pls_snoc a1 sv hij)
        rw [← hx] at hsn
        replace hx := Lib.hid hx
        replace hij := Lib.hid hij
        clear e e12'
        go_wp2_with (at_builtin; refine Kd.R_append (P := Try.prog) G.k41 (w0 := Wf) Wf.heap.size rfl (.tmp 63) (.tmp 69) 33 41 (.agg #[.string ⟨#[]⟩, .string ⟨#[]⟩]) 32 rfl Try.underlying33 G.info41 rfl (by decide) (by decide) vp (pls a1 sv j) ⟨x, sv⟩ [.string x, .string sv] (fun _ => True) (fun _ => False) rfl rfl (G.k41_mkM _ _ _ _) (fun _ hk => hk.elim) (fun _ _ => trivial) hR.out hB.out hB.out.size h32 ?_; intro v5 W5 hR5 hb5 _ _; replace hR5 := Lib.hid hR5; replace hb5 := Lib.hid hb5)
        go_roundw
        case rel => exact ⟨v5, i, j + 1, rfl, by have := hij.out; omega, rfl, by rw [← hsn.out]; exact hR5.out, hb5.out, hsf⟩
        case measure => simp [intOf]
      · obtain rfl : i = 0 := by omega
        obtain rfl : j = a1.length := by omega
        have e12' : ((0 : Nat) : Int) - 1 = -1 := by omega
        rw [e12'] at e12
        subst e12
        have hpl := Lib.hid (pls_len a1 sv (Nat.le_refl a1.length))
        have h32 : ((pls a1 sv a1.length).length + 1) * 32 ≤ 140737488355328 := by rw [hpl.out]; omega
        clear e12' hij hi
        go_wp2_with (at_builtin; refine Kd.R_append (P := Try.prog) G.k41 (w0 := Wf) Wf.heap.size rfl (.tmp 71) (.tmp 73) 33 41 (.agg #[.string ⟨#[]⟩, .string ⟨#[]⟩]) 32 rfl Try.underlying33 G.info41 rfl (by decide) (by decide) vp (pls a1 sv a1.length) ⟨t3, ⟨#[]⟩⟩ [.string t3, .string ⟨#[]⟩] (fun _ => True) (fun _ => False) rfl rfl (G.k41_mkM _ _ _ _) (fun _ hk => hk.elim) (fun _ _ => trivial) hR.out hB.out hB.out.size h32 ?_; intro v6 Wl hR6 hb6 _ _; obtain ⟨A6, c6, e6, hc6, hC6⟩ := Kd.R_reads hR6; rw [show (pls a1 sv a1.length ++ [(⟨t3, ⟨#[]⟩⟩ : G.S41)]).length = a1.length + 1 from by rw [List.length_append, hpl.out]; rfl] at e6 hc6; subst e6; replace hR6 := Lib.hid hR6; replace hb6 := Lib.hid hb6; replace hC6 := Lib.hid hC6)
        have HF := Lib.hid (hO3.out.below hb6.out)
        have HBl := Lib.hid (HBf.out.trans (hb6.out.mono HBf.out.size))
        obtain ⟨G0, e6, hG0, hG0'⟩ := R41_own hR6.out (by omega)
        subst e6
        have hCin : Hid (Ct Wl (some ⟨F, 0, none⟩) a1) := C_pre (own_C HF.out).2
        have hCgv := Lib.hid (C_pre hC6.out)
        have hCb := Lib.hid (Kd.C_below hCbf.out hb6.out)
        have hC1 := Lib.hid (Kd.C_below hC1f.out hb6.out)
        have hFl : F < Wl.heap.size := by have := hb6.out.size; omega
        have hlf := hb6.out.size
        obtain ⟨gl, hgl⟩ : ∃ x, x = pls a1 sv a1.length := ⟨_, rfl⟩
        rw [← hgl] at hR6 hC6 hCgv hpl
        replace hgl := Lib.hid hgl
        clear HBf hO3 hC1f hCbf hR hB hb6 h32 hC6
        obtain ⟨_, hSo⟩ := get_hid (G.keys_Sorted_ev a1) (show _ = ((G.sortOf a1).1, (G.sortOf a1).2) from rfl)
        obtain ⟨_, hUn⟩ := get_hid (G.keys_Union_ev a1 b (by omega) (by omega)) (show _ = ((G.unionOf a1 b).1, (G.unionOf a1 b).2) from rfl)
        obtain ⟨_, hCo⟩ := get_hid (G.keys_Common_ev a1 b (by omega) (by omega)) (show _ = ((G.someOf a1 b true).1, (G.someOf a1 b true).2) from rfl)
        obtain ⟨_, hMi⟩ := get_hid (G.keys_Minus_ev a1 b (by omega) (by omega)) (show _ = ((G.someOf a1 b false).1, (G.someOf a1 b false).2) from rfl)
        obtain ⟨_, hUz⟩ := get_hid (G.keys_Union_ev b [sz] (by omega) (by decide)) (show _ = ((G.unionOf b [sz]).1, (G.unionOf b [sz]).2) from rfl)
        have hgl3 : gl.length ≤ 100000 := by rw [hpl.out]; omega
        obtain ⟨_, hNo⟩ := get_hid (G.keys_Norm_ev gl hgl3) (show _ = ((G.normOf gl).1, (G.normOf gl).2) from rfl)
        obtain ⟨_, hNa⟩ := get_hid (G.keys_Names_ev gl hgl3) rfl
        have l1 := G.sortOf_length a1
        have l2 := G.unionOf_length a1 b
        have l3 := G.someOf_length a1 b true
        have l4 := G.someOf_length a1 b false
        have l5 : (G.unionOf b [sz]).1.length ≤ b.length + 1 := G.unionOf_length b [sz]
        have l6 : (gl.map (·.f0)).length = a1.length := by rw [List.length_map, hpl.out]
        obtain ⟨x1, hx1⟩ : ∃ x, x = (G.sortOf a1).1 := ⟨_, rfl⟩
        obtain ⟨y1, hy1⟩ : ∃ x, x = (G.sortOf a1).2 := ⟨_, rfl⟩
        rw [← hx1, ← hy1] at hSo
        rw [← hx1] at l1
        clear hx1 hy1
        obtain ⟨x2, hx2⟩ : ∃ x, x = (G.unionOf a1 b).1 := ⟨_, rfl⟩
        obtain ⟨y2, hy2⟩ : ∃ x, x = (G.unionOf a1 b).2 := ⟨_, rfl⟩
        rw [← hx2, ← hy2] at hUn
        rw [← hx2] at l2
        clear hx2 hy2
        obtain ⟨x3, hx3⟩ : ∃ x, x = (G.someOf a1 b true).1 := ⟨_, rfl⟩
        obtain ⟨y3, hy3⟩ : ∃ x, x = (G.someOf a1 b true).2 := ⟨_, rfl⟩
        rw [← hx3, ← hy3] at hCo
        rw [← hx3] at l3
        clear hx3 hy3
        obtain ⟨x4, hx4⟩ : ∃ x, x = (G.someOf a1 b false).1 := ⟨_, rfl⟩
        obtain ⟨y4, hy4⟩ : ∃ x, x = (G.someOf a1 b false).2 := ⟨_, rfl⟩
        rw [← hx4, ← hy4] at hMi
        rw [← hx4] at l4
        clear hx4 hy4
        obtain ⟨x5, hx5⟩ : ∃ x, x = (G.unionOf b [sz]).1 := ⟨_, rfl⟩
        obtain ⟨y5, hy5⟩ : ∃ x, x = (G.unionOf b [sz]).2 := ⟨_, rfl⟩
        rw [← hx5, ← hy5] at hUz
        rw [← hx5] at l5
        clear hx5 hy5
        obtain ⟨x6, hx6⟩ : ∃ x, x = gl.map (·.f0) := ⟨_, rfl⟩
        rw [← hx6] at hNa l6
        obtain ⟨nl, hnl⟩ : ∃ x, x = (G.normOf gl).1 := ⟨_, rfl⟩
        obtain ⟨ny, hny⟩ : ∃ x, x = (G.normOf gl).2 := ⟨_, rfl⟩
        rw [← hnl, ← hny] at hNo
        replace hx6 := Lib.hid hx6
        replace hnl := Lib.hid hnl
        replace l6 := Lib.hid l6
        clear hny
        have cNo : Hid (∀ W, Kd.C G.k41 W (some ⟨G0, 0, none⟩) gl.length gl → Calls Try.prog 25 #[.slice (some ⟨G0, 0, none⟩) a1.length c6] W fun e w' => ∃ v0_ : Value, e = .returned (.tuple #[v0_, .int .i64 ny]) ∧ Kd.R G.k41 41 w' W.heap.size (fun _ => True) v0_ nl ∧ Below W.heap.size W w') := fun W h => by have h2 := G.keys_Norm.calls _ (some ⟨G0, 0, none⟩) c6 gl nl ny W h (by rw [hpl.out]; omega) hNo.out; rw [hpl.out] at h2; exact h2
        have cNa : Hid (∀ W, Kd.C G.k41 W (some ⟨G0, 0, none⟩) gl.length gl → Calls Try.prog 31 #[.slice (some ⟨G0, 0, none⟩) a1.length c6] W fun e w' => ∃ v0_ : Value, e = .returned v0_ ∧ Kd.R Kd.string 9 w' W.heap.size (fun _ => True) v0_ x6 ∧ Below W.heap.size W w') := fun W h => by have h2 := G.keys_Names.calls _ (some ⟨G0, 0, none⟩) c6 gl x6 W h (by rw [hpl.out]; omega) hNa.out; rw [hpl.out] at h2; exact h2
        go_loopw [14, 15, 16] (fun s14 s15 s16 wr => RelK Wl nl s14 s15 s16 wr) (fun _ _ s16 _ => 2 - (intOf s16).toNat)
        case atStart => exact ⟨_, _, 0, [], [], rfl, rfl, by omega, rfl, rfl, rfl, (fun _ h => by cases h), Rws.All.nil _ _, own_nil _ _ _ _, ⟨own_nil _ _ _ _, (fun _ h => by cases h)⟩, Below.refl _ _⟩
        case round =>
          obtain ⟨v14, v15, m, rs, hs, rfl, rfl, hm, e16, hrl, hhl, hle, HA, HO, HN, HB⟩ := hrel
          replace hrl := Lib.hid hrl
          replace hhl := Lib.hid hhl
          replace hle := Lib.hid hle
          replace HA := Lib.hid HA
          replace HO := Lib.hid HO
          replace HN := Lib.hid HN
          replace HB := Lib.hid HB
          by_cases hlt : m < 2
          · subst e16
            have hcF1 : a1.length ≤ cF := by omega
            go_wp2_with fail
            refine (G.keys_Sorted.calls _ (some ⟨F, 0, none⟩) cF a1 x1 y1 _ (Kd.C_below hCin.out HB.out) hcF1 hSo.out).mono ?_
            rintro e Wn ⟨v, rfl, hV, hb⟩
            obtain ⟨An1, cn1, rfl⟩ := call_slice hV
            replace HA := Lib.hid (call_all HA.out hV hb HB.out.size)
            replace HO := Lib.hid (pw_own_below HO.out hb)
            replace HN := Lib.hid (HN.out.below hb)
            replace HB := Lib.hid (below_then HB.out HB.out.size hb)
            clear hV hb
            go_wp2_with fail
            refine (G.keys_Union.calls _ (some ⟨F, 0, none⟩) cF a1 A_b c_b b x2 y2 _ (Kd.C_below hCin.out HB.out) hcF1 (Kd.C_below hCb.out HB.out) hc_b hUn.out).mono ?_
            rintro e Wn ⟨v, rfl, hV, hb⟩
            obtain ⟨An2, cn2, rfl⟩ := call_slice hV
            replace HA := Lib.hid (call_all HA.out hV hb HB.out.size)
            replace HO := Lib.hid (pw_own_below HO.out hb)
            replace HN := Lib.hid (HN.out.below hb)
            replace HB := Lib.hid (below_then HB.out HB.out.size hb)
            clear hV hb
            go_wp2_with fail
            refine (G.keys_Common.calls _ (some ⟨F, 0, none⟩) cF a1 A_b c_b b x3 y3 _ (Kd.C_below hCin.out HB.out) hcF1 (Kd.C_below hCb.out HB.out) hc_b hCo.out).mono ?_
            rintro e Wn ⟨v, rfl, hV, hb⟩
            obtain ⟨An3, cn3, rfl⟩ := call_slice hV
            replace HA := Lib.hid (call_all HA.out hV hb HB.out.size)
            replace HO := Lib.hid (pw_own_below HO.out hb)
            replace HN := Lib.hid (HN.out.below hb)
            replace HB := Lib.hid (below_then HB.out HB.out.size hb)
            clear hV hb
            go_wp2_with fail
            refine (G.keys_Minus.calls _ (some ⟨F, 0, none⟩) cF a1 A_b c_b b x4 y4 _ (Kd.C_below hCin.out HB.out) hcF1 (Kd.C_below hCb.out HB.out) hc_b hMi.out).mono ?_
            rintro e Wn ⟨v, rfl, hV, hb⟩
            obtain ⟨An4, cn4, rfl⟩ := call_slice hV
            replace HA := Lib.hid (call_all HA.out hV hb HB.out.size)
            replace HO := Lib.hid (pw_own_below HO.out hb)
            replace HN := Lib.hid (HN.out.below hb)
            replace HB := Lib.hid (below_then HB.out HB.out.size hb)
            clear hV hb
            obtain ⟨Wz, hWz⟩ : ∃ Wz : World, Wz = Wn := ⟨_, rfl⟩
            have hbz : Below Wn.heap.size Wn (Wn.alloc (.cells #[.string sz] 9)) := (Below.refl _ _).alloc (Nat.le_refl _) _
            have hCz : Hid (Ct (Wn.alloc (.cells #[.string sz] 9)) (some ⟨Wn.heap.size, 0, none⟩) [sz]) := C_new Wn [sz] (by decide)
            replace HA := Lib.hid (HA.out.below hbz)
            replace HO := Lib.hid (pw_own_below HO.out hbz)
            replace HN := Lib.hid (HN.out.below hbz)
            replace HB := Lib.hid (below_then HB.out HB.out.size hbz)
            clear hbz hWz
            go_wp2_with fail
            refine (G.keys_Union.calls _ A_b c_b b _ 1 [sz] x5 y5 _ (Kd.C_below hCb.out HB.out) hc_b hCz.out (Nat.le_refl _) hUz.out).mono ?_
            rintro e Wn ⟨v, rfl, hV, hb⟩
            obtain ⟨An5, cn5, rfl⟩ := call_slice hV
            replace HA := Lib.hid (call_all HA.out hV hb HB.out.size)
            replace HO := Lib.hid (pw_own_below HO.out hb)
            replace HN := Lib.hid (HN.out.below hb)
            replace HB := Lib.hid (below_then HB.out HB.out.size hb)
            clear hV hb
            go_wp2_with fail
            refine (cNo.out _ (Kd.C_below hCgv.out HB.out)).mono ?_
            rintro e Wn ⟨v, rfl, hV, hb⟩
            obtain ⟨Ah, ch, rfl⟩ := norm_slice hV
            have hxn := Lib.hid (norm_new hV HB.out.size)
            replace HA := Lib.hid (HA.out.below hb)
            replace HO := Lib.hid (pw_own_below HO.out hb)
            replace HN := Lib.hid (HN.out.below hb)
            replace HB := Lib.hid (below_then HB.out HB.out.size hb)
            clear hV hb
            go_wp2_with fail
            refine (cNa.out _ (Kd.C_below hCgv.out HB.out)).mono ?_
            rintro e Wn ⟨v, rfl, hV, hb⟩
            obtain ⟨An6, cn6, rfl⟩ := call_slice hV
            replace HA := Lib.hid (call_all HA.out hV hb HB.out.size)
            replace HO := Lib.hid (pw_own_below HO.out hb)
            replace HN := Lib.hid (HN.out.below hb)
            replace hxn := Lib.hid (Kd.R_below hxn.out hb)
            replace HB := Lib.hid (below_then HB.out HB.out.size hb)
            clear hV hb
            obtain ⟨news, hnews⟩ : ∃ news : List Value, news = [.slice An1 x1.length cn1, .slice An2 x2.length cn2, .slice An3 x3.length cn3, .slice An4 x4.length cn4, .slice An5 x5.length cn5, .slice An6 x6.length cn6] := ⟨_, rfl⟩
            have hone : Hid (∀ u ∈ news, u.oneCell' = true) := by
              intro u hu
              rw [hnews] at hu
              simp only [List.mem_cons, List.not_mem_nil, or_false] at hu
              rcases hu with rfl | rfl | rfl | rfl | rfl | rfl <;> rfl
            have hvl : (Rws.vals rs).length ≤ 12 := by rw [Rws.vals_len, hrl.out]; omega
            have h24 : ((Rws.vals rs).length + 6) * 24 ≤ 140737488355328 := by omega
            have h24b : (hs.length + 1) * 24 ≤ 140737488355328 := by rw [hhl.out]; omega
            have hone1 : Hid (∀ u ∈ [Value.slice Ah nl.length ch], u.oneCell' = true) := by
              intro u hu
              rw [List.mem_singleton] at hu
              subst hu
              rfl
            rw [hnews] at hone
            clear hnews
            go_wp2_with (first | (at_builtin; refine append_vals (P := Try.prog) (w0 := Wl) Wl.heap.size rfl (.tmp 116) (.tmp 124) 44 22 (.slice none 0 0) 24 rfl Try.underlying44 info22 rfl (by decide) v14 (Rws.vals rs) [.slice An1 x1.length cn1, .slice An2 x2.length cn2, .slice An3 x3.length cn3, .slice An4 x4.length cn4, .slice An5 x5.length cn5, .slice An6 x6.length cn6] 6 rfl rfl rfl hone.out HO.out HB.out HB.out.size h24 ?_; intro v14' Wm hO2 hb2 hg2; obtain ⟨hA2, hN2⟩ := all_outer HA.out HO.out HN.out hg2; have hx2 := Lib.hid (R41_grown hxn.out HO.out (by decide) hg2); replace hO2 := Lib.hid hO2; replace hb2 := Lib.hid hb2; replace hA2 := Lib.hid hA2; replace hN2 := Lib.hid hN2; clear hg2) | (at_builtin; refine append_vals (P := Try.prog) (w0 := Wl) Wl.heap.size rfl (.tmp 126) (.tmp 128) 45 33 (.slice none 0 0) 24 rfl Try.underlying45 info33 rfl (by decide) v15 hs [.slice Ah nl.length ch] 1 rfl rfl rfl hone1.out hN2.out.1 hb2.out hb2.out.size h24b ?_; intro v15' Wk hO3 hb3 hg3; obtain ⟨hA3, hO4, hN3⟩ := nrm_snoc hA2.out hO2.out hN2.out hx2.out hg3 hO3; replace hA3 := Lib.hid hA3; replace hO4 := Lib.hid hO4; replace hN3 := Lib.hid hN3; replace hb3 := Lib.hid hb3; clear hg3 hO3))
            go_roundw
            case rel =>
              refine ⟨v14', v15', m + 1, _, hs ++ [.slice Ah nl.length ch], rfl, rfl, by omega, by go_num, ?_, by rw [List.length_append, hhl.out]; rfl, ?_, hA3.out, ?_, hN3.out, hb3.out⟩
              · simp only [List.length_append, List.length_singleton]
                have := hrl.out
                omega
              · have := hle.out
                have := l6.out
                intro r hr
                simp only [List.mem_append, List.mem_singleton] at hr
                rcases hr with (((((hr | rfl) | rfl) | rfl) | rfl) | rfl) | rfl
                · exact hle.out r hr
                all_goals (simp only; omega)
              · have := hO4.out
                simp only [vals_append, List.append_assoc]
                exact this
            case measure => simp [intOf]; omega
          · obtain rfl : m = 2 := by omega
            rw [show ((2 : Nat) : Int) = 2 from rfl] at e16
            subst e16
            have hvl : (Rws.vals rs).length = 12 := by rw [Rws.vals_len, hrl.out]
            obtain ⟨g14, c14, e14, _, hg14, _⟩ := own_form HO.out (by omega)
            rw [Rws.vals_len] at e14
            subst e14
            have hrl' := hrl.out
            replace hvl := Lib.hid hvl
            replace hrl := Lib.hid hrl'
            have hr0 : 0 < rs.length := by omega
            clear hrl'
            go_wp2
            obtain ⟨Wk, hWk⟩ : ∃ Wk : World, Wk = wr := ⟨_, rfl⟩
            go_loopw [29, 30] (fun s29 s30 wq => RelW wr rs s29 s30 wq) (fun _ s30 _ => rs.length - (intOf s30).toNat)
            case atStart => exact ⟨_, [], rfl, Nat.zero_le _, rfl, ⟨own_nil _ _ _ _, fun t ht => absurd ht (Nat.not_lt_zero t)⟩, Below.refl _ _⟩
            case round =>
              subst hWk
              obtain ⟨v29, vs, rfl, hvs, rfl, HW, HK⟩ := hrel
              replace HW := Lib.hid HW
              replace HK := Lib.hid HK
              by_cases hlt : vs.length < rs.length
              · have hOw := HA.out.1 vs.length hlt
                obtain ⟨Aj, cj, ej, hcj⟩ := hOw.len
                rw [Rws.vl_get, Rws.tx_get] at ej
                rw [Rws.tx_get] at hcj
                have hlj : (Rws.tx rs vs.length).length ≤ 1000 := by rw [← Rws.tx_get rs hlt]; exact hle.out _ (List.getElem_mem _)
                have hc := pw_cell_below HK.out (HO.out.at (j := vs.length) (by rw [Rws.vals_len]; exact hlt)).1
                rw [Rws.vals_at rs hlt, ej] at hc
                have hCj : Ct Wk Aj (Rws.tx rs vs.length) := by
                  have h2 : Rws.Own Wk Wl.heap.size (.slice Aj (Rws.tx rs vs.length).length cj, Rws.tx rs vs.length) := by rw [← ej, ← Rws.vl_get rs hlt, ← Rws.tx_get rs hlt]; exact hOw
                  exact (own_C h2).2
                have hown := Lib.hid (G.own_some (Rws.tx rs vs.length) (by omega))
                replace hCj := Lib.hid (Kd.C_below hCj HK.out)
                clear hOw
                replace ej := Lib.hid ej
                have h24 : (vs.length + 1) * 24 ≤ 140737488355328 := by have := hrl.out; omega
                generalize hT : Rws.tx rs vs.length = T at *
                replace hT := Lib.hid hT
                go_wp2_with fail
                refine (G.rampartlaw04_own.calls Aj cj T T _ hCj.out hcj hown.out).mono ?_
                rintro e Wn ⟨v, rfl, hV, hb⟩
                have hOwn : Rws.Own Wn Wk.heap.size (v, T) := Kd.own_of_R (Kd.R_lower hV HK.out.size)
                obtain ⟨An, cn, rfl⟩ := call_slice hV
                obtain ⟨_, _, hcn0, hcn⟩ := hOwn.len
                replace HW := Lib.hid (HW.out.below hb)
                replace HK := Lib.hid (below_then HK.out HK.out.size hb)
                replace hOwn := Lib.hid hOwn
                have hone : Hid (∀ u ∈ [Value.slice An T.length cn], u.oneCell' = true) := by
                  intro u hu
                  rw [List.mem_singleton] at hu
                  subst hu
                  rfl
                clear hV hb
                go_wp2_with (at_builtin; refine append_vals (P := Try.prog) (w0 := Wk) Wk.heap.size rfl (.tmp 136) (.tmp 142) 44 22 (.slice none 0 0) 24 rfl Try.underlying44 info22 rfl (by decide) v29 vs [.slice An T.length cn] 1 rfl rfl rfl hone.out HW.out.1 HK.out HK.out.size h24 ?_; intro v30 Wm hO2 hb2 hg2; have hW2 := HW.out.snoc (A := An) (c := cn) hg2 (by rw [hT.out]; exact hO2) (by rw [hT.out]; exact hcn) (by rw [hT.out]; exact hOwn.out); replace hW2 := Lib.hid hW2; replace hb2 := Lib.hid hb2; clear hg2 hO2)
                go_roundw
                case rel => exact ⟨v30, _, rfl, by rw [List.length_append, List.length_singleton]; omega, by rw [List.length_append, List.length_singleton]; go_num, hW2.out, hb2.out⟩
                case measure => simp [intOf]; omega
              · have hvl2 : vs.length = rs.length := by omega
                rw [hvl2]
                obtain ⟨h0, h1, ehs⟩ := two_of hhl.out
                subst ehs
                have HBk := Lib.hid (below_then HB.out HB.out.size HK.out)
                replace HA := Lib.hid (HA.out.below HK.out)
                replace HO := Lib.hid (pw_own_below HO.out HK.out)
                replace HN := Lib.hid (HN.out.below HK.out)
                obtain ⟨g15, c15, e15, _, hg15, hc15⟩ := own_form HN.out.1 (by simp)
                have e15 : v15 = .slice (some ⟨g15, 0, none⟩) 2 c15 := e15
                subst e15
                have hn0 := HN.out.2 h0 (by simp)
                have hn1 := HN.out.2 h1 (by simp)
                obtain ⟨Ah0, ch0, e0, hc0, hC0⟩ := Kd.R_reads hn0
                obtain ⟨Ah1, ch1, e1, hc1, hC1n⟩ := Kd.R_reads hn1
                subst e0 e1
                have k0 := hc15 0 (by simp)
                have k1 := hc15 1 (by simp)
                simp only [List.getElem_cons_zero, List.getElem_cons_succ] at k0 k1
                have hlf : (a1 ++ [t1, t2]).length = a1.length + 2 := by simp
                have c1 := pw_cell_below HBk.out (own_at2 HF.out (k := a1.length) (by omega)).1
                have c2 := pw_cell_below HBk.out (own_at2 HF.out (k := a1.length + 1) (by omega)).1
                rw [show (a1 ++ [t1, t2])[a1.length]'(by omega) = t1 from by simp] at c1
                rw [show (a1 ++ [t1, t2])[a1.length + 1]'(by omega) = t2 from by rw [List.getElem_append_right (by omega)]; simp] at c2
                obtain ⟨A6', c6', e6', _, hC6⟩ := Kd.R_reads hR6.out
                obtain rfl : (some ⟨G0, 0, none⟩ : Option Addr) = A6' := by injection e6'
                have hgl2 : (gl ++ [(⟨t3, ⟨#[]⟩⟩ : G.S41)]).length = a1.length + 1 := by rw [List.length_append, hpl.out]; rfl
                have c3 := pw_cell_below HBk.out (pairs_at hC6 rfl (j := a1.length) (by omega)).1
                rw [show (gl ++ [(⟨t3, ⟨#[]⟩⟩ : G.S41)])[a1.length]'(by omega) = ⟨t3, ⟨#[]⟩⟩ from by rw [List.getElem_append_right (by rw [hpl.out]; omega)]; simp [hpl.out]] at c3
                have c4 := pw_cell_below HBk.out (pairs_at hC6 rfl (j := 0) (by omega)).1
                obtain ⟨la, hla⟩ : ∃ x, x = a1[a1.length - 1]'(Nat.sub_lt n1 (by decide)) := ⟨_, rfl⟩
                rw [show (gl ++ [(⟨t3, ⟨#[]⟩⟩ : G.S41)])[0]'(by omega) = ⟨la, sv⟩ from by rw [List.getElem_append_left (by rw [hpl.out]; omega), hla]; simp only [hgl.out]; exact pls_at a1 sv n1 _] at c4
                obtain ⟨ad1', e5, c5⟩ := at_text (Kd.C_below hC1.out HBk.out) (j := a1.length - 1) (by omega)
                obtain rfl : ad1 = ad1' := by injection e5
                rw [← hla] at c5
                have hCin2 := Lib.hid (Kd.C_below hCin.out HBk.out)
                have hC12 := Lib.hid (Kd.C_below hC1.out HBk.out)
                obtain ⟨_, hS1⟩ := get_hid (G.same_ev a1 (by omega)) rfl
                have hnl1 : nl.length ≤ 100000 := by rw [hnl.out]; have := G.norm41_len gl; rw [hpl.out] at this; omega
                obtain ⟨_, hS2⟩ := get_hid (G.samePairs_ev nl (by omega)) rfl
                have q1 := Lib.hid (quiet_bool (W := wr) (fun W' hW' => G.rampartlaw04_same.calls _ (some ⟨F, 0, none⟩) cF a1 (some ad1) c_1 a1 true W' (Kd.C_below hCin2.out hW') (by omega) (Kd.C_below hC12.out hW') hc_1 hS1.out))
                have q2 := Lib.hid (quiet_bool (W := wr) (fun W' hW' => G.rampartlaw04_samePairs.calls _ Ah0 ch0 nl Ah1 ch1 nl true W' (Kd.C_below hC0 hW') hc0 (Kd.C_below hC1n hW') hc1 hS2.out))
                replace hla := Lib.hid hla
                replace HW := Lib.hid HW.out
                replace hn0 := Lib.hid hn0
                replace hn1 := Lib.hid hn1
                replace hC0 := Lib.hid hC0
                replace hC1n := Lib.hid hC1n
                replace hvl2 := Lib.hid hvl2
                clear hC6 e6' hgl2 hlf e5 hc15 cNo
                go_wp2
                replace c1 : wr.cell? ⟨F, a1.length, none⟩ = some (.string ⟨#[126, 49]⟩) := c1
                replace c2 : wr.cell? ⟨F, a1.length + 1, none⟩ = some (.string ⟨#[126, 50]⟩) := c2
                replace c3 : wr.cell? ⟨G0, a1.length * 2, none⟩ = some (.string ⟨#[126, 51]⟩) := c3
                have i1 : (a1.length : Int) < (a1.length : Int) + 2 := by omega
                have i2 : (a1.length : Int) + 1 < (a1.length : Int) + 2 := by omega
                have i3 : (a1.length : Int) < (a1.length : Int) + 1 := by omega
                have i4 : (0 : Int) < (a1.length : Int) + 1 := by omega
                have i5 : (0 : Int) ≤ (a1.length : Int) + 1 := by omega
                have i6 : (0 : Int) ≤ (a1.length : Int) - 1 := by omega
                have i7 : (a1.length : Int) - 1 < (a1.length : Int) := by omega
                have i8 : ((a1.length : Int) + 1).toNat = a1.length + 1 := by omega
                have i9 : ((a1.length : Int) - 1).toNat = a1.length - 1 := by omega
                have j1 : IntKind.i64.wrap ((a1.length : Int) + 1) = (a1.length : Int) + 1 := IntWalk.i64_in _ (by omega)
                have j2 : IntKind.i64.wrap ((a1.length : Int) - 1) = (a1.length : Int) - 1 := IntWalk.i64_in _ (by omega)
                go_quiet ((first | (go_at_call 12; exact q1.out _) | (go_at_call 28; exact q2.out _)))
                have bD : Below wr.heap.size wr (wr.drewN nq) := pw_below_drewN (Below.refl _ _) nq
                clear i1 i2 i3 i4 i5 i6 i7 i8 i9 j1 j2 c1 c2 c3 c4 c5 k0 k1 q1 q2 hCin2 hC12 hC0 hC1n hS1 hS2 hn0 hn1 hla
                have hA4 := Lib.hid (HA.out.below bD)
                have hO4 : Hid (Rws.Outer (wr.drewN nq) Wl.heap.size (.slice (some ⟨g14, 0, none⟩) rs.length c14) (Rws.vals rs)) := pw_own_below HO.out bD
                have hN4 := Lib.hid (HN.out.below bD)
                have hW4 := Lib.hid (HW.out.below bD)
                have hB4 := Lib.hid (below_then HBk.out HBk.out.size bD)
                have hBw4 : Hid (Below w.heap.size w (wr.drewN nq)) := HBl.out.trans (hB4.out.mono HBl.out.size)
                have hK4 := Lib.hid (below_then HK.out HK.out.size bD)
                have HBs : Wl.heap.size ≤ Wk.heap.size := HB.out.size
                clear bD HA HO HN HW HBk HB HBl HK hc0 hc1 hg14 hg15
                generalize wr.drewN nq = W4 at *
                have hF4 : Hid (Rws.Own W4 wc.heap.size (.slice (some ⟨F, 0, none⟩) (a1.length + 2) cF, wl a1 0)) := by rw [wl_none]; exact HF.out.below hB4.out
                have hP4 : Hid (Prs W4 Wf.heap.size (.slice (some ⟨G0, 0, none⟩) (a1.length + 1) c6) (gx gl 0)) := by rw [gx_none]; exact Prs.of (Kd.R_below hR6.out hB4.out)
                have hC14 := Lib.hid (Kd.C_below hC1.out hB4.out)
                have hG0w : w.heap.size ≤ G0 := by omega
                have hFw' : w.heap.size ≤ F := by omega
                have hne1 : ad1.block ≠ F := by omega
                have hne2 : ad1.block ≠ G0 := by omega
                clear HF hR6
                go_wp2
                go_loopw [31] (fun s31 wq => RelL w wc Wf W4 a1 gl F cF G0 c6 s31 wq) (fun s31 _ => a1.length - (intOf s31).toNat)
                case atStart => exact ⟨0, Nat.zero_le _, rfl, hF4.out, hP4.out, Sm.refl _ _ _, hBw4.out⟩
                case round =>
                  obtain ⟨j, hj, rfl, hO, hP, hS, hB⟩ := hrel
                  replace hO := Lib.hid hO
                  replace hP := Lib.hid hP
                  replace hS := Lib.hid hS
                  replace hB := Lib.hid hB
                  by_cases hlt : j < a1.length
                  · obtain ⟨ad1', e5, c5⟩ := at_text hC14.out hlt
                    obtain rfl : ad1 = ad1' := by injection e5
                    have d5 := hS.out.cell c5 (by rw [add_block]; exact hne1) (by rw [add_block]; exact hne2)
                    obtain ⟨d6, f6⟩ := own_at2 hO.out (k := j) (by rw [wl_len _ _ (by omega)]; omega)
                    obtain ⟨d7, f7, hgb⟩ := hP.out.at (i := j) (by rw [gx_len _ _ (by rw [hpl.out]; omega), hpl.out]; omega)
                    have hst := Lib.hid (relL_step hpl.out hlt hFw' hG0w hO.out hP.out hS.out hB.out)
                    have hsj := hsz.out _ (List.getElem_mem hlt)
                    obtain ⟨x, hx⟩ : ∃ x, x = a1[j] := ⟨_, rfl⟩
                    rw [← hx] at d5 hst hsj
                    replace hx := Lib.hid hx
                    have hFb : F < wr.heap.size := World.block_lt_of_cell? wr _ d6
                    have hFG : F ≠ G0 := by omega
                    clear e5 c5
                    go_wp2
                    go_roundw
                    case rel => exact hst.out
                    case measure => simp [intOf]; omega
                  · obtain rfl : j = a1.length := by omega
                    have hFB : F < Wl.heap.size := hFl
                    have hA5 := Lib.hid (hS.out.all hFB hG0' hA4.out)
                    have hO5 : Hid (Rws.Outer wr Wl.heap.size (.slice (some ⟨g14, 0, none⟩) rs.length c14) (Rws.vals rs)) := hS.out.own hFB hG0' hO4.out
                    have hN5 := Lib.hid (hS.out.nrm hFB hG0' hN4.out)
                    have hWl : Wl.heap.size ≤ Wk.heap.size := HBs
                    have hW5 := Lib.hid (hS.out.was (Nat.lt_of_lt_of_le hFB hWl) (Nat.lt_of_lt_of_le hG0' hWl) hW4.out)
                    have hz5 : Wl.heap.size ≤ wr.heap.size := Nat.le_trans hB4.out.size hS.out.1
                    obtain ⟨aw, haw⟩ : ∃ x, x = a1.map G.wS := ⟨_, rfl⟩
                    obtain ⟨gw, hgw⟩ : ∃ x, x = gl.map (fun p => (⟨p.f0, sx⟩ : G.S41)) := ⟨_, rfl⟩
                    have hawl : aw.length = a1.length := by rw [haw, List.length_map]
                    have hgwl : gw.length = a1.length := by rw [hgw, List.length_map, hpl.out]
                    have hraw : Hand.rising aw = true := by rw [haw]; exact G.rising_wS r1.out
                    have hCi : Hid (Ct wr (some ⟨F, 0, none⟩) aw) := by
                      have h := hO.out
                      rw [wl_end, ← haw] at h
                      exact C_pre (own_C h).2
                    have hCg : Hid (Kd.C G.k41 wr (some ⟨G0, 0, none⟩) gw.length gw) := by
                      have h := hP.out
                      have hgx := gx_end gl
                      rw [hpl.out] at hgx
                      rw [hgx, ← hgw] at h
                      obtain ⟨A', c', e', _, hC⟩ := Kd.R_reads h.R
                      obtain rfl : (some ⟨G0, 0, none⟩ : Option Addr) = A' := by injection e'
                      exact C_pre hC
                    obtain ⟨_, hU⟩ := get_hid (G.keys_Union_ev aw [] (by omega) (by decide)) (show _ = (aw, (0 : Int)) by rw [G.union_is hraw rfl, G.uni_nil hraw])
                    obtain ⟨_, hNo2⟩ := get_hid (G.keys_Norm_ev gw (by omega)) (show _ = ((G.normOf gw).1, (G.normOf gw).2) from rfl)
                    obtain ⟨_, hS3⟩ := get_hid (G.same_ev aw (by omega)) rfl
                    have hm2 : ∀ x, x ∈ (G.normOf gw).1 → x.f1 = sx := fun x hx => by
                      have := G.norm_mem hx
                      rw [hgw] at this
                      obtain ⟨y, _, rfl⟩ := List.mem_map.1 this
                      rfl
                    have hl2 : (G.normOf gw).2 = 0 → (G.normOf gw).1.length = a1.length := fun h => (G.norm_len h).trans hgwl
                    obtain ⟨nl2, hnl2⟩ : ∃ x, x = (G.normOf gw).1 := ⟨_, rfl⟩
                    obtain ⟨ny2, hny2⟩ : ∃ x, x = (G.normOf gw).2 := ⟨_, rfl⟩
                    rw [← hnl2, ← hny2] at hNo2 hl2
                    rw [← hnl2] at hm2
                    have hm1 : ∀ x, x ∈ nl → x.f1 = sv := fun x hx => by
                      rw [hnl.out] at hx
                      have := G.norm_mem hx
                      rw [hgl.out] at this
                      obtain ⟨y, _, rfl⟩ := List.mem_map.1 this
                      rfl
                    have cU : Hid (∀ W, Ct W (some ⟨F, 0, none⟩) aw → Calls Try.prog 19 #[.slice (some ⟨F, 0, none⟩) a1.length cF, .slice none 0 0] W fun e w' => ∃ v0_ : Value, e = .returned (.tuple #[v0_, .int .i64 0]) ∧ Kd.R Kd.string 9 w' W.heap.size (fun _ => True) v0_ aw ∧ Below W.heap.size W w') := fun W h => by have h2 := G.keys_Union.calls _ (some ⟨F, 0, none⟩) cF aw none 0 [] aw 0 W h (by omega) ⟨rfl, by simp, fun h => absurd h (by simp)⟩ (Nat.le_refl _) hU.out; rw [hawl] at h2; exact h2
                    have cN2 : Hid (∀ W, Kd.C G.k41 W (some ⟨G0, 0, none⟩) gw.length gw → Calls Try.prog 25 #[.slice (some ⟨G0, 0, none⟩) a1.length c6] W fun e w' => ∃ v0_ : Value, e = .returned (.tuple #[v0_, .int .i64 ny2]) ∧ Kd.R G.k41 41 w' W.heap.size (fun _ => True) v0_ nl2 ∧ Below W.heap.size W w') := fun W h => by have h2 := G.keys_Norm.calls _ (some ⟨G0, 0, none⟩) c6 gw nl2 ny2 W h (by omega) hNo2.out; rw [hgwl] at h2; exact h2
                    have cS : Hid (∀ W A c, Ct W A aw → a1.length ≤ c → Ct W (some ⟨F, 0, none⟩) aw → Calls Try.prog 12 #[.slice A a1.length c, .slice (some ⟨F, 0, none⟩) a1.length cF] W fun e w' => e = .returned (.bool true) ∧ Drawn0 W w') := fun W A c h hc h' => by have h2 := G.rampartlaw04_same.calls _ A c aw (some ⟨F, 0, none⟩) cF aw true W h (by omega) h' (by omega) hS3.out; rw [hawl] at h2; exact h2
                    replace haw := Lib.hid haw
                    replace hgw := Lib.hid hgw
                    replace hraw := Lib.hid hraw
                    replace hawl := Lib.hid hawl
                    replace hgwl := Lib.hid hgwl
                    replace hm1 := Lib.hid hm1
                    replace hm2 := Lib.hid hm2
                    replace hl2 := Lib.hid hl2
                    clear hnl2 hny2 hF4 hP4 hA4 hO4 hN4 hW4 hBw4 hK4 hC14 hU hNo2 hS3 hO hP hS
                    go_wp2_with fail
                    refine (cU.out _ hCi.out).mono ?_
                    rintro e Wu ⟨v, rfl, hV, hb⟩
                    obtain ⟨Ax, cx, ex, hcx, hCx⟩ := Kd.R_reads hV
                    rw [hawl.out] at ex hcx
                    subst ex
                    have hA6 := Lib.hid (call_all hA5.out hV hb hz5)
                    have hO6 : Hid (Rws.Outer Wu Wl.heap.size (.slice (some ⟨g14, 0, none⟩) rs.length c14) (Rws.vals rs)) := pw_own_below hO5.out hb
                    have hN6 := Lib.hid (hN5.out.below hb)
                    have hW6 := Lib.hid (hW5.out.below hb)
                    have hB6 : Hid (Below w.heap.size w Wu) := below_then hB.out hB.out.size hb
                    have hz6 : Wl.heap.size ≤ Wu.heap.size := Nat.le_trans hz5 hb.size
                    have hCg6 := Lib.hid (Kd.C_below hCg.out hb)
                    have hCi6 := Lib.hid (Kd.C_below hCi.out hb)
                    replace hCx := Lib.hid hCx
                    clear hV hb hA5 hO5 hN5 hW5 hB hCg hCi hz5
                    go_wp2_with fail
                    refine (cN2.out _ hCg6.out).mono ?_
                    rintro e Wn ⟨v, rfl, hV, hb⟩
                    have hA7 := Lib.hid (hA6.out.below hb)
                    have hO7 : Hid (Rws.Outer Wn Wl.heap.size (.slice (some ⟨g14, 0, none⟩) rs.length c14) (Rws.vals rs)) := pw_own_below hO6.out hb
                    have hN7 := Lib.hid (hN6.out.below hb)
                    have hW7 := Lib.hid (hW6.out.below hb)
                    have hB7 : Hid (Below w.heap.size w Wn) := below_then hB6.out hB6.out.size hb
                    have hz7 : Wl.heap.size ≤ Wn.heap.size := Nat.le_trans hz6 hb.size
                    have hCi7 := Lib.hid (Kd.C_below hCi6.out hb)
                    have hCx7 := Lib.hid (Kd.C_below hCx.out hb)
                    obtain ⟨Ay, cy, ey, hcy, hCy⟩ := Kd.R_reads hV
                    subst ey
                    replace hV := Lib.hid hV
                    replace hCy := Lib.hid hCy
                    clear hb hA6 hO6 hN6 hW6 hB6 hz6 hCg6 hCi6 hCx cU cN2
                    go_upto_region 45 with (fail)
                    have f0 : Hid (∀ m, Below Wn.heap.size Wn (Wn.drewN m)) := fun m => pw_below_drewN (Below.refl _ _) m
                    have hn7 := hN7.out.2 (.slice Ah0 nl.length ch0) (by simp)
                    have k0 : Wn.cell? ⟨g15, 0, none⟩ = some (.slice Ah0 nl.length ch0) := by
                      have := World.ownsRow.cells hN7.out.1 (g := g15) rfl 0 (.slice Ah0 nl.length ch0) (by simp)
                      rwa [add_plain] at this
                    replace hn7 := Lib.hid hn7
                    go_cut [260] (fun s260 wx => s260 = .bool false ∧ Below Wn.heap.size Wn wx)
                    case first =>
                      have z0 : ((0 : Int) != 0) = false := rfl
                      have hcS := Lib.hid (cS.out Wn Ax cx hCx7.out hcx hCi7.out)
                      by_cases hy : ny2 = 0
                      · have hyb : (ny2 == 0) = true := beq_iff_eq.2 hy
                        have hly := hl2.out hy
                        have hlb : ((nl2.length : Int) != (a1.length : Int)) = false := by rw [bne_eq_false_iff_eq]; omega
                        have hl0 : (0 : Int) < (nl2.length : Int) := by omega
                        obtain ⟨gy, ey, _⟩ := R41_own hV.out (by omega)
                        subst ey
                        have hcy0 := (pairs_at hCy.out rfl (j := 0) (by omega)).2
                        rw [hm2.out _ (List.getElem_mem (by omega))] at hcy0
                        replace hcy0 : Wn.cell? ⟨gy, 1, none⟩ = some (.string ⟨#[120]⟩) := hcy0
                        replace hly := Lib.hid hly
                        replace hy := Lib.hid hy
                        by_cases hz : 0 < nl.length
                        · as_aux_lemma =>
                          have hd : decide ((0 : Int) < (nl.length : Int)) = true := by simp; omega
                          have hd2 : (0 : Int) < (nl.length : Int) := by omega
                          obtain ⟨gh, eh, _⟩ := R41_own hn7.out (by omega)
                          subst eh
                          obtain ⟨A', c', e', _, hC⟩ := Kd.R_reads hn7.out
                          obtain rfl : (some ⟨gh, 0, none⟩ : Option Addr) = A' := by injection e'
                          have hch := (pairs_at hC rfl (j := 0) hz).2
                          rw [hm1.out _ (List.getElem_mem _)] at hch
                          replace hch : Wn.cell? ⟨gh, 1, none⟩ = some (.string ⟨#[118]⟩) := hch
                          clear hC e'
                          go_wp2_with (go_at_call 12; refine (hcS.out).mono ?_; rintro e Wd ⟨rfl, hd⟩; obtain ⟨nd, rfl⟩ := hd.out)
                          go_meet
                          exact ⟨rfl, f0.out _⟩
                        · as_aux_lemma =>
                          have hd : decide ((0 : Int) < (nl.length : Int)) = false := decide_eq_false (by omega)
                          have hd2 : ¬ (0 : Int) < (nl.length : Int) := by omega
                          have hd3 : nl.length = 0 := by omega
                          replace hd3 := Lib.hid hd3
                          go_wp2_with (go_at_call 12; refine (hcS.out).mono ?_; rintro e Wd ⟨rfl, hd⟩; obtain ⟨nd, rfl⟩ := hd.out)
                          go_meet
                          exact ⟨rfl, f0.out _⟩
                      · have hyb : (ny2 == 0) = false := beq_eq_false_iff_ne.2 hy
                        by_cases hz : 0 < nl.length
                        · as_aux_lemma =>
                          have hd : decide ((0 : Int) < (nl.length : Int)) = true := by simp; omega
                          have hd2 : (0 : Int) < (nl.length : Int) := by omega
                          obtain ⟨gh, eh, _⟩ := R41_own hn7.out (by omega)
                          subst eh
                          obtain ⟨A', c', e', _, hC⟩ := Kd.R_reads hn7.out
                          obtain rfl : (some ⟨gh, 0, none⟩ : Option Addr) = A' := by injection e'
                          have hch := (pairs_at hC rfl (j := 0) hz).2
                          rw [hm1.out _ (List.getElem_mem _)] at hch
                          replace hch : Wn.cell? ⟨gh, 1, none⟩ = some (.string ⟨#[118]⟩) := hch
                          clear hC e'
                          go_wp2_with (go_at_call 12; refine (hcS.out).mono ?_; rintro e Wd ⟨rfl, hd⟩; obtain ⟨nd, rfl⟩ := hd.out)
                          go_meet
                          exact ⟨rfl, f0.out _⟩
                        · as_aux_lemma =>
                          have hd : decide ((0 : Int) < (nl.length : Int)) = false := decide_eq_false (by omega)
                          have hd2 : ¬ (0 : Int) < (nl.length : Int) := by omega
                          have hd3 : nl.length = 0 := by omega
                          replace hd3 := Lib.hid hd3
                          go_wp2_with (go_at_call 12; refine (hcS.out).mono ?_; rintro e Wd ⟨rfl, hd⟩; obtain ⟨nd, rfl⟩ := hd.out)
                          go_meet
                          exact ⟨rfl, f0.out _⟩
                    case rest =>
                      obtain ⟨rfl, hbx⟩ := hcut
                      clear f0 hn7 k0 cS hm1 hm2 hl2 hV hCy hN7 hCi7 hCx7 hcy
                      have hA8 := Lib.hid (hA7.out.below hbx)
                      have hO8 : Hid (Rws.Outer wc Wl.heap.size (.slice (some ⟨g14, 0, none⟩) rs.length c14) (Rws.vals rs)) := pw_own_below hO7.out hbx
                      have hW8 := Lib.hid (hW7.out.below hbx)
                      have hB8 : Hid (Below w.heap.size w wc) := below_then hB7.out hB7.out.size hbx
                      have hz8 : Wl.heap.size ≤ wc.heap.size := Nat.le_trans hz7 hbx.size
                      clear hA7 hO7 hW7 hB7 hz7 hbx
                      obtain ⟨g29, c29, e29, _, _, hc29⟩ := own_form hW8.out.1 (by have := hvl2.out; omega)
                      rw [hvl2.out] at e29
                      subst e29
                      replace hc29 := Lib.hid hc29
                      have hrl8 := hrl.out
                      have hr100 : rs.length ≤ 12 := by omega
                      clear hrl8
                      go_wp2
                      go_loopw [36] (fun s36 wq => Rws.Rel3 wc rs.length s36 wq) (fun s36 _ => rs.length - (intOf s36).toNat)
                      case atStart => exact ⟨0, Nat.zero_le _, rfl, Below.refl _ _⟩
                      case round =>
                        obtain ⟨j, hj, rfl, hq⟩ := hrel
                        replace hq := Lib.hid hq
                        by_cases hlt : j < rs.length
                        · have hjv : j < vs.length := by rw [hvl2.out]; exact hlt
                          obtain ⟨Aw, cw, ew, hcw, hOw⟩ := hW8.out.2 j hjv
                          have hOa := hA8.out.1 j (by rw [List.length_append]; omega)
                          rw [List.getElem_append_left hlt] at hOa
                          obtain ⟨Aj, cj, ej, hcj⟩ := hOa.len
                          have hCa : Ct wc Aj (Rws.tx rs j) := by
                            have h2 : Rws.Own wc Wl.heap.size (.slice Aj (Rws.tx rs j).length cj, Rws.tx rs j) := by rw [← Rws.tx_get rs hlt, ← ej]; exact hOa
                            exact (own_C h2).2
                          have hCw : Ct wc Aw (Rws.tx rs j) := (own_C hOw).2
                          rw [Rws.vl_get, Rws.tx_get] at ej
                          rw [Rws.tx_get] at hcj
                          have hlj : (Rws.tx rs j).length ≤ 1000 := by rw [← Rws.tx_get rs hlt]; exact hle.out _ (List.getElem_mem _)
                          have d1 := pw_cell_below hq.out (hO8.out.at (j := j) (by rw [Rws.vals_len]; exact hlt)).1
                          rw [Rws.vals_at rs hlt, ej] at d1
                          have d2 := pw_cell_below hq.out (hc29.out j hjv)
                          rw [List.getElem?_eq_getElem hjv] at ew
                          rw [Option.some.inj ew] at d2
                          obtain ⟨_, hS⟩ := get_hid (G.same_ev (Rws.tx rs j) (by omega)) rfl
                          have q1 := Lib.hid (quiet_bool (W := wr) (fun W' hW' => G.rampartlaw04_same.calls _ Aj cj (Rws.tx rs j) Aw cw (Rws.tx rs j) true W' (Kd.C_below (Kd.C_below hCa hq.out) hW') hcj (Kd.C_below (Kd.C_below hCw hq.out) hW') hcw hS.out))
                          generalize (Rws.tx rs j).length = L at *
                          clear ew hOw hOa ej hCa hCw hS hjv
                          go_wp2
                          go_quiet ((go_at_call 12; exact q1.out _))
                          have bD : Below wr.heap.size wr (wr.drewN nq) := pw_below_drewN (Below.refl _ _) nq
                          replace bD := Lib.hid (below_then hq.out hq.out.size bD)
                          go_wp2
                          go_roundw
                          case rel => exact ⟨j + 1, by omega, by go_num, bD.out⟩
                          case measure => simp [intOf]; omega
                        · obtain rfl : j = rs.length := by omega
                          have hA9 := Lib.hid (hA8.out.below hq.out)
                          have hO9 : Hid (Rws.Outer wr Wl.heap.size (.slice (some ⟨g14, 0, none⟩) rs.length c14) (Rws.vals rs)) := pw_own_below hO8.out hq.out
                          have hB9 : Hid (Below w.heap.size w wr) := below_then hB8.out hB8.out.size hq.out
                          have hz9 : Wl.heap.size ≤ wr.heap.size := Nat.le_trans hz8 hq.out.size
                          have h24 : ((Rws.vals rs).length + 1) * 24 ≤ 140737488355328 := by rw [Rws.vals_len]; omega
                          have hone : Hid (∀ u ∈ [Value.slice Ax a1.length cx], u.oneCell' = true) := by
                            intro u hu
                            rw [List.mem_singleton] at hu
                            subst hu
                            rfl
                          have hwB : w.heap.size ≤ Wl.heap.size := by omega
                          have hO9 : Hid (Rws.Outer wr w.heap.size (.slice (some ⟨g14, 0, none⟩) rs.length c14) (Rws.vals rs)) := own_low hO9.out hwB
                          have haw1 : aw.length ≤ 1000 := by have := hawl.out; omega
                          go_wp2_with (first | (at_builtin; refine append_vals (P := Try.prog) (w0 := w) w.heap.size rfl (.tmp 277) (.tmp 279) 44 22 (.slice none 0 0) 24 rfl Try.underlying44 info22 rfl (by decide) (.slice (some ⟨g14, 0, none⟩) rs.length c14) (Rws.vals rs) [.slice Ax a1.length cx] 1 rfl rfl rfl hone.out hO9.out hB9.out hB9.out.size h24 ?_; intro v31 Wm hO2 hb2 hg2; obtain ⟨g31, c31, e31, hcall⟩ := last_call hwB hA9.out hO9.out hr100 hle.out haw1 hO2 hb2 hg2; subst e31; replace hcall := Lib.hid hcall; clear hO2 hb2 hg2) | (go_at_call 34; refine (hcall.out).mono ?_; rintro e Wz ⟨rfl, hbz⟩; replace hbz := Lib.hid hbz))
                          go_ret
                          exact ⟨rfl, hbz.out⟩
end Go.Proofs.Ytjahalkgjnnapaa.keysMemory
