/- judge: the loop over an answer's versions, walked by itself. -/
import Derived.Test.YtiibjgnmdieicaaGreatQe
namespace Go.Proofs.YtiibjgnmdieicaaGreat.Hist
open Go.RowKit Go.Proofs.YtiibjgnmdieicaaGreatW.PrintWords Go.Sort
/-- left by this exit, and by no other -/
def QX (n : Nat) (R : Act → World → Prop) : Exit → Act → World → Prop
  | .exit m, a, w => m = n ∧ R a w
  | _, _, _ => False
set_option maxHeartbeats 16000000 in
set_option maxRecDepth 1000000 in
theorem loop2_any (W3 W : World) (s : Hs) (L0 : List Fnd) (x : Evt) (A4 : Option Addr) (c4 : Nat) (A5 : Option Addr) (c5 : Nat) (A9 : Option Addr) (c9 : Nat) (j : Nat) (asked : Int) (m Bc Ba nm R0 E0 : Nat) (v7 : Value)
    (hCo : CourtAt W3 Bc s.ws) (hMa : MapIs Tryz.prog tQ kvReq W3 Ba nm (fun q => (s.at_ q).map (Value.int .i64))) (hq64 : ∃ kl, keyOf Tryz.prog tQ (kvReq (x.f1, x.f2)) = some kl) (hask : ((s.at_ (x.f1, x.f2)).map (Value.int .i64)).getD (.int .i64 0) = .int .i64 asked)
    (hR : W3.heap[R0]? = some (.cells rulesC 132 (0, 0))) (hk9 : Kd.C kVer W3 A9 x.f6.f3.length x.f6.f3) (hm : m ≤ 549755813888) (hv9 : x.f6.f3.length ≤ 65536)
    (cd : Code) (hcd : cd = judgeBody2) (h0 : RelJ2 W3 L0 (fndV s.ws x.f6.f3 j asked) x.f6.f3 m E0 (evC x A4 c4 A5 c5 A9 c9) v7 (.int .i64 0) W) (s0 s1 s2 s3 s10 s11 s12 s13 s14 s15 s16 s17 s18 s19 s20 s21 s22 s23 s24 s25 s26 s27 s28 s29 s30 s31 s32 s33 s34 s35 s36 s37 s38 s39 s40 s41 s42 s46 s47 s48 s49 s50 s51 s52 s53 s54 s55 s56 s57 s58 s59 s60 s61 s62 s63 s64 s65 s66 s67 s68 s69 s70 s71 s72 s73 s74 s75 s76 s77 s78 s79 s80 s81 s82 s83 s84 s85 s86 s87 s88 s89 s90 s91 s92 : Value) :
    Code.wp Tryz.prog (Code.loop cd) (QX 2 fun a w' => ∃ u7 u11 u12 u13 u14 u15 u16 u45 u46 u47 u48 u49 u50 u51 u52 u53 u54 u55 u56 u57 u58 u59 u60 u61 u62 u63 u64 u65 u66 u67 u68 u69 u70 u71 u72 u73 u74 u75 u76 u77 u78 u79 u80 u81 u82 u83 u84 u85 u86 u87 u88 u89 u90 : Value, a = ⟨List.toArray (s0 :: s1 :: s2 :: s3 :: .pointer (some ⟨Bc, 0, none⟩) :: .map (some Ba) :: .slice (some ⟨R0, 0, none⟩) 4 4 :: u7 :: .int .i64 j :: .pointer (some ⟨E0, 0, none⟩) :: s10 :: u11 :: u12 :: u13 :: u14 :: u15 :: u16 :: s17 :: s18 :: s19 :: s20 :: s21 :: s22 :: s23 :: s24 :: s25 :: s26 :: s27 :: s28 :: s29 :: s30 :: s31 :: s32 :: s33 :: s34 :: s35 :: s36 :: s37 :: s38 :: s39 :: s40 :: s41 :: s42 :: .slice A9 x.f6.f3.length c9 :: .int .i64 x.f6.f3.length :: u45 :: u46 :: u47 :: u48 :: u49 :: u50 :: u51 :: u52 :: u53 :: u54 :: u55 :: u56 :: u57 :: u58 :: u59 :: u60 :: u61 :: u62 :: u63 :: u64 :: u65 :: u66 :: u67 :: u68 :: u69 :: u70 :: u71 :: u72 :: u73 :: u74 :: u75 :: u76 :: u77 :: u78 :: u79 :: u80 :: u81 :: u82 :: u83 :: u84 :: u85 :: u86 :: u87 :: u88 :: u89 :: u90 :: s91 :: s92 :: []), []⟩ ∧ RelJ2 W3 L0 (fndV s.ws x.f6.f3 j asked) x.f6.f3 m E0 (evC x A4 c4 A5 c5 A9 c9) u7 (.int .i64 x.f6.f3.length) w') ⟨List.toArray (s0 :: s1 :: s2 :: s3 :: .pointer (some ⟨Bc, 0, none⟩) :: .map (some Ba) :: .slice (some ⟨R0, 0, none⟩) 4 4 :: v7 :: .int .i64 j :: .pointer (some ⟨E0, 0, none⟩) :: s10 :: s11 :: s12 :: s13 :: s14 :: s15 :: s16 :: s17 :: s18 :: s19 :: s20 :: s21 :: s22 :: s23 :: s24 :: s25 :: s26 :: s27 :: s28 :: s29 :: s30 :: s31 :: s32 :: s33 :: s34 :: s35 :: s36 :: s37 :: s38 :: s39 :: s40 :: s41 :: s42 :: .slice A9 x.f6.f3.length c9 :: .int .i64 x.f6.f3.length :: .int .i64 0 :: s46 :: s47 :: s48 :: s49 :: s50 :: s51 :: s52 :: s53 :: s54 :: s55 :: s56 :: s57 :: s58 :: s59 :: s60 :: s61 :: s62 :: s63 :: s64 :: s65 :: s66 :: s67 :: s68 :: s69 :: s70 :: s71 :: s72 :: s73 :: s74 :: s75 :: s76 :: s77 :: s78 :: s79 :: s80 :: s81 :: s82 :: s83 :: s84 :: s85 :: s86 :: s87 :: s88 :: s89 :: s90 :: s91 :: s92 :: []), []⟩ W := by
  have hRl := blk_lt hR
  replace hCo := Lib.hid hCo
  replace hMa := Lib.hid hMa
  replace hk9 := Lib.hid hk9
  replace h0 := Lib.hid h0
  replace hR := Lib.hid hR
  replace hq64 := Lib.hid hq64
  replace hask := Lib.hid hask
  subst hcd
  conv => arg 2; arg 1; whnf
  go_loopw [7, 45] (fun v7 s45 wr => RelJ2 W3 L0 (fndV s.ws x.f6.f3 j asked) x.f6.f3 m E0 (evC x A4 c4 A5 c5 A9 c9) v7 s45 wr) (fun _ s45 _ => x.f6.f3.length - (intOf s45).toNat)
  case atStart => exact h0.out
  case round =>
    clear h0
    obtain ⟨k, hk, rfl, ⟨hB, hO, A7, c7, rfl⟩, hL, hE⟩ := hrel
    by_cases hkl : k < x.f6.f3.length
    · obtain ⟨vd, V3, vc, rfl, p0, p1, p2, p3, hvl, hvk⟩ := ver_at hk9.out hkl
      replace p0 := pw_cell_below hB p0
      replace p1 := pw_cell_below hB p1
      replace p2 := pw_cell_below hB p2
      replace p3 := pw_cell_below hB p3
      unfold evC at hE
      have hft := flat_take (fndV s.ws x.f6.f3 j asked) hkl
      generalize hvv : x.f6.f3[k] = v at *
      clear hvv hvl
      generalize hLd : L0 ++ (x.f6.f3.take k).flatMap (fndV s.ws x.f6.f3 j asked) = L at *
      have hnx : L0 ++ (x.f6.f3.take (k + 1)).flatMap (fndV s.ws x.f6.f3 j asked) = L ++ fndV s.ws x.f6.f3 j asked v := by rw [hft, ← List.append_assoc, hLd]
      have hl4 : (fndV s.ws x.f6.f3 j asked v).length ≤ 4 := fndV_len s.ws v x.f6.f3 j asked 4
      have hV := heap_alloc_new wr (.cells #[.string v.f0, .int .u64 v.f1, .string v.f2, .slice V3 v.f3.length vc] 49)
      have hVb : Below wr.heap.size wr (wr.alloc (.cells #[.string v.f0, .int .u64 v.f1, .string v.f2, .slice V3 v.f3.length vc] 49)) := below_alloc (Below.refl _ _) _
      have hO5 := hO.below hVb
      have hB5 := below_then hB hB.size hVb
      have hE5 := blk_below hE hVb
      have hM5 := fun (W' : World) (hW : Below W3.heap.size W3 W') => (hMa.out.below hW).run1 (t := 118) keyedReq Tryz.underlying118 (zeroInt _) (x.f1, x.f2) hq64.out _ hask.out
      replace hLd := Lib.hid hLd
      replace hft := Lib.hid hft
      replace hnx := Lib.hid hnx
      replace hl4 := Lib.hid hl4
      replace hV := Lib.hid hV
      replace hO5 := Lib.hid hO5
      replace hB5 := Lib.hid hB5
      replace hE5 := Lib.hid hE5
      replace hvk := Lib.hid hvk
      replace hM5 := Lib.hid hM5
      clear hO hB hE hVb
      go_wp2
      have e1 := blk_cell hE5.out 1
      have e2 := blk_cell hE5.out 2
      have e9 := blk_cell hE5.out 9
      have v0 := blk_cell hV.out 0
      have v1 := blk_cell hV.out 1
      have v2 := blk_cell hV.out 2
      have v3 := blk_cell hV.out 3
      have lE := blk_lt hE5.out
      have lV := blk_lt hV.out
      simp only [List.getElem?_toArray, List.getElem?_cons_zero, List.getElem?_cons_succ] at e1 e2 e9 v0 v1 v2 v3
      clear p0 p1 p2 p3
      generalize (wr.alloc (.cells #[.string v.f0, .int .u64 v.f1, .string v.f2, .slice V3 v.f3.length vc] 49)) = W5 at *
      generalize wr.heap.size = V0 at *
      clear wr
      have hlk1 : (Instr.lookup 118 (.map (some Ba)) (.agg #[.int .i64 x.f1, .int .i64 x.f2]) false).run Tryz.prog W5.drew = .ok (.int .i64 asked) W5.drew := hM5.out _ (below_then hB5.out hB5.out.size (below_drew (Below.refl _ _)))
      have hlk2 : ∀ o, (Instr.lookup 118 (.map (some Ba)) (.agg #[.int .i64 x.f1, .int .i64 x.f2]) false).run Tryz.prog (W5.alloc o).drew = .ok (.int .i64 asked) (W5.alloc o).drew := fun o => hM5.out _ (below_then hB5.out hB5.out.size (below_alloc (below_drew (Below.refl _ _)) o))
      go_region
      have hT := heap_alloc_new W5 (.cells #[.string v.f0, .int .u64 v.f1, .string v.f2, .slice V3 v.f3.length vc, .slice (some vd) x.f6.f3.length c9, .int .i64 j, .int .i64 asked] 130)
      have hTb : Below W5.heap.size W5 (W5.alloc (.cells #[.string v.f0, .int .u64 v.f1, .string v.f2, .slice V3 v.f3.length vc, .slice (some vd) x.f6.f3.length c9, .int .i64 j, .int .i64 asked] 130)).drew := below_drew (below_alloc (Below.refl _ _) _)
      have hT6 : (W5.alloc (.cells #[.string v.f0, .int .u64 v.f1, .string v.f2, .slice V3 v.f3.length vc, .slice (some vd) x.f6.f3.length c9, .int .i64 j, .int .i64 asked] 130)).drew.heap[W5.heap.size]? = some (.cells #[.string v.f0, .int .u64 v.f1, .string v.f2, .slice V3 v.f3.length vc, .slice (some vd) x.f6.f3.length c9, .int .i64 j, .int .i64 asked] 130 (0, 0)) := hT
      have hO6 := Lib.hid (hO5.out.below hTb)
      have hB6 := Lib.hid (below_then hB5.out hB5.out.size hTb)
      have hE6 := Lib.hid (blk_below hE5.out hTb)
      have hV6 := Lib.hid (blk_below hV.out hTb)
      replace hT6 := Lib.hid hT6
      clear hT hTb hO5 hB5 hE5 hV hlk1 hlk2 hM5 e1 e2 e9 v0 v1 v2 v3 lE lV
      go_wp2
      refine loop3_any W3 _ s L x v (some vd) c9 V3 vc j asked Bc R0 V0 W5.heap.size E0 (evC x A4 c4 A5 c5 (some vd) c9) _ hCo.out hR.out hk9.out hvk.out (by omega) _ (by kernel_rfl) ⟨0, by omega, rfl, ⟨hB6.out, by simpa using hO6.out, A7, c7, by simp⟩, hE6.out, hV6.out, hT6.out⟩ _ _ _ _ _ _ _ _ _ _ _ _ _ _ _ _ _ _ _ _ _ _ _ _ _ _ _ _ _ _ _ _ _ _ _ _ _ _ _ _ _ _ _ _ _ _ _ _ _ _ _ _ _ _ _ _ _ _ _ _ _ _ _ _ _ _ _ _ _ _ _ _ _ _ _ _ _ _ _ _ _ _ _ _ _ _ ?_
      intro u7 u13 u14 u15 u16 u64 u65 u66 u67 u68 u69 u70 u71 u72 u73 u74 u75 u76 u77 u78 u79 u80 u81 u82 u83 u84 u85 u86 u87 u88 u89 w' hend
      obtain ⟨n, hn, e4, ⟨hB, hO, A10, c10, rfl⟩, hE, hV, hT⟩ := hend
      obtain rfl : n = 4 := by
        injection e4 with _ e4
        omega
      have hfin : OutAt W3.heap.size W3 w' (.slice A10 (L ++ (List.range 4).flatMap (fndR s.ws v x.f6.f3 j asked)).length c10) (L0 ++ (x.f6.f3.take (k + 1)).flatMap (fndV s.ws x.f6.f3 j asked)) := by
        rw [hnx.out]
        exact ⟨hB, hO, A10, c10, rfl⟩
      have hln : (L0 ++ (x.f6.f3.take (k + 1)).flatMap (fndV s.ws x.f6.f3 j asked)).length ≤ m + 4 * (k + 1) := by
        rw [hnx.out, List.length_append]
        have := hl4.out
        omega
      replace hfin := Lib.hid hfin
      replace hln := Lib.hid hln
      replace hE := Lib.hid hE
      clear hB hO hV hT e4 hn hE6 hV6 hT6 hB6 hO6
      go_wp2
      go_roundw
      case rel => exact ⟨k + 1, by omega, by go_num, hfin.out, hln.out, hE.out⟩
      case measure => simp [intOf]; omega
    · obtain rfl : k = x.f6.f3.length := by omega
      go_wp2
      exact ⟨rfl, _, _, _, _, _, _, _, _, _, _, _, _, _, _, _, _, _, _, _, _, _, _, _, _, _, _, _, _, _, _, _, _, _, _, _, _, _, _, _, _, _, _, _, _, _, _, _, _, _, _, _, _, _, rfl, x.f6.f3.length, Nat.le_refl _, rfl, ⟨hB, hO, A7, c7, rfl⟩, hL, hE⟩
end Go.Proofs.YtiibjgnmdieicaaGreat.Hist
/- judge: Judge, walked. -/
namespace Go.Proofs.YtiibjgnmdieicaaGreat.Hist
open Go.RowKit Go.Proofs.YtiibjgnmdieicaaGreatW.PrintWords Go.Sort
open Go.Maps (Keyed)
set_option maxHeartbeats 16000000 in
set_option maxRecDepth 100000 in
theorem judge_yes (A : Option Addr) (c : Nat) (l : List Evt) (w : World) (hC : kEvt.C w A l.length l) (hI : JudgeIn l) (hp : properB l = true) :
    Calls Tryz.prog 41 #[.slice A l.length c] w (Judged w l) := by
  have h := proper_any A c l w hC hI.few
  rw [hp] at h
  have hHI := hI.hear hp
  have hh := fun W hb => hear_any A c l W (Kd.C_below hC hb) hHI
  have hs : hearAll l 0 hs0 = hearAll l 0 hs0 := rfl
  have hJ : judgeL l = fndT (hearAll l 0 hs0) l l.length := rfl
  generalize hearAll l 0 hs0 = s at *
  have hm : l.length ≤ 9223372036854775807 := hC.2.1
  replace h := Lib.hid h
  replace hh := Lib.hid hh
  replace hC := Lib.hid hC
  replace hI := Lib.hid hI
  replace hJ := Lib.hid hJ
  replace hHI := Lib.hid hHI
  clear hp hs
  go_enter Tryz.func41, Tryz.ntmps41
  go_wp2_with fail
  refine h.out.mono ?_
  rintro e W ⟨rfl, hb⟩
  replace hb := Lib.hid hb
  go_wp2_with fail
  refine (hh.out _ hb.out).mono ?_
  rintro e W2 ⟨Bc, Ba, nm, rfl, hCo, hMa, hb2⟩
  replace hb2 := Lib.hid (below_then hb.out hb.out.size hb2)
  clear hb h hh
  replace hCo := Lib.hid hCo
  replace hMa := Lib.hid hMa
  have hR := heap_alloc_new W2 (.cells #[.iface 122 (.agg #[]), .iface 123 (.agg #[]), .iface 124 (.agg #[]), .iface 125 (.agg #[])] 132)
  have h23 : Below W2.heap.size W2 (W2.alloc (.cells #[.iface 122 (.agg #[]), .iface 123 (.agg #[]), .iface 124 (.agg #[]), .iface 125 (.agg #[])] 132)) := below_alloc (Below.refl _ _) _
  replace hCo := Lib.hid (hCo.out.below h23)
  replace hMa := Lib.hid (hMa.out.below h23)
  replace hb2 := Lib.hid (below_then hb2.out hb2.out.size h23)
  have hRl := blk_lt hR
  replace hR := Lib.hid hR
  replace h23 := Lib.hid h23
  go_wp2
  generalize (W2.alloc (.cells #[.iface 122 (.agg #[]), .iface 123 (.agg #[]), .iface 124 (.agg #[]), .iface 125 (.agg #[])] 132)) = W3 at *
  clear h23
  generalize W2.heap.size = R0 at *
  clear W2
  go_loopw [7, 36] (fun v7 s36 wr => RelJ1 W3 s l v7 s36 wr) (fun _ s36 _ => l.length - (intOf s36).toNat)
  case atStart => exact ⟨0, Nat.zero_le _, rfl, ⟨Below.refl _ _, OwnRow.none_ _ _ _ _ _, none, 0, rfl⟩, Nat.le_refl _⟩
  case round =>
    obtain ⟨j, hj, rfl, ⟨hB, hO, A7, c7, rfl⟩, hL⟩ := hrel
    by_cases hlt : j < l.length
    · obtain ⟨ad, A4, c4, A5, c5, A9, c9, rfl, q0, q1, q2, q3, q4, q5, q6, q7, q8, q9, hK, hl9, hk9⟩ := evt_at hC.out hlt
      have hq64 := keyReq (qOf l[j]) (hHI.out.c64 j hlt) (hHI.out.t64 j hlt)
      have hv9 := hI.out.vrs j hlt
      have hfT := fndT_succ s hlt
      have hwr := below_then hb2.out hb2.out.size hB
      replace q0 := pw_cell_below hwr q0
      replace q1 := pw_cell_below hwr q1
      replace q2 := pw_cell_below hwr q2
      replace q3 := pw_cell_below hwr q3
      replace q4 := pw_cell_below hwr q4
      replace q5 := pw_cell_below hwr q5
      replace q6 := pw_cell_below hwr q6
      replace q7 := pw_cell_below hwr q7
      replace q8 := pw_cell_below hwr q8
      replace q9 := pw_cell_below hwr q9
      have hE := heap_alloc_new wr (.cells #[.int .i64 l[j].f0, .int .i64 l[j].f1, .int .i64 l[j].f2, .int .u64 l[j].f3, .slice A4 l[j].f4.length c4, .slice A5 l[j].f5.length c5, .int .i64 l[j].f6.f0, .int .i64 l[j].f6.f1, .int .u64 l[j].f6.f2, .slice A9 l[j].f6.f3.length c9] 38)
      have hEb : Below wr.heap.size wr (wr.alloc (.cells #[.int .i64 l[j].f0, .int .i64 l[j].f1, .int .i64 l[j].f2, .int .u64 l[j].f3, .slice A4 l[j].f4.length c4, .slice A5 l[j].f5.length c5, .int .i64 l[j].f6.f0, .int .i64 l[j].f6.f1, .int .u64 l[j].f6.f2, .slice A9 l[j].f6.f3.length c9] 38)) := below_alloc (Below.refl _ _) _
      have hOE := hO.below hEb
      have hBE := below_then hB hB.size hEb
      have hEN : W3.heap.size ≤ wr.heap.size := hB.size
      replace hk9 := Kd.C_below hk9 hb2.out
      replace hE := Lib.hid hE
      replace hOE := Lib.hid hOE
      replace hBE := Lib.hid hBE
      replace hfT := Lib.hid hfT
      replace hk9 := Lib.hid hk9
      replace hq64 := Lib.hid hq64
      clear hO hB hwr hEb hl9 hK
      go_wp2
      clear q0 q1 q2 q3 q4 q5 q6 q7 q8 q9
      generalize (wr.alloc (.cells #[.int .i64 l[j].f0, .int .i64 l[j].f1, .int .i64 l[j].f2, .int .u64 l[j].f3, .slice A4 l[j].f4.length c4, .slice A5 l[j].f5.length c5, .int .i64 l[j].f6.f0, .int .i64 l[j].f6.f1, .int .u64 l[j].f6.f2, .slice A9 l[j].f6.f3.length c9] 38)) = W4 at *
      generalize wr.heap.size = E0 at *
      clear wr
      have hask := asked_is s l[j]
      refine Code.wp_mono ?_ (loop2_any W3 _ s (fndT s l j) l[j] A4 c4 A5 c5 A9 c9 j (askedOf s l[j]) (262144 * j) Bc Ba nm R0 E0 _ hCo.out hMa.out hq64.out hask hR.out hk9.out (by have := hI.out.few; omega) hv9 _ (by kernel_rfl) ⟨0, Nat.zero_le _, rfl, by simpa using ⟨hBE.out, hOE.out, A7, c7, rfl⟩, by simpa using hL, hE.out⟩ _ _ _ _ _ _ _ _ _ _ _ _ _ _ _ _ _ _ _ _ _ _ _ _ _ _ _ _ _ _ _ _ _ _ _ _ _ _ _ _ _ _ _ _ _ _ _ _ _ _ _ _ _ _ _ _ _ _ _ _ _ _ _ _ _ _ _ _ _ _ _ _ _ _ _ _ _ _ _ _ _ _ _ _)
      intro e a w' h
      cases e with
      | exit mm =>
        obtain ⟨rfl, u7, u11, u12, u13, u14, u15, u16, u45, u46, u47, u48, u49, u50, u51, u52, u53, u54, u55, u56, u57, u58, u59, u60, u61, u62, u63, u64, u65, u66, u67, u68, u69, u70, u71, u72, u73, u74, u75, u76, u77, u78, u79, u80, u81, u82, u83, u84, u85, u86, u87, u88, u89, u90, rfl, k, hk, e4, ⟨hB, hO, A10, c10, rfl⟩, hL2, hE2⟩ := h
        obtain rfl : k = l[j].f6.f3.length := by
          injection e4 with _ e4
          omega
        rw [List.take_of_length_le (Nat.le_refl _)] at hO hL2
        rw [List.take_of_length_le (Nat.le_refl _)]
        have hfin : OutAt W3.heap.size W3 w' (.slice A10 (fndT s l j ++ l[j].f6.f3.flatMap (fndV s.ws l[j].f6.f3 j (askedOf s l[j]))).length c10) (fndT s l (j + 1)) := by
          rw [hfT.out]
          exact ⟨hB, hO, A10, c10, rfl⟩
        have hln : (fndT s l (j + 1)).length ≤ 262144 * (j + 1) := by
          rw [hfT.out]
          omega
        replace hfin := Lib.hid hfin
        replace hln := Lib.hid hln
        clear hB hO hE2 e4 hL2 hE hOE hBE
        go_wp2
        go_roundw
        case rel => exact ⟨j + 1, by omega, by go_num, hfin.out, hln.out⟩
        case measure => simp [intOf]; omega
      | _ => exact h.elim
    · obtain rfl : j = l.length := by omega
      have hfin : Judged w l (.returned (.tuple #[.slice A7 (fndT s l l.length).length c7, .int .i64 0])) wr := by
        unfold Judged
        rw [hJ.out]
        exact ⟨A7, c7, rfl, hO.lower hb2.out.size, below_then hb2.out hb2.out.size hB⟩
      go_wp2
      go_ret2
      exact hfin
end Go.Proofs.YtiibjgnmdieicaaGreat.Hist
