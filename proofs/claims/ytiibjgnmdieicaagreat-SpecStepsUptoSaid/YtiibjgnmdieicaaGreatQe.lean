/- judge: the loop over the rules, walked by itself. -/
import Derived.Test.YtiibjgnmdieicaaGreatQd
namespace Go.Proofs.YtiibjgnmdieicaaGreat.Hist
open Go.RowKit Go.Proofs.YtiibjgnmdieicaaGreatW.PrintWords Go.Sort
def rulesC : Array Value := #[.iface 122 (.agg #[]), .iface 123 (.agg #[]), .iface 124 (.agg #[]), .iface 125 (.agg #[])]
theorem method_forged (w : World) : (method 299 122 (.agg #[]) "rampart/judge.breaks").run Tryz.prog w = .ok (123, .agg #[]) w := by kernel_rfl
theorem method_aborted (w : World) : (method 299 123 (.agg #[]) "rampart/judge.breaks").run Tryz.prog w = .ok (129, .agg #[]) w := by kernel_rfl
theorem method_torn (w : World) : (method 299 124 (.agg #[]) "rampart/judge.breaks").run Tryz.prog w = .ok (130, .agg #[]) w := by kernel_rfl
theorem method_lost (w : World) : (method 299 125 (.agg #[]) "rampart/judge.breaks").run Tryz.prog w = .ok (134, .agg #[]) w := by kernel_rfl
set_option maxHeartbeats 16000000 in
set_option maxRecDepth 1000000 in
theorem loop3_any (W3 W : World) (s : Hs) (L : List Fnd) (x : Evt) (v : Ver) (A9 : Option Addr) (c9 : Nat) (V3 : Option Addr) (vc : Nat) (j : Nat) (asked : Int) (Bc R0 V0 T0 E0 : Nat) (ec : Array Value) (v7 : Value)
    (hCo : CourtAt W3 Bc s.ws) (hR : W3.heap[R0]? = some (.cells rulesC 132 (0, 0))) (hk9 : Kd.C kVer W3 A9 x.f6.f3.length x.f6.f3) (hkV : Kd.C Kd.string W3 V3 v.f3.length v.f3) (hL : L.length ≤ 1099511627776)
    (cd : Code) (hcd : cd = judgeBody3) (h0 : RelJ3 W3 L (fndR s.ws v x.f6.f3 j asked) E0 ec V0 (verC v V3 vc) T0 (toldC v V3 vc x A9 c9 j asked) v7 (.int .i64 0) W) (Q0 : Exit → Act → World → Prop) (s0 s1 s2 s3 s5 s6 s9 s10 s13 s14 s15 s16 s17 s18 s19 s20 s21 s22 s23 s24 s25 s26 s27 s28 s29 s30 s31 s32 s33 s34 s35 s36 s37 s38 s39 s40 s41 s42 s43 s44 s45 s46 s47 s48 s49 s50 s51 s52 s53 s54 s55 s56 s57 s58 s59 s60 s61 s65 s66 s67 s68 s69 s70 s71 s72 s73 s74 s75 s76 s77 s78 s79 s80 s81 s82 s83 s84 s85 s86 s87 s88 s89 s90 s91 s92 : Value)
    (hexit : ∀ (u7 u13 u14 u15 u16 u64 u65 u66 u67 u68 u69 u70 u71 u72 u73 u74 u75 u76 u77 u78 u79 u80 u81 u82 u83 u84 u85 u86 u87 u88 u89 : Value) (w' : World), RelJ3 W3 L (fndR s.ws v x.f6.f3 j asked) E0 ec V0 (verC v V3 vc) T0 (toldC v V3 vc x A9 c9 j asked) u7 (.int .i64 4) w' → Q0 (.exit 4) ⟨List.toArray (s0 :: s1 :: s2 :: s3 :: .pointer (some ⟨Bc, 0, none⟩) :: s5 :: s6 :: u7 :: .int .i64 j :: s9 :: s10 :: .pointer (some ⟨V0, 0, none⟩) :: .pointer (some ⟨T0, 0, none⟩) :: u13 :: u14 :: u15 :: u16 :: s17 :: s18 :: s19 :: s20 :: s21 :: s22 :: s23 :: s24 :: s25 :: s26 :: s27 :: s28 :: s29 :: s30 :: s31 :: s32 :: s33 :: s34 :: s35 :: s36 :: s37 :: s38 :: s39 :: s40 :: s41 :: s42 :: s43 :: s44 :: s45 :: s46 :: s47 :: s48 :: s49 :: s50 :: s51 :: s52 :: s53 :: s54 :: s55 :: s56 :: s57 :: s58 :: s59 :: s60 :: s61 :: .slice (some ⟨R0, 0, none⟩) 4 4 :: .int .i64 4 :: u64 :: u65 :: u66 :: u67 :: u68 :: u69 :: u70 :: u71 :: u72 :: u73 :: u74 :: u75 :: u76 :: u77 :: u78 :: u79 :: u80 :: u81 :: u82 :: u83 :: u84 :: u85 :: u86 :: u87 :: u88 :: u89 :: s90 :: s91 :: s92 :: []), []⟩ w') :
    Code.wp Tryz.prog (Code.loop cd) Q0 ⟨List.toArray (s0 :: s1 :: s2 :: s3 :: .pointer (some ⟨Bc, 0, none⟩) :: s5 :: s6 :: v7 :: .int .i64 j :: s9 :: s10 :: .pointer (some ⟨V0, 0, none⟩) :: .pointer (some ⟨T0, 0, none⟩) :: s13 :: s14 :: s15 :: s16 :: s17 :: s18 :: s19 :: s20 :: s21 :: s22 :: s23 :: s24 :: s25 :: s26 :: s27 :: s28 :: s29 :: s30 :: s31 :: s32 :: s33 :: s34 :: s35 :: s36 :: s37 :: s38 :: s39 :: s40 :: s41 :: s42 :: s43 :: s44 :: s45 :: s46 :: s47 :: s48 :: s49 :: s50 :: s51 :: s52 :: s53 :: s54 :: s55 :: s56 :: s57 :: s58 :: s59 :: s60 :: s61 :: .slice (some ⟨R0, 0, none⟩) 4 4 :: .int .i64 4 :: .int .i64 0 :: s65 :: s66 :: s67 :: s68 :: s69 :: s70 :: s71 :: s72 :: s73 :: s74 :: s75 :: s76 :: s77 :: s78 :: s79 :: s80 :: s81 :: s82 :: s83 :: s84 :: s85 :: s86 :: s87 :: s88 :: s89 :: s90 :: s91 :: s92 :: []), []⟩ W := by
  replace hexit := Lib.hid hexit
  replace hCo := Lib.hid hCo
  replace hk9 := Lib.hid hk9
  replace hkV := Lib.hid hkV
  replace h0 := Lib.hid h0
  replace hR := Lib.hid hR
  have m0 := method_forged
  have m1 := method_aborted
  have m2 := method_torn
  have m3 := method_lost
  subst hcd
  conv => arg 2; arg 1; whnf
  go_loopw [7, 64] (fun v7 s64 wr => RelJ3 W3 L (fndR s.ws v x.f6.f3 j asked) E0 ec V0 (verC v V3 vc) T0 (toldC v V3 vc x A9 c9 j asked) v7 s64 wr) (fun _ s64 _ => 4 - (intOf s64).toNat)
  case atStart => exact h0.out
  case round =>
    clear h0
    obtain ⟨n, hn, rfl, ⟨hB, hO, A8, c8, rfl⟩, hE, hV, hT⟩ := hrel
    by_cases h4 : n = 4
    · subst h4
      go_wp2
      exact hexit.out _ _ _ _ _ _ _ _ _ _ _ _ _ _ _ _ _ _ _ _ _ _ _ _ _ _ _ _ _ _ _ _ ⟨4, Nat.le_refl _, rfl, ⟨hB, hO, A8, c8, rfl⟩, hE, hV, hT⟩
    · have hCw := hCo.out.below hB
      have hkw := Kd.C_below hk9.out hB
      have hkC := Kd.C_below hkV.out hB
      have hRw := blk_below hR.out hB
      unfold rulesC at hRw
      unfold verC at hV
      unfold toldC at hT
      have r0 := blk_cell hRw 0
      have r1 := blk_cell hRw 1
      have r2 := blk_cell hRw 2
      have r3 := blk_cell hRw 3
      have v0 := blk_cell hV 0
      have v1 := blk_cell hV 1
      have t0 := blk_cell hT 0
      have t1 := blk_cell hT 1
      have t2 := blk_cell hT 2
      have t3 := blk_cell hT 3
      have t4 := blk_cell hT 4
      have t5 := blk_cell hT 5
      have t6 := blk_cell hT 6
      simp only [List.getElem?_toArray, List.getElem?_cons_zero, List.getElem?_cons_succ] at r0 r1 r2 r3 v0 v1 t0 t1 t2 t3 t4 t5 t6
      have hn4 : n < 4 := by omega
      replace hB := Lib.hid hB
      replace hE := Lib.hid hE
      replace hV := Lib.hid hV
      replace hT := Lib.hid hT
      replace hRw := Lib.hid hRw
      have hstep := flat_range (fndR s.ws v x.f6.f3 j asked) n
      have hlen := fndV_len s.ws v x.f6.f3 j asked n
      rcases (by omega : n = 0 ∨ n = 1 ∨ n = 2 ∨ n = 3) with rfl | rfl | rfl | rfl
      · have hc := forged_any Bc s.ws v V3 vc A9 x.f6.f3.length c9 j asked wr hCw hkC
        have hf : fndR s.ws v x.f6.f3 j asked 0 = if forgedB s.ws v j then [⟨j, 1, v.f0, v.f1, 0⟩] else [] := rfl
        generalize fndR s.ws v x.f6.f3 j asked = g at *
        generalize forgedB s.ws v j = b at *

        replace hc := Lib.hid hc
        replace hkC := Lib.hid hkC
        replace hkw := Lib.hid hkw
        replace hCw := Lib.hid hCw
        replace hO := Lib.hid hO
        replace hstep := Lib.hid hstep
        generalize hLd : L ++ (List.range 0).flatMap g = L1 at *
        have hLl : L1.length ≤ 1099511627800 := by rw [← hLd, List.length_append]; omega
        replace hLd := Lib.hid hLd
        replace hLl := Lib.hid hLl
        cases b
        · replace hf := Lib.hid hf
          go_wp2_with fail
          refine hc.out.mono ?_
          rintro e w' ⟨rfl, hb⟩
          have hO2 := Lib.hid (hO.out.below hb)
          have hB2 := Lib.hid (below_then hB.out hB.out.size hb)
          have hE2 := Lib.hid (blk_below hE.out hb)
          have hV2 := Lib.hid (blk_below hV.out hb)
          have hT2 := Lib.hid (blk_below hT.out hb)
          have hnx : L ++ (List.range (0 + 1)).flatMap g = L1 := by rw [hstep.out, hf.out, ← hLd.out]; simp
          replace hnx := Lib.hid hnx
          clear hb
          go_wp2
          go_roundw
          case rel => exact ⟨0 + 1, by omega, by go_num, by rw [hnx.out]; exact ⟨hB2.out, hO2.out, A8, c8, rfl⟩, hE2.out, hV2.out, hT2.out⟩
          case measure => simp [intOf]
        · replace hf := Lib.hid hf
          go_wp2_with fail
          refine hc.out.mono ?_
          rintro e w' ⟨rfl, hb⟩
          have hO2 := Lib.hid (hO.out.below hb)
          have hB2 := Lib.hid (below_then hB.out hB.out.size hb)
          have hE2 := blk_below hE.out hb
          have hV2 := blk_below hV.out hb
          have hT2 := blk_below hT.out hb
          have y0 := pw_cell_below hb v0
          have y1 := pw_cell_below hb v1
          have nE := hO2.out.ne_block hE2 (by decide)
          have nV := hO2.out.ne_block hV2 (by decide)
          have nT := hO2.out.ne_block hT2 (by decide)
          have hone := Lib.hid (oneF ⟨j, 1, v.f0, v.f1, 0⟩)
          have hnx : L ++ (List.range (0 + 1)).flatMap g = L1 ++ [⟨j, 1, v.f0, v.f1, 0⟩] := by rw [hstep.out, hf.out, ← hLd.out]; simp
          have hln : (L1 ++ [(⟨j, 1, v.f0, v.f1, 0⟩ : Fnd)]).length = L1.length + 1 := by simp
          have h5 : (L1.length + 1) * 48 ≤ 140737488355328 := by have := hLl.out; omega
          replace hE2 := Lib.hid hE2
          replace hV2 := Lib.hid hV2
          replace hT2 := Lib.hid hT2
          replace nE := Lib.hid nE
          replace nV := Lib.hid nV
          replace nT := Lib.hid nT
          replace hnx := Lib.hid hnx
          replace hln := Lib.hid hln
          replace h5 := Lib.hid h5
          clear hb r0 r1 r2 r3 v0 v1 t0 t1 t2 t3 t4 t5 t6 hc hO hE hV hT hB hRw hCw hkw hkC
          go_wp2_with (first
            | (at_builtin; refine append_plain (P := Tryz.prog) (R := FR) (w0 := W3) (W := w') W3.heap.size rfl (.tmp 77) (.tmp 87) 88 91 (.agg #[.int .i64 0, .int .i64 0, .string ByteArray.empty, .int .u64 0, .int .u64 0]) 5 48 rfl Tryz.underlying88 infoF rfl (by decide) (by decide) (.slice A8 L1.length c8) L1 ⟨j, 1, v.f0, v.f1, 0⟩ [.int .i64 j, .int .i64 1, .string v.f0, .int .u64 v.f1, .int .u64 0] rfl (by simp [Act.eval]) rfl rfl (by exact hone.out) (by exact hO2.out) (by exact hB2.out) (by exact hB2.out.size) (by exact h5.out) (L1.length + 1) (by exact hln.out) ?_; intro A10 c10 w2 own2 bel2 gr2; have hE3 := blk_grown hE2.out gr2 nE.out; have hV3 := blk_grown hV2.out gr2 nV.out; have hT3 := blk_grown hT2.out gr2 nT.out; replace own2 := Lib.hid own2; replace bel2 := Lib.hid bel2; replace hE3 := Lib.hid hE3; replace hV3 := Lib.hid hV3; replace hT3 := Lib.hid hT3; clear gr2)
            | go_in)
          go_roundw
          case rel => exact ⟨0 + 1, by omega, by go_num, by rw [hnx.out]; exact ⟨bel2.out, own2.out, A10, c10, by rw [hln.out]⟩, hE3.out, hV3.out, hT3.out⟩
          case measure => simp [intOf]
      · have hc := aborted_any Bc s.ws v V3 vc A9 x.f6.f3.length c9 j asked wr hCw
        have hf : fndR s.ws v x.f6.f3 j asked 1 = if abortedB s.ws v then [⟨j, 2, v.f0, v.f1, 0⟩] else [] := rfl
        generalize fndR s.ws v x.f6.f3 j asked = g at *
        generalize abortedB s.ws v = b at *

        replace hc := Lib.hid hc
        replace hkC := Lib.hid hkC
        replace hkw := Lib.hid hkw
        replace hCw := Lib.hid hCw
        replace hO := Lib.hid hO
        replace hstep := Lib.hid hstep
        generalize hLd : L ++ (List.range 1).flatMap g = L1 at *
        have hLl : L1.length ≤ 1099511627800 := by rw [← hLd, List.length_append]; omega
        replace hLd := Lib.hid hLd
        replace hLl := Lib.hid hLl
        cases b
        · replace hf := Lib.hid hf
          go_wp2_with fail
          refine hc.out.mono ?_
          rintro e w' ⟨rfl, hb⟩
          have hO2 := Lib.hid (hO.out.below hb)
          have hB2 := Lib.hid (below_then hB.out hB.out.size hb)
          have hE2 := Lib.hid (blk_below hE.out hb)
          have hV2 := Lib.hid (blk_below hV.out hb)
          have hT2 := Lib.hid (blk_below hT.out hb)
          have hnx : L ++ (List.range (1 + 1)).flatMap g = L1 := by rw [hstep.out, hf.out, ← hLd.out]; simp
          replace hnx := Lib.hid hnx
          clear hb
          go_wp2
          go_roundw
          case rel => exact ⟨1 + 1, by omega, by go_num, by rw [hnx.out]; exact ⟨hB2.out, hO2.out, A8, c8, rfl⟩, hE2.out, hV2.out, hT2.out⟩
          case measure => simp [intOf]
        · replace hf := Lib.hid hf
          go_wp2_with fail
          refine hc.out.mono ?_
          rintro e w' ⟨rfl, hb⟩
          have hO2 := Lib.hid (hO.out.below hb)
          have hB2 := Lib.hid (below_then hB.out hB.out.size hb)
          have hE2 := blk_below hE.out hb
          have hV2 := blk_below hV.out hb
          have hT2 := blk_below hT.out hb
          have y0 := pw_cell_below hb v0
          have y1 := pw_cell_below hb v1
          have nE := hO2.out.ne_block hE2 (by decide)
          have nV := hO2.out.ne_block hV2 (by decide)
          have nT := hO2.out.ne_block hT2 (by decide)
          have hone := Lib.hid (oneF ⟨j, 2, v.f0, v.f1, 0⟩)
          have hnx : L ++ (List.range (1 + 1)).flatMap g = L1 ++ [⟨j, 2, v.f0, v.f1, 0⟩] := by rw [hstep.out, hf.out, ← hLd.out]; simp
          have hln : (L1 ++ [(⟨j, 2, v.f0, v.f1, 0⟩ : Fnd)]).length = L1.length + 1 := by simp
          have h5 : (L1.length + 1) * 48 ≤ 140737488355328 := by have := hLl.out; omega
          replace hE2 := Lib.hid hE2
          replace hV2 := Lib.hid hV2
          replace hT2 := Lib.hid hT2
          replace nE := Lib.hid nE
          replace nV := Lib.hid nV
          replace nT := Lib.hid nT
          replace hnx := Lib.hid hnx
          replace hln := Lib.hid hln
          replace h5 := Lib.hid h5
          clear hb r0 r1 r2 r3 v0 v1 t0 t1 t2 t3 t4 t5 t6 hc hO hE hV hT hB hRw hCw hkw hkC
          go_wp2_with (first
            | (at_builtin; refine append_plain (P := Tryz.prog) (R := FR) (w0 := W3) (W := w') W3.heap.size rfl (.tmp 77) (.tmp 87) 88 91 (.agg #[.int .i64 0, .int .i64 0, .string ByteArray.empty, .int .u64 0, .int .u64 0]) 5 48 rfl Tryz.underlying88 infoF rfl (by decide) (by decide) (.slice A8 L1.length c8) L1 ⟨j, 2, v.f0, v.f1, 0⟩ [.int .i64 j, .int .i64 2, .string v.f0, .int .u64 v.f1, .int .u64 0] rfl (by simp [Act.eval]) rfl rfl (by exact hone.out) (by exact hO2.out) (by exact hB2.out) (by exact hB2.out.size) (by exact h5.out) (L1.length + 1) (by exact hln.out) ?_; intro A10 c10 w2 own2 bel2 gr2; have hE3 := blk_grown hE2.out gr2 nE.out; have hV3 := blk_grown hV2.out gr2 nV.out; have hT3 := blk_grown hT2.out gr2 nT.out; replace own2 := Lib.hid own2; replace bel2 := Lib.hid bel2; replace hE3 := Lib.hid hE3; replace hV3 := Lib.hid hV3; replace hT3 := Lib.hid hT3; clear gr2)
            | go_in)
          go_roundw
          case rel => exact ⟨1 + 1, by omega, by go_num, by rw [hnx.out]; exact ⟨bel2.out, own2.out, A10, c10, by rw [hln.out]⟩, hE3.out, hV3.out, hT3.out⟩
          case measure => simp [intOf]
      · have hc := torn_any Bc s.ws v V3 vc A9 x.f6.f3 c9 j asked wr hCw hkw
        have hf : fndR s.ws v x.f6.f3 j asked 2 = if decide (v.f1 < tornO s.ws v x.f6.f3 j) then [⟨j, 3, v.f0, v.f1, tornO s.ws v x.f6.f3 j⟩] else [] := rfl
        generalize fndR s.ws v x.f6.f3 j asked = g at *
        generalize decide (v.f1 < tornO s.ws v x.f6.f3 j) = b at *
        generalize tornO s.ws v x.f6.f3 j = o at *
        replace hc := Lib.hid hc
        replace hkC := Lib.hid hkC
        replace hkw := Lib.hid hkw
        replace hCw := Lib.hid hCw
        replace hO := Lib.hid hO
        replace hstep := Lib.hid hstep
        generalize hLd : L ++ (List.range 2).flatMap g = L1 at *
        have hLl : L1.length ≤ 1099511627800 := by rw [← hLd, List.length_append]; omega
        replace hLd := Lib.hid hLd
        replace hLl := Lib.hid hLl
        cases b
        · replace hf := Lib.hid hf
          go_wp2_with fail
          refine hc.out.mono ?_
          rintro e w' ⟨rfl, hb⟩
          have hO2 := Lib.hid (hO.out.below hb)
          have hB2 := Lib.hid (below_then hB.out hB.out.size hb)
          have hE2 := Lib.hid (blk_below hE.out hb)
          have hV2 := Lib.hid (blk_below hV.out hb)
          have hT2 := Lib.hid (blk_below hT.out hb)
          have hnx : L ++ (List.range (2 + 1)).flatMap g = L1 := by rw [hstep.out, hf.out, ← hLd.out]; simp
          replace hnx := Lib.hid hnx
          clear hb
          go_wp2
          go_roundw
          case rel => exact ⟨2 + 1, by omega, by go_num, by rw [hnx.out]; exact ⟨hB2.out, hO2.out, A8, c8, rfl⟩, hE2.out, hV2.out, hT2.out⟩
          case measure => simp [intOf]
        · replace hf := Lib.hid hf
          go_wp2_with fail
          refine hc.out.mono ?_
          rintro e w' ⟨rfl, hb⟩
          have hO2 := Lib.hid (hO.out.below hb)
          have hB2 := Lib.hid (below_then hB.out hB.out.size hb)
          have hE2 := blk_below hE.out hb
          have hV2 := blk_below hV.out hb
          have hT2 := blk_below hT.out hb
          have y0 := pw_cell_below hb v0
          have y1 := pw_cell_below hb v1
          have nE := hO2.out.ne_block hE2 (by decide)
          have nV := hO2.out.ne_block hV2 (by decide)
          have nT := hO2.out.ne_block hT2 (by decide)
          have hone := Lib.hid (oneF ⟨j, 3, v.f0, v.f1, o⟩)
          have hnx : L ++ (List.range (2 + 1)).flatMap g = L1 ++ [⟨j, 3, v.f0, v.f1, o⟩] := by rw [hstep.out, hf.out, ← hLd.out]; simp
          have hln : (L1 ++ [(⟨j, 3, v.f0, v.f1, o⟩ : Fnd)]).length = L1.length + 1 := by simp
          have h5 : (L1.length + 1) * 48 ≤ 140737488355328 := by have := hLl.out; omega
          replace hE2 := Lib.hid hE2
          replace hV2 := Lib.hid hV2
          replace hT2 := Lib.hid hT2
          replace nE := Lib.hid nE
          replace nV := Lib.hid nV
          replace nT := Lib.hid nT
          replace hnx := Lib.hid hnx
          replace hln := Lib.hid hln
          replace h5 := Lib.hid h5
          clear hb r0 r1 r2 r3 v0 v1 t0 t1 t2 t3 t4 t5 t6 hc hO hE hV hT hB hRw hCw hkw hkC
          go_wp2_with (first
            | (at_builtin; refine append_plain (P := Tryz.prog) (R := FR) (w0 := W3) (W := w') W3.heap.size rfl (.tmp 77) (.tmp 87) 88 91 (.agg #[.int .i64 0, .int .i64 0, .string ByteArray.empty, .int .u64 0, .int .u64 0]) 5 48 rfl Tryz.underlying88 infoF rfl (by decide) (by decide) (.slice A8 L1.length c8) L1 ⟨j, 3, v.f0, v.f1, o⟩ [.int .i64 j, .int .i64 3, .string v.f0, .int .u64 v.f1, .int .u64 o] rfl (by simp [Act.eval]) rfl rfl (by exact hone.out) (by exact hO2.out) (by exact hB2.out) (by exact hB2.out.size) (by exact h5.out) (L1.length + 1) (by exact hln.out) ?_; intro A10 c10 w2 own2 bel2 gr2; have hE3 := blk_grown hE2.out gr2 nE.out; have hV3 := blk_grown hV2.out gr2 nV.out; have hT3 := blk_grown hT2.out gr2 nT.out; replace own2 := Lib.hid own2; replace bel2 := Lib.hid bel2; replace hE3 := Lib.hid hE3; replace hV3 := Lib.hid hV3; replace hT3 := Lib.hid hT3; clear gr2)
            | go_in)
          go_roundw
          case rel => exact ⟨2 + 1, by omega, by go_num, by rw [hnx.out]; exact ⟨bel2.out, own2.out, A10, c10, by rw [hln.out]⟩, hE3.out, hV3.out, hT3.out⟩
          case measure => simp [intOf]
      · have hc := lost_any Bc s.ws v V3 vc A9 x.f6.f3.length c9 j asked wr hCw
        have hf : fndR s.ws v x.f6.f3 j asked 3 = if decide (v.f1 < lostO s.ws v asked) then [⟨j, 4, v.f0, v.f1, lostO s.ws v asked⟩] else [] := rfl
        generalize fndR s.ws v x.f6.f3 j asked = g at *
        generalize decide (v.f1 < lostO s.ws v asked) = b at *
        generalize lostO s.ws v asked = o at *
        replace hc := Lib.hid hc
        replace hkC := Lib.hid hkC
        replace hkw := Lib.hid hkw
        replace hCw := Lib.hid hCw
        replace hO := Lib.hid hO
        replace hstep := Lib.hid hstep
        generalize hLd : L ++ (List.range 3).flatMap g = L1 at *
        have hLl : L1.length ≤ 1099511627800 := by rw [← hLd, List.length_append]; omega
        replace hLd := Lib.hid hLd
        replace hLl := Lib.hid hLl
        cases b
        · replace hf := Lib.hid hf
          go_wp2_with fail
          refine hc.out.mono ?_
          rintro e w' ⟨rfl, hb⟩
          have hO2 := Lib.hid (hO.out.below hb)
          have hB2 := Lib.hid (below_then hB.out hB.out.size hb)
          have hE2 := Lib.hid (blk_below hE.out hb)
          have hV2 := Lib.hid (blk_below hV.out hb)
          have hT2 := Lib.hid (blk_below hT.out hb)
          have hnx : L ++ (List.range (3 + 1)).flatMap g = L1 := by rw [hstep.out, hf.out, ← hLd.out]; simp
          replace hnx := Lib.hid hnx
          clear hb
          go_wp2
          go_roundw
          case rel => exact ⟨3 + 1, by omega, by go_num, by rw [hnx.out]; exact ⟨hB2.out, hO2.out, A8, c8, rfl⟩, hE2.out, hV2.out, hT2.out⟩
          case measure => simp [intOf]
        · replace hf := Lib.hid hf
          go_wp2_with fail
          refine hc.out.mono ?_
          rintro e w' ⟨rfl, hb⟩
          have hO2 := Lib.hid (hO.out.below hb)
          have hB2 := Lib.hid (below_then hB.out hB.out.size hb)
          have hE2 := blk_below hE.out hb
          have hV2 := blk_below hV.out hb
          have hT2 := blk_below hT.out hb
          have y0 := pw_cell_below hb v0
          have y1 := pw_cell_below hb v1
          have nE := hO2.out.ne_block hE2 (by decide)
          have nV := hO2.out.ne_block hV2 (by decide)
          have nT := hO2.out.ne_block hT2 (by decide)
          have hone := Lib.hid (oneF ⟨j, 4, v.f0, v.f1, o⟩)
          have hnx : L ++ (List.range (3 + 1)).flatMap g = L1 ++ [⟨j, 4, v.f0, v.f1, o⟩] := by rw [hstep.out, hf.out, ← hLd.out]; simp
          have hln : (L1 ++ [(⟨j, 4, v.f0, v.f1, o⟩ : Fnd)]).length = L1.length + 1 := by simp
          have h5 : (L1.length + 1) * 48 ≤ 140737488355328 := by have := hLl.out; omega
          replace hE2 := Lib.hid hE2
          replace hV2 := Lib.hid hV2
          replace hT2 := Lib.hid hT2
          replace nE := Lib.hid nE
          replace nV := Lib.hid nV
          replace nT := Lib.hid nT
          replace hnx := Lib.hid hnx
          replace hln := Lib.hid hln
          replace h5 := Lib.hid h5
          clear hb r0 r1 r2 r3 v0 v1 t0 t1 t2 t3 t4 t5 t6 hc hO hE hV hT hB hRw hCw hkw hkC
          go_wp2_with (first
            | (at_builtin; refine append_plain (P := Tryz.prog) (R := FR) (w0 := W3) (W := w') W3.heap.size rfl (.tmp 77) (.tmp 87) 88 91 (.agg #[.int .i64 0, .int .i64 0, .string ByteArray.empty, .int .u64 0, .int .u64 0]) 5 48 rfl Tryz.underlying88 infoF rfl (by decide) (by decide) (.slice A8 L1.length c8) L1 ⟨j, 4, v.f0, v.f1, o⟩ [.int .i64 j, .int .i64 4, .string v.f0, .int .u64 v.f1, .int .u64 o] rfl (by simp [Act.eval]) rfl rfl (by exact hone.out) (by exact hO2.out) (by exact hB2.out) (by exact hB2.out.size) (by exact h5.out) (L1.length + 1) (by exact hln.out) ?_; intro A10 c10 w2 own2 bel2 gr2; have hE3 := blk_grown hE2.out gr2 nE.out; have hV3 := blk_grown hV2.out gr2 nV.out; have hT3 := blk_grown hT2.out gr2 nT.out; replace own2 := Lib.hid own2; replace bel2 := Lib.hid bel2; replace hE3 := Lib.hid hE3; replace hV3 := Lib.hid hV3; replace hT3 := Lib.hid hT3; clear gr2)
            | go_in)
          go_roundw
          case rel => exact ⟨3 + 1, by omega, by go_num, by rw [hnx.out]; exact ⟨bel2.out, own2.out, A10, c10, by rw [hln.out]⟩, hE3.out, hV3.out, hT3.out⟩
          case measure => simp [intOf]
end Go.Proofs.YtiibjgnmdieicaaGreat.Hist
