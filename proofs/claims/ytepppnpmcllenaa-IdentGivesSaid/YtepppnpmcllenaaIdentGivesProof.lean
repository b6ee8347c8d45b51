/- Two sources of package ident, whatever they are made of, asked in turns, as often as the numbers say: every Next, Last and Left answers as the reference's. No condition. -/
import Derived.Test.YtepppnpmcllenaaSource
import Derived.Test.YtepppnpmcllenaaReads
import Derived.Test.YtepppnpmcllenaaGives
import Derived.Deep.DeepCutAuto
import Derived.Deep.RegionHeld3
import Derived.SizedLaws
import Derived.ProofKit
import Derived.OpenShut
namespace Go.Proofs.Ytepppnpmcllenaa.identGives
open Go.ChangeShapes Go.WideShapes Go.ChangeAt Go.RowKit
set_option linter.unusedVariables false

set_option maxRecDepth 100000 in
set_option maxHeartbeats 16000000 in
theorem walk {H : Type} {enc : TypeId × Value → H} {base : Nat} (a0 : Int) (w0 : (Lit.int .i64 a0).wf = true) (a1 : Int) (w1 : (Lit.int .i64 a1).wf = true) (a2 : Int) (w2 : (Lit.int .u64 a2).wf = true) (a3 : Int) (w3 : (Lit.int .u64 a3).wf = true)
    (v4 : Value) (d4 : DataW H) (p4 : List MemPlace) {w : World} (hv : Value.okWide Try.prog w .any base 23 v4) (h4 : DataW.Trod enc Try.prog w 0 (fun _ => true) true 23 v4 d4 p4) (hlt : ∀ y ∈ p4, y.block < w.heap.size) :
    Calls Try.prog 3 #[.int .i64 a0, .int .i64 a1, .int .u64 a2, .int .u64 a3, v4] w fun e w' => e = .returned (.bool true) ∧ Below w.heap.size w w' := by
  have b2 : 0 ≤ a2 ∧ a2 ≤ 18446744073709551615 := by simpa [Lit.wf, IntKind.min, IntKind.max, IntKind.signed, IntKind.bits] using w2
  have b3 : 0 ≤ a3 ∧ a3 ≤ 18446744073709551615 := by simpa [Lit.wf, IntKind.min, IntKind.max, IntKind.signed, IntKind.bits] using w3
  obtain ⟨A, n, cp, zs, rfl, hzn, hnc, hcm, hz, hwz⟩ := open_rints Try.underlying23 Try.underlying3 (by kernel_rfl) hv h4 hlt
  unfold maxLen at hcm
  clear hv h4 hlt w0 w1 w2 w3
  obtain ⟨b20, b21⟩ := b2
  obtain ⟨b30, b31⟩ := b3
  replace hzn := Lib.hid hzn
  replace hz := Lib.hid hz
  replace hwz := Lib.hid hwz
  have hq : ∀ (p : Addr) (W : World), (binOp .eql 27 (.pointer (some p)) (.pointer none)).run Try.prog W = .ok (.bool false) W := fun _ _ => by kernel_rfl
  have hq' : ∀ (p : Addr) (W : World), (binOp .eql 29 (.pointer (some p)) (.pointer none)).run Try.prog W = .ok (.bool false) W := fun _ _ => by kernel_rfl
  have hq2 : ∀ (p : Addr) (W : World), (binOp .neq 27 (.pointer (some p)) (.pointer none)).run Try.prog W = .ok (.bool true) W := fun _ _ => by kernel_rfl
  go_enter Try.func3, Try.ntmps3
  go_wp2_with fail
  refine (alive_true _).mono ?_
  rintro e w' ⟨rfl, hb⟩
  go_wp2_with fail
  have hbs := hb.size
  have hA := ((((Blk.new w' 25 #[.int .i64 a0, .int .i64 a1]).alloc (.cells #[.int .u64 a2, .int .u64 a3] 26)).alloc (.cells #[.pointer none, .pointer none] 28)).alloc (.cells #[.pointer none, .pointer none] 30))
  have hF := (((Blk.new (w'.alloc (.cells #[.int .i64 a0, .int .i64 a1] 25)) 26 #[.int .u64 a2, .int .u64 a3]).alloc (.cells #[.pointer none, .pointer none] 28)).alloc (.cells #[.pointer none, .pointer none] 30))
  have hS := ((Blk.new ((w'.alloc (.cells #[.int .i64 a0, .int .i64 a1] 25)).alloc (.cells #[.int .u64 a2, .int .u64 a3] 26)) 28 #[.pointer none, .pointer none]).alloc (.cells #[.pointer none, .pointer none] 30))
  have hR := (Blk.new (((w'.alloc (.cells #[.int .i64 a0, .int .i64 a1] 25)).alloc (.cells #[.int .u64 a2, .int .u64 a3] 26)).alloc (.cells #[.pointer none, .pointer none] 28)) 30 #[.pointer none, .pointer none])
  have hB := (((hb.alloc hbs (.cells #[.int .i64 a0, .int .i64 a1] 25)).alloc (by simp; omega) (.cells #[.int .u64 a2, .int .u64 a3] 26)).alloc (by simp; omega) (.cells #[.pointer none, .pointer none] 28)).alloc (by simp; omega) (.cells #[.pointer none, .pointer none] 30)
  simp only [World.size_alloc] at hA hF hS hR
  generalize (((w'.alloc (.cells #[.int .i64 a0, .int .i64 a1] 25)).alloc (.cells #[.int .u64 a2, .int .u64 a3] 26)).alloc (.cells #[.pointer none, .pointer none] 28)).alloc (.cells #[.pointer none, .pointer none] 30) = W0 at *
  have z1 : w.heap.size ≤ w'.heap.size + 1 + 1 := by omega
  have z2 : w.heap.size ≤ w'.heap.size + 1 + 1 + 1 := by omega
  generalize w'.heap.size + 1 + 1 + 1 = bR at *
  generalize w'.heap.size + 1 + 1 = bS at *
  generalize w'.heap.size + 1 = bF at *
  generalize w'.heap.size = bA at *
  have hst : Hid (Made w bA bF bS bR a0 a1 a2 a3 (.int .i64 0) W0) := ⟨0, none, none, by omega, rfl, ⟨hS, hR, ok_none, ok_none, far_left, hB, z1, z2⟩, fun _ => rfl, fun _ => rfl, hA, hF⟩
  clear hA hF hS hR hb hB
  go_loopw [15] (fun i wr => Made w bA bF bS bR a0 a1 a2 a3 i wr) (fun i _ => (2 - intOf i).toNat)
  case atStart => exact hst.out
  case round =>
    clear hst
    obtain ⟨k, x, y, hk, rfl, hT, hx, hy, hA, hF⟩ := hrel
    have HT := Lib.hid hT
    have HA := Lib.hid hA
    have HF := Lib.hid hF
    have c0 := hA.cell k
    have c1 := hF.cell k
    clear hT hA hF
    obtain rfl | rfl | rfl : k = 0 ∨ k = 1 ∨ k = 2 := by omega
    · replace hx := Lib.hid (hx (by omega))
      replace hy := Lib.hid (hy (by omega))
      simp at c0 c1
      by_cases hok : 0 ≤ a0 ∧ a0 ≤ 65535 ∧ a2 ≤ 281474976710655
      · obtain ⟨m0, m1, m2⟩ := hok
        go_upto_region 10 with fail
        go_cut [16, 17] (fun s16 s17 wx => s16 = .pointer (some ⟨wr.heap.size, 0, none⟩) ∧ s17 = .int .i64 0 ∧ Src wx wr.heap.size a0 (first1 a2) 0 ∧ wr.grownBy wx none)
        case first =>
          go_region_with (go_at_call 8; refine (of_ok _ _ _ (by omega) (by omega) (by omega) (by omega)).mono ?_; rintro e w1 ⟨rfl, rfl⟩)
          all_goals (go_wp2_with fail; go_meet; exact ⟨rfl, rfl, (Blk.new _ _ _).drew, only_drew (only_alloc (World.grownBy.refl _ _) _)⟩)
        case rest =>
          obtain ⟨rfl, rfl, hs1, hg1⟩ := hcut
          obtain ⟨wb, rfl⟩ : ∃ wb : World, wb = wc := ⟨_, rfl⟩
          have c0 := (HA.out.grown hg1 (by simp)).cell 0
          have c1 := (HF.out.grown hg1 (by simp)).cell 0
          simp at c0 c1
          replace hs1 := Lib.hid hs1
          replace hg1 := Lib.hid hg1
          go_upto_region 11 with fail
          go_cut [18, 19] (fun s18 s19 wx => s18 = .pointer (some ⟨wb.heap.size, 0, none⟩) ∧ s19 = .int .i64 0 ∧ RSrc wx wb.heap.size a0 (first1 a2) 0 ∧ wb.grownBy wx none)
          case first =>
            go_region_with (go_at_call 9; refine (rof_ok _ _ _ (by omega) (by omega) (by omega) (by omega)).mono ?_; rintro e w1 ⟨rfl, rfl⟩)
            all_goals (go_wp2_with fail; go_meet; exact ⟨rfl, rfl, (Blk.new _ _ _).drew, only_drew (only_alloc (World.grownBy.refl _ _) _)⟩)
          case rest =>
            obtain ⟨rfl, rfl, hs2, hg2⟩ := hcut
            have hT2 : Two w bS bR x y wc := (HT.out.more hg1.out).more hg2
            have hO : Ok w.heap.size wc (some ⟨wr.heap.size, wb.heap.size, a0, first1 a2, 0⟩) := ok_new hs1.out hg2 hs2 m0 m1 m2 HT.out.below.size (HT.out.more hg1.out).below.size
            replace hg2 := Lib.hid hg2
            have hA2 : Hid (Blk wc bA 25 #[.int .i64 a0, .int .i64 a1]) := (HA.out.grown hg1.out (by simp)).grown hg2.out (by simp)
            have hF2 : Hid (Blk wc bF 26 #[.int .u64 a2, .int .u64 a3]) := (HF.out.grown hg1.out (by simp)).grown hg2.out (by simp)
            have d0 := hT2.s.cell 0
            have d1 : ∀ v, (wc.setCell ⟨bS, 0, none⟩ v).cell? ⟨bR, 0, none⟩ = some (rv x) := fun v => (hT2.r.far (p := ⟨bS, 0, none⟩) (Blk.ne_ hT2.r hT2.s (by decide)) v).cell 0
            have d2 := hT2.s.frozen 0
            have d3 := hT2.r.frozen 0
            simp at d0
            replace hT2 := Lib.hid hT2
            replace hO := Lib.hid hO
            go_wp2
            go_roundw
            case rel => exact ⟨1, _, y, by omega, rfl, hT2.out.set0 hO.out (by rw [hy.out]; exact far_right), fun h => by omega, fun _ => hy.out, by exact (hA2.out.far (p := ⟨bS, 0, none⟩) (Blk.ne_ hA2.out hT2.out.s (by decide)) _).far (p := ⟨bR, 0, none⟩) (Blk.ne_ hA2.out hT2.out.r (by decide)) _, by exact (hF2.out.far (p := ⟨bS, 0, none⟩) (Blk.ne_ hF2.out hT2.out.s (by decide)) _).far (p := ⟨bR, 0, none⟩) (Blk.ne_ hF2.out hT2.out.r (by decide)) _⟩
            case measure => simp [intOf]
      · replace hok := Lib.hid hok
        go_upto_region 10 with fail
        go_cut [16, 17] (fun s16 s17 wx => s16 = .pointer none ∧ s17 = .int .i64 1 ∧ wr.grownBy wx none)
        case first =>
          go_region_with (go_at_call 8; refine (of_no _ _ _ hok.out).mono ?_; rintro e w1 ⟨rfl, rfl⟩)
          all_goals (go_wp2_with fail; go_meet; exact ⟨rfl, rfl, only_drew (World.grownBy.refl _ _)⟩)
        case rest =>
          obtain ⟨rfl, rfl, hg1⟩ := hcut
          obtain ⟨wb, rfl⟩ : ∃ wb : World, wb = wc := ⟨_, rfl⟩
          have c0 := (HA.out.grown hg1 (by simp)).cell 0
          have c1 := (HF.out.grown hg1 (by simp)).cell 0
          simp at c0 c1
          replace hg1 := Lib.hid hg1
          go_upto_region 11 with fail
          go_cut [18, 19] (fun s18 s19 wx => s18 = .pointer none ∧ s19 = .int .i64 1 ∧ wb.grownBy wx none)
          case first =>
            go_region_with (go_at_call 9; refine (rof_no _ _ _ hok.out).mono ?_; rintro e w1 ⟨rfl, rfl⟩)
            all_goals (go_wp2_with fail; go_meet; exact ⟨rfl, rfl, only_drew (World.grownBy.refl _ _)⟩)
          case rest =>
            obtain ⟨rfl, rfl, hg2⟩ := hcut
            have hT2 : Two w bS bR x y wc := (HT.out.more hg1.out).more hg2
            have hO : Ok w.heap.size wc none := ok_none
            replace hg2 := Lib.hid hg2
            have hA2 : Hid (Blk wc bA 25 #[.int .i64 a0, .int .i64 a1]) := (HA.out.grown hg1.out (by simp)).grown hg2.out (by simp)
            have hF2 : Hid (Blk wc bF 26 #[.int .u64 a2, .int .u64 a3]) := (HF.out.grown hg1.out (by simp)).grown hg2.out (by simp)
            have d0 := hT2.s.cell 0
            have d1 : ∀ v, (wc.setCell ⟨bS, 0, none⟩ v).cell? ⟨bR, 0, none⟩ = some (rv x) := fun v => (hT2.r.far (p := ⟨bS, 0, none⟩) (Blk.ne_ hT2.r hT2.s (by decide)) v).cell 0
            have d2 := hT2.s.frozen 0
            have d3 := hT2.r.frozen 0
            simp at d0
            replace hT2 := Lib.hid hT2
            replace hO := Lib.hid hO
            go_wp2
            go_roundw
            case rel => exact ⟨1, _, y, by omega, rfl, hT2.out.set0 hO.out (by rw [hy.out]; exact far_right), fun h => by omega, fun _ => hy.out, by exact (hA2.out.far (p := ⟨bS, 0, none⟩) (Blk.ne_ hA2.out hT2.out.s (by decide)) _).far (p := ⟨bR, 0, none⟩) (Blk.ne_ hA2.out hT2.out.r (by decide)) _, by exact (hF2.out.far (p := ⟨bS, 0, none⟩) (Blk.ne_ hF2.out hT2.out.s (by decide)) _).far (p := ⟨bR, 0, none⟩) (Blk.ne_ hF2.out hT2.out.r (by decide)) _⟩
            case measure => simp [intOf]
    · clear hx
      replace hy := Lib.hid (hy (by omega))
      simp at c0 c1
      by_cases hok : 0 ≤ a1 ∧ a1 ≤ 65535 ∧ a3 ≤ 281474976710655
      · obtain ⟨m0, m1, m2⟩ := hok
        go_upto_region 10 with fail
        go_cut [16, 17] (fun s16 s17 wx => s16 = .pointer (some ⟨wr.heap.size, 0, none⟩) ∧ s17 = .int .i64 0 ∧ Src wx wr.heap.size a1 (first1 a3) 0 ∧ wr.grownBy wx none)
        case first =>
          go_region_with (go_at_call 8; refine (of_ok _ _ _ (by omega) (by omega) (by omega) (by omega)).mono ?_; rintro e w1 ⟨rfl, rfl⟩)
          all_goals (go_wp2_with fail; go_meet; exact ⟨rfl, rfl, (Blk.new _ _ _).drew, only_drew (only_alloc (World.grownBy.refl _ _) _)⟩)
        case rest =>
          obtain ⟨rfl, rfl, hs1, hg1⟩ := hcut
          obtain ⟨wb, rfl⟩ : ∃ wb : World, wb = wc := ⟨_, rfl⟩
          have c0 := (HA.out.grown hg1 (by simp)).cell 1
          have c1 := (HF.out.grown hg1 (by simp)).cell 1
          simp at c0 c1
          replace hs1 := Lib.hid hs1
          replace hg1 := Lib.hid hg1
          go_upto_region 11 with fail
          go_cut [18, 19] (fun s18 s19 wx => s18 = .pointer (some ⟨wb.heap.size, 0, none⟩) ∧ s19 = .int .i64 0 ∧ RSrc wx wb.heap.size a1 (first1 a3) 0 ∧ wb.grownBy wx none)
          case first =>
            go_region_with (go_at_call 9; refine (rof_ok _ _ _ (by omega) (by omega) (by omega) (by omega)).mono ?_; rintro e w1 ⟨rfl, rfl⟩)
            all_goals (go_wp2_with fail; go_meet; exact ⟨rfl, rfl, (Blk.new _ _ _).drew, only_drew (only_alloc (World.grownBy.refl _ _) _)⟩)
          case rest =>
            obtain ⟨rfl, rfl, hs2, hg2⟩ := hcut
            have hT2 : Two w bS bR x y wc := (HT.out.more hg1.out).more hg2
            have hO : Ok w.heap.size wc (some ⟨wr.heap.size, wb.heap.size, a1, first1 a3, 0⟩) := ok_new hs1.out hg2 hs2 m0 m1 m2 HT.out.below.size (HT.out.more hg1.out).below.size
            have hfar : Hid (Far x (some ⟨wr.heap.size, wb.heap.size, a1, first1 a3, 0⟩)) := far_new HT.out.ox (HT.out.more hg1.out).ox
            replace hg2 := Lib.hid hg2
            have hA2 : Hid (Blk wc bA 25 #[.int .i64 a0, .int .i64 a1]) := (HA.out.grown hg1.out (by simp)).grown hg2.out (by simp)
            have hF2 : Hid (Blk wc bF 26 #[.int .u64 a2, .int .u64 a3]) := (HF.out.grown hg1.out (by simp)).grown hg2.out (by simp)
            have d0 := hT2.s.cell 1
            have d1 : ∀ v, (wc.setCell ⟨bS, 1, none⟩ v).cell? ⟨bR, 1, none⟩ = some (rv y) := fun v => (hT2.r.far (p := ⟨bS, 1, none⟩) (Blk.ne_ hT2.r hT2.s (by decide)) v).cell 1
            have d2 := hT2.s.frozen 1
            have d3 := hT2.r.frozen 1
            simp at d0
            replace hT2 := Lib.hid hT2
            replace hO := Lib.hid hO
            go_wp2
            go_roundw
            case rel => exact ⟨2, x, _, by omega, rfl, hT2.out.set1 hO.out hfar.out, fun h => by omega, fun h => by omega, by exact (hA2.out.far (p := ⟨bS, 1, none⟩) (Blk.ne_ hA2.out hT2.out.s (by decide)) _).far (p := ⟨bR, 1, none⟩) (Blk.ne_ hA2.out hT2.out.r (by decide)) _, by exact (hF2.out.far (p := ⟨bS, 1, none⟩) (Blk.ne_ hF2.out hT2.out.s (by decide)) _).far (p := ⟨bR, 1, none⟩) (Blk.ne_ hF2.out hT2.out.r (by decide)) _⟩
            case measure => simp [intOf]
      · replace hok := Lib.hid hok
        go_upto_region 10 with fail
        go_cut [16, 17] (fun s16 s17 wx => s16 = .pointer none ∧ s17 = .int .i64 1 ∧ wr.grownBy wx none)
        case first =>
          go_region_with (go_at_call 8; refine (of_no _ _ _ hok.out).mono ?_; rintro e w1 ⟨rfl, rfl⟩)
          all_goals (go_wp2_with fail; go_meet; exact ⟨rfl, rfl, only_drew (World.grownBy.refl _ _)⟩)
        case rest =>
          obtain ⟨rfl, rfl, hg1⟩ := hcut
          obtain ⟨wb, rfl⟩ : ∃ wb : World, wb = wc := ⟨_, rfl⟩
          have c0 := (HA.out.grown hg1 (by simp)).cell 1
          have c1 := (HF.out.grown hg1 (by simp)).cell 1
          simp at c0 c1
          replace hg1 := Lib.hid hg1
          go_upto_region 11 with fail
          go_cut [18, 19] (fun s18 s19 wx => s18 = .pointer none ∧ s19 = .int .i64 1 ∧ wb.grownBy wx none)
          case first =>
            go_region_with (go_at_call 9; refine (rof_no _ _ _ hok.out).mono ?_; rintro e w1 ⟨rfl, rfl⟩)
            all_goals (go_wp2_with fail; go_meet; exact ⟨rfl, rfl, only_drew (World.grownBy.refl _ _)⟩)
          case rest =>
            obtain ⟨rfl, rfl, hg2⟩ := hcut
            have hT2 : Two w bS bR x y wc := (HT.out.more hg1.out).more hg2
            have hO : Ok w.heap.size wc none := ok_none
            replace hg2 := Lib.hid hg2
            have hA2 : Hid (Blk wc bA 25 #[.int .i64 a0, .int .i64 a1]) := (HA.out.grown hg1.out (by simp)).grown hg2.out (by simp)
            have hF2 : Hid (Blk wc bF 26 #[.int .u64 a2, .int .u64 a3]) := (HF.out.grown hg1.out (by simp)).grown hg2.out (by simp)
            have d0 := hT2.s.cell 1
            have d1 : ∀ v, (wc.setCell ⟨bS, 1, none⟩ v).cell? ⟨bR, 1, none⟩ = some (rv y) := fun v => (hT2.r.far (p := ⟨bS, 1, none⟩) (Blk.ne_ hT2.r hT2.s (by decide)) v).cell 1
            have d2 := hT2.s.frozen 1
            have d3 := hT2.r.frozen 1
            simp at d0
            replace hT2 := Lib.hid hT2
            replace hO := Lib.hid hO
            go_wp2
            go_roundw
            case rel => exact ⟨2, x, _, by omega, rfl, hT2.out.set1 hO.out far_right, fun h => by omega, fun h => by omega, by exact (hA2.out.far (p := ⟨bS, 1, none⟩) (Blk.ne_ hA2.out hT2.out.s (by decide)) _).far (p := ⟨bR, 1, none⟩) (Blk.ne_ hA2.out hT2.out.r (by decide)) _, by exact (hF2.out.far (p := ⟨bS, 1, none⟩) (Blk.ne_ hF2.out hT2.out.s (by decide)) _).far (p := ⟨bR, 1, none⟩) (Blk.ne_ hF2.out hT2.out.r (by decide)) _⟩
            case measure => simp [intOf]
    · clear c0 c1 hx hy HA HF hk
      go_wp2_with fail
      obtain ⟨wo, rfl⟩ : ∃ wo : World, wo = wr := ⟨_, rfl⟩
      go_loopw [20] (fun i wr => Going w bS bR n i wr) (fun i _ => n - (intOf i).toNat)
      case atStart => exact ⟨0, x, y, by omega, rfl, HT.out⟩
      case round =>
        clear HT x y
        obtain ⟨j, x, y, hj, rfl, hT⟩ := hrel
        have HT := Lib.hid hT
        clear hT
        by_cases hlt : j < n
        · have hbit := and_one j (by omega)
          rcases Nat.mod_two_eq_zero_or_one j with hm | hm
          · rw [hm] at hbit
            simp at hbit
            clear hm
            have d0 := HT.out.s.cell 0
            simp at d0
            cases x with
            | none =>
              simp only [sv] at d0
              go_wp2_with fail
              go_roundw
              case rel => exact ⟨j + 1, none, y, by omega, by go_num, HT.out⟩
              case measure => simp [intOf]; omega
            | some s =>
              simp only [sv] at d0
              go_wp2_with fail
              go_loopw [22] (fun i wr => Inner0 w bS bR y i wr) (fun i _ => 17 - (intOf i).toNat)
              case atStart => exact ⟨0, s, by omega, rfl, HT.out⟩
              case round =>
                clear HT d0
                obtain ⟨q, r, hq, rfl, hT⟩ := hrel
                obtain ⟨h1, h2, h3, h4, h5, h6, h7, h8⟩ := hT.ox r rfl
                have d0 := hT.s.cell 0
                have d1 := hT.r.cell 0
                simp [sv, rv] at d0 d1
                obtain ⟨ad, hA, had, hzc⟩ := hz.out j (by have := hzn.out; omega)
                have hzc' := (hT.below.cell (p := ad.add j) (by rw [block_of_add]; exact had)).trans hzc
                generalize zs.getD j 0 = z at hzc'
                subst hA
                have HT := Lib.hid hT
                replace h1 := Lib.hid h1
                replace h2 := Lib.hid h2
                clear hT hzc
                obtain ⟨m0, m1⟩ := and_15 z
                generalize hm : bits .and .i64 z 15 = m at m0 m1
                by_cases hle : (q : Int) ≤ m
                · have hq' : q ≤ 15 := by omega
                  by_cases hn : r.n ≤ 281474976710655
                  · go_wp2_with fail
                    refine (next_ok _ _ _ _ _ h1.out (by omega) (by omega) (by omega) (by omega)).mono ?_
                    rintro e w1 ⟨rfl, t1⟩
                    have h2' : Hid (RSrc w1 r.gr r.c r.n r.l) := h2.out.grown t1.2.1 (fun e => Blk.ne_ h1.out h2.out (by decide) (by injection e with e; exact e.symm))
                    have d1 := (HT.out.r.grown t1.2.1 (fun e => Blk.ne_ HT.out.r h1.out (by decide) (by injection e))).cell 0
                    simp [rv] at d1
                    replace t1 := Lib.hid t1
                    go_wp2_with fail
                    refine (rnext_ok _ _ _ _ _ h2'.out (by omega) (by omega) (by omega) (by omega)).mono ?_
                    rintro e w2 ⟨rfl, t2⟩
                    have hT2 := HT.out.turn0 t1.out t2 (by omega) (by omega)
                    have hO : Hid (Src w2 r.gs r.c (r.n + 1) (r.n * 65536 + r.c) ∧ RSrc w2 r.gr r.c (r.n + 1) (r.n * 65536 + r.c)) := ⟨(hT2.ox _ rfl).1, (hT2.ox _ rfl).2.1⟩
                    have d0 := hT2.s.cell 0
                    have d1 := hT2.r.cell 0
                    simp [sv, rv, S.turn] at d0 d1
                    replace hT2 := Lib.hid hT2
                    clear t2
                    have g0 : 0 ≤ r.n + 1 := by omega
                    have g1 : r.n + 1 ≤ 281474976710656 := by omega
                    go_wp2_with fail
                    go_quiet ((first | (go_at_call 12; exact quiet_left (last_any _ _ _ _ _ (hO.out.1.drewN _))) | (go_at_call 13; exact quiet_left (rlast_any _ _ _ _ _ (hO.out.2.drewN _))) | (go_at_call 14; exact quiet_left (left_any _ _ _ _ _ (hO.out.1.drewN _) (by omega) (by omega))) | (go_at_call 15; exact quiet_left (rleft_any _ _ _ _ _ (hO.out.2.drewN _) (by omega) (by omega)))))
                    go_wp2
                    go_roundw
                    case rel => ((repeat apply Exists.intro); exact ⟨⟨q + 1, _, by omega, by go_num, hT2.out.drewN _⟩, rfl⟩)
                    case measure => simp [intOf]; omega
                  · have hn' : 281474976710655 < r.n := by omega
                    go_wp2_with fail
                    refine (next_end _ _ _ _ _ h1.out hn').mono ?_
                    rintro e w1 ⟨rfl, qq, hw1⟩
                    have hT2 : Two w bS bR (some r) y w1 := by rw [hw1]; exact HT.out.drewN qq
                    clear hw1
                    have hO : Hid (Src w1 r.gs r.c r.n r.l ∧ RSrc w1 r.gr r.c r.n r.l) := ⟨(hT2.ox _ rfl).1, (hT2.ox _ rfl).2.1⟩
                    have d0 := hT2.s.cell 0
                    have d1 := hT2.r.cell 0
                    simp [sv, rv] at d0 d1
                    replace hT2 := Lib.hid hT2
                    go_wp2_with fail
                    refine (rnext_end _ _ _ _ _ hO.out.2 hn').mono ?_
                    rintro e w2 ⟨rfl, rfl⟩
                    go_wp2_with fail
                    go_quiet ((first | (go_at_call 12; exact quiet_left (last_any _ _ _ _ _ (hO.out.1.drewN _))) | (go_at_call 13; exact quiet_left (rlast_any _ _ _ _ _ (hO.out.2.drewN _))) | (go_at_call 14; exact quiet_left (left_any _ _ _ _ _ (hO.out.1.drewN _) (by omega) (by omega))) | (go_at_call 15; exact quiet_left (rleft_any _ _ _ _ _ (hO.out.2.drewN _) (by omega) (by omega)))))
                    go_wp2
                    go_roundw
                    case rel => ((repeat apply Exists.intro); exact ⟨⟨q + 1, r, by omega, by go_num, hT2.out.drewN _⟩, rfl⟩)
                    case measure => simp [intOf]; omega
                · have f0 := HT.out.s.cell 1
                  have f1 := HT.out.r.cell 1
                  simp at f0 f1
                  cases y with
                  | none =>
                    simp only [sv, rv] at f0 f1
                    go_upto_region 28 with fail
                    go_quiet (fail)
                    go_wp2
                    go_roundw
                    case rel => exact ⟨j + 1, some r, none, by omega, by go_num, HT.out.drewN _⟩
                    case measure => simp [intOf]; omega
                  | some v =>
                    simp only [sv, rv] at f0 f1
                    obtain ⟨i1, i2, _, _, i3, g1, _, _⟩ := HT.out.oy v rfl
                    have g0 : 0 ≤ v.n := by omega
                    have hO : Hid (Src wr v.gs v.c v.n v.l ∧ RSrc wr v.gr v.c v.n v.l) := ⟨i1, i2⟩
                    clear i1 i2 i3
                    go_upto_region 28 with fail
                    go_quiet ((first | (go_at_call 12; exact quiet_left (last_any _ _ _ _ _ (hO.out.1.drewN _))) | (go_at_call 13; exact quiet_left (rlast_any _ _ _ _ _ (hO.out.2.drewN _))) | (go_at_call 14; exact quiet_left (left_any _ _ _ _ _ (hO.out.1.drewN _) (by omega) (by omega))) | (go_at_call 15; exact quiet_left (rleft_any _ _ _ _ _ (hO.out.2.drewN _) (by omega) (by omega)))))
                    go_wp2
                    go_roundw
                    case rel => exact ⟨j + 1, some r, some v, by omega, by go_num, HT.out.drewN _⟩
                    case measure => simp [intOf]; omega
          · rw [hm] at hbit
            simp at hbit
            clear hm
            have d0 := HT.out.s.cell 1
            simp at d0
            cases y with
            | none =>
              simp only [sv] at d0
              go_wp2_with fail
              go_roundw
              case rel => exact ⟨j + 1, x, none, by omega, by go_num, HT.out⟩
              case measure => simp [intOf]; omega
            | some s =>
              simp only [sv] at d0
              go_wp2_with fail
              go_loopw [22] (fun i wr => Inner1 w bS bR x i wr) (fun i _ => 17 - (intOf i).toNat)
              case atStart => exact ⟨0, s, by omega, rfl, HT.out⟩
              case round =>
                clear HT d0
                obtain ⟨q, r, hq, rfl, hT⟩ := hrel
                obtain ⟨h1, h2, h3, h4, h5, h6, h7, h8⟩ := hT.oy r rfl
                have d0 := hT.s.cell 1
                have d1 := hT.r.cell 1
                simp [sv, rv] at d0 d1
                obtain ⟨ad, hA, had, hzc⟩ := hz.out j (by have := hzn.out; omega)
                have hzc' := (hT.below.cell (p := ad.add j) (by rw [block_of_add]; exact had)).trans hzc
                generalize zs.getD j 0 = z at hzc'
                subst hA
                have HT := Lib.hid hT
                replace h1 := Lib.hid h1
                replace h2 := Lib.hid h2
                clear hT hzc
                obtain ⟨m0, m1⟩ := and_15 z
                generalize hm : bits .and .i64 z 15 = m at m0 m1
                by_cases hle : (q : Int) ≤ m
                · have hq' : q ≤ 15 := by omega
                  by_cases hn : r.n ≤ 281474976710655
                  · go_wp2_with fail
                    refine (next_ok _ _ _ _ _ h1.out (by omega) (by omega) (by omega) (by omega)).mono ?_
                    rintro e w1 ⟨rfl, t1⟩
                    have h2' : Hid (RSrc w1 r.gr r.c r.n r.l) := h2.out.grown t1.2.1 (fun e => Blk.ne_ h1.out h2.out (by decide) (by injection e with e; exact e.symm))
                    have d1 := (HT.out.r.grown t1.2.1 (fun e => Blk.ne_ HT.out.r h1.out (by decide) (by injection e))).cell 1
                    simp [rv] at d1
                    replace t1 := Lib.hid t1
                    go_wp2_with fail
                    refine (rnext_ok _ _ _ _ _ h2'.out (by omega) (by omega) (by omega) (by omega)).mono ?_
                    rintro e w2 ⟨rfl, t2⟩
                    have hT2 := HT.out.turn1 t1.out t2 (by omega) (by omega)
                    have hO : Hid (Src w2 r.gs r.c (r.n + 1) (r.n * 65536 + r.c) ∧ RSrc w2 r.gr r.c (r.n + 1) (r.n * 65536 + r.c)) := ⟨(hT2.oy _ rfl).1, (hT2.oy _ rfl).2.1⟩
                    have d0 := hT2.s.cell 1
                    have d1 := hT2.r.cell 1
                    simp [sv, rv, S.turn] at d0 d1
                    replace hT2 := Lib.hid hT2
                    clear t2
                    have g0 : 0 ≤ r.n + 1 := by omega
                    have g1 : r.n + 1 ≤ 281474976710656 := by omega
                    go_wp2_with fail
                    go_quiet ((first | (go_at_call 12; exact quiet_left (last_any _ _ _ _ _ (hO.out.1.drewN _))) | (go_at_call 13; exact quiet_left (rlast_any _ _ _ _ _ (hO.out.2.drewN _))) | (go_at_call 14; exact quiet_left (left_any _ _ _ _ _ (hO.out.1.drewN _) (by omega) (by omega))) | (go_at_call 15; exact quiet_left (rleft_any _ _ _ _ _ (hO.out.2.drewN _) (by omega) (by omega)))))
                    go_wp2
                    go_roundw
                    case rel => ((repeat apply Exists.intro); exact ⟨⟨q + 1, _, by omega, by go_num, hT2.out.drewN _⟩, rfl⟩)
                    case measure => simp [intOf]; omega
                  · have hn' : 281474976710655 < r.n := by omega
                    go_wp2_with fail
                    refine (next_end _ _ _ _ _ h1.out hn').mono ?_
                    rintro e w1 ⟨rfl, qq, hw1⟩
                    have hT2 : Two w bS bR x (some r) w1 := by rw [hw1]; exact HT.out.drewN qq
                    clear hw1
                    have hO : Hid (Src w1 r.gs r.c r.n r.l ∧ RSrc w1 r.gr r.c r.n r.l) := ⟨(hT2.oy _ rfl).1, (hT2.oy _ rfl).2.1⟩
                    have d0 := hT2.s.cell 1
                    have d1 := hT2.r.cell 1
                    simp [sv, rv] at d0 d1
                    replace hT2 := Lib.hid hT2
                    go_wp2_with fail
                    refine (rnext_end _ _ _ _ _ hO.out.2 hn').mono ?_
                    rintro e w2 ⟨rfl, rfl⟩
                    go_wp2_with fail
                    go_quiet ((first | (go_at_call 12; exact quiet_left (last_any _ _ _ _ _ (hO.out.1.drewN _))) | (go_at_call 13; exact quiet_left (rlast_any _ _ _ _ _ (hO.out.2.drewN _))) | (go_at_call 14; exact quiet_left (left_any _ _ _ _ _ (hO.out.1.drewN _) (by omega) (by omega))) | (go_at_call 15; exact quiet_left (rleft_any _ _ _ _ _ (hO.out.2.drewN _) (by omega) (by omega)))))
                    go_wp2
                    go_roundw
                    case rel => ((repeat apply Exists.intro); exact ⟨⟨q + 1, r, by omega, by go_num, hT2.out.drewN _⟩, rfl⟩)
                    case measure => simp [intOf]; omega
                · have f0 := HT.out.s.cell 0
                  have f1 := HT.out.r.cell 0
                  simp at f0 f1
                  cases x with
                  | none =>
                    simp only [sv, rv] at f0 f1
                    go_upto_region 28 with fail
                    go_quiet (fail)
                    go_wp2
                    go_roundw
                    case rel => exact ⟨j + 1, none, some r, by omega, by go_num, HT.out.drewN _⟩
                    case measure => simp [intOf]; omega
                  | some v =>
                    simp only [sv, rv] at f0 f1
                    obtain ⟨i1, i2, _, _, i3, g1, _, _⟩ := HT.out.ox v rfl
                    have g0 : 0 ≤ v.n := by omega
                    have hO : Hid (Src wr v.gs v.c v.n v.l ∧ RSrc wr v.gr v.c v.n v.l) := ⟨i1, i2⟩
                    clear i1 i2 i3
                    go_upto_region 28 with fail
                    go_quiet ((first | (go_at_call 12; exact quiet_left (last_any _ _ _ _ _ (hO.out.1.drewN _))) | (go_at_call 13; exact quiet_left (rlast_any _ _ _ _ _ (hO.out.2.drewN _))) | (go_at_call 14; exact quiet_left (left_any _ _ _ _ _ (hO.out.1.drewN _) (by omega) (by omega))) | (go_at_call 15; exact quiet_left (rleft_any _ _ _ _ _ (hO.out.2.drewN _) (by omega) (by omega)))))
                    go_wp2
                    go_roundw
                    case rel => exact ⟨j + 1, some v, some r, by omega, by go_num, HT.out.drewN _⟩
                    case measure => simp [intOf]; omega
        · go_wp2_with fail
          go_ret
          exact ⟨rfl, HT.out.below⟩

/-! ### the row's step -/
theorem own : ownKnob Try.prog.godebug = none := by kernel_rfl
theorem laidOut : laidOutB Try.prog = true := by kernel_rfl
set_option maxHeartbeats 800000 in
set_option maxRecDepth 100000 in
theorem lifted (os : Os) (started : os.Started) (H : Type) (enc : TypeId × Value → H) :
    ReturnsInHanded {} Try.checked os 3 .any (Rows.identGivesSpec.pre6 enc Try.prog Try.f3 Rows.identGivesRow.domain false) (Rows.identGivesSpec.post enc Try.prog Try.f3 false true false false) := by
  refine returnsInHanded_of_change_sized (C := Try.checked) own started (by kernel_rfl) Try.func3
    (ChangeSpec.witness6 (enc := enc) (C := Try.checked) false ⟨#[], #[.int .i64 0, .int .i64 0, .int .u64 0, .int .u64 0, .slice none 0 0], []⟩ 8 (by kernel_rfl) (by kernel_rfl) (by kernel_rfl) (by kernel_rfl)) ?_
  intro W base args ds gs before hval0 hW _ hsz0 _
  have hsz : (DataW.weightsEach Try.prog (Try.f3.params.toList ++ Rows.identGivesSpec.plain.varTypes Try.prog) (ds ++ gs)).all (· ≤ reachBytes) = true := hsz0
  clear hsz0
  have hval : ∀ (j : Nat) t v, Try.f3.params[j]? = some t → args[j]? = some v → Value.okWide Try.prog W .any base t v := hval0
  have hW' := hW
  obtain ⟨p, q, hA0, hV, rfl, _, _⟩ := hW
  have hA : DataW.TrodAll enc Try.prog W 0 (fun _ => true) true Try.f3.params.toList args.toList ds p := hA0
  rw [Try.params3] at hA hval hsz
  obtain ⟨v0, vs0, d0, ds0, p0, q0, hargs, rfl, rfl, h0, r0⟩ := trodAll_cons hA
  obtain ⟨v1, vs1, d1, ds1, p1, q1, rfl, rfl, rfl, h1, r1⟩ := trodAll_cons r0
  obtain ⟨v2, vs2, d2, ds2, p2, q2, rfl, rfl, rfl, h2, r2⟩ := trodAll_cons r1
  obtain ⟨v3, vs3, d3, ds3, p3, q3, rfl, rfl, rfl, h3, r3⟩ := trodAll_cons r2
  obtain ⟨v4, vs4, d4, ds4, p4, q4, rfl, rfl, rfl, h4, r4⟩ := trodAll_cons r3
  obtain ⟨rfl, rfl, rfl⟩ := trodAll_nil r4
  obtain rfl : args = #[v0, v1, v2, v3, v4] := by cases args; simp_all
  obtain ⟨rfl, rfl⟩ := trodVars_none hV
  clear hA0 hval0
  simp only [List.append_nil] at hW'
  have hlt : ∀ y ∈ p0 ++ (p1 ++ (p2 ++ (p3 ++ (p4)))), y.block < W.heap.size := fun y hy => by simpa using hW'.lt y (by simpa using hy)
  have l0 : ∀ y ∈ p0, y.block < W.heap.size := fun y hy => hlt y (by simp [hy])
  have l1 : ∀ y ∈ p1, y.block < W.heap.size := fun y hy => hlt y (by simp [hy])
  have l2 : ∀ y ∈ p2, y.block < W.heap.size := fun y hy => hlt y (by simp [hy])
  have l3 : ∀ y ∈ p3, y.block < W.heap.size := fun y hy => hlt y (by simp [hy])
  have l4 : ∀ y ∈ p4, y.block < W.heap.size := fun y hy => hlt y (by simp [hy])
  have k0 := h0
  have k1 := h1
  have k2 := h2
  have k3 := h3
  have k4 := h4
  obtain ⟨a0, rfl, rfl, rfl, w0⟩ := open_int Try.underlying3 (hval 0 3 v0 rfl rfl) h0
  obtain ⟨a1, rfl, rfl, rfl, w1⟩ := open_int Try.underlying3 (hval 1 3 v1 rfl rfl) h1
  obtain ⟨a2, rfl, rfl, rfl, w2⟩ := open_int Try.underlying22 (hval 2 22 v2 rfl rfl) h2
  obtain ⟨a3, rfl, rfl, rfl, w3⟩ := open_int Try.underlying22 (hval 3 22 v3 rfl rfl) h3
  refine (walk a0 w0 a1 w1 a2 w2 a3 w3 v4 d4 p4 (hval 4 23 v4 rfl rfl) k4 l4).mono fun e W' ⟨he, hn⟩ => ?_
  subst he
  have g0 := Below.trod laidOut (by kernel_rfl) (of_decide_eq_true (by kernel_rfl)) k0 hn l0
  have g1 := Below.trod laidOut (by kernel_rfl) (of_decide_eq_true (by kernel_rfl)) k1 hn l1
  have g2 := Below.trod laidOut (by kernel_rfl) (of_decide_eq_true (by kernel_rfl)) k2 hn l2
  have g3 := Below.trod laidOut (by kernel_rfl) (of_decide_eq_true (by kernel_rfl)) k3 hn l3
  have g4 := Below.trod laidOut (by kernel_rfl) (of_decide_eq_true (by kernel_rfl)) k4 hn l4
  exact ⟨_, rfl, _, _, _, [], _, [], hW', trodAll_cons_mk (shut_bool Try.underlying4 _) trodAll_mk0, (trodAll_cons_mk g0 (trodAll_cons_mk g1 (trodAll_cons_mk g2 (trodAll_cons_mk g3 (trodAll_cons_mk g4 trodAll_mk0))))), rfl, hn.frame _, fun h => by cases h⟩

theorem over : Rows.identGivesRow.holds Try.pinned (OpenSpec.ofChange Rows.identGivesSpec) :=
  OpenClaim.holds_of_wide 3 Try.f3 rfl rfl rfl rfl rfl rfl rfl ⟨rfl, rfl, rfl, rfl, rfl⟩ rfl rfl rfl rfl rfl (by kernel_rfl) Try.func3 (by kernel_rfl)
    (of_decide_eq_true (by kernel_rfl)) (by unfold Func.isWrapper; first | (rw [if_pos (by decide +kernel)]; kernel_rfl) | (rw [if_neg (by decide +kernel)]; exact ⟨rfl, rfl⟩))
    (fun os started H enc _ => lifted os started H enc)

/-- the statement -/
theorem proved : Rows.IdentGivesSaid :=
  over
#print axioms proved

end Go.Proofs.Ytepppnpmcllenaa.identGives
