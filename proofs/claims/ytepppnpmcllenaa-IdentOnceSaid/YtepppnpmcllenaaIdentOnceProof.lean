/- The names of two clients of package ident, from near the end of one's numbers on: they rise, each one by 65536, none of the one is the other's; behind the one with MaxSeq there is none, and the other goes on: whatever the four numbers. No condition. -/
import Derived.Test.YtepppnpmcllenaaRows
import Derived.WalkKit
import Derived.ProofKit
import Derived.OpenShut
import Derived.Deep.DeepCutAuto
import Derived.Test.YtepppnpmcllenaaPost
import Derived.Test.YtepppnpmcllenaaSource
namespace Go.Proofs.Ytepppnpmcllenaa.identOnce
open Go.ChangeShapes Go.WideShapes Go.ChangeAt Go.RowKit
set_option linter.unusedVariables false      -- a walk need not use every 'w<i>' (that an integer argument fits its kind)

theorem own : ownKnob Try.prog.godebug = none := by kernel_rfl

/-! ### STEP 1: THE WALK: the Go text returns true. 'Below w.heap.size w w'': the world has at most new blocks (Derived/RowKit3.lean). Part the cases AHEAD of 'go_enter' where a test parts the walk; take each callee by a contract of your own. -/
theorem u16_in (n : Int) (h0 : 0 ≤ n) (h1 : n ≤ 65535) : IntKind.u16.wrap n = n := by
  simp [IntKind.wrap, IntKind.bits, IntKind.signed]; omega
theorem u16_over : IntKind.u16.wrap 65536 = 0 := by decide

/-- The first loop, k names having been given by each of the two. -/
def Once1 (w : World) (g h : Nat) (a0 o L : Int) (la i : Value) (wr : World) : Prop := ∃ (k l l' : Int), 0 ≤ k ∧ k ≤ L + 1 ∧ i = .int .u64 k ∧ la = .int .u64 l ∧ (k = 0 ∧ l = 0 ∨ 0 < k ∧ l = (281474976710655 - L + k - 1) * 65536 + a0) ∧ Src wr g a0 (281474976710655 - L + k) l ∧ Src wr h o (281474976710655 - L - 20 + k) l' ∧ Below w.heap.size w wr
/-- The second loop. -/
def Once2 (w : World) (g h : Nat) (a0 o p l l' : Int) (i : Value) (wr : World) : Prop := ∃ k : Int, 0 ≤ k ∧ k ≤ 9 ∧ i = .int .i64 k ∧ Src wr g a0 281474976710656 l ∧ Src wr h o p l' ∧ Below w.heap.size w wr
def Other (w : World) (a0 : Int) (v : Value) (wr : World) : Prop := ∃ o : Int, v = .int .u16 o ∧ 0 ≤ o ∧ o ≤ 65535 ∧ o ≠ a0 ∧ Below w.heap.size w wr

set_option maxRecDepth 100000 in
set_option maxHeartbeats 4000000 in
theorem walk (a0 : Int) (a1 : Int) (a2 : Int) (a3 : Int) (w0 : (Lit.int .u16 a0).wf = true) (w1 : (Lit.int .u16 a1).wf = true) (w2 : (Lit.int .u8 a2).wf = true) (w3 : (Lit.int .u8 a3).wf = true) (w : World) :
    Calls Try.prog 4 #[.int .u16 a0, .int .u16 a1, .int .u8 a2, .int .u8 a3] w fun e w' => e = .returned (.bool true) ∧ Below w.heap.size w w' := by
  have b0 : 0 ≤ a0 ∧ a0 ≤ 65535 := by simpa [Lit.wf, IntKind.min, IntKind.max, IntKind.signed, IntKind.bits] using w0
  have b1 : 0 ≤ a1 ∧ a1 ≤ 65535 := by simpa [Lit.wf, IntKind.min, IntKind.max, IntKind.signed, IntKind.bits] using w1
  have b2 : 0 ≤ a2 ∧ a2 ≤ 255 := by simpa [Lit.wf, IntKind.min, IntKind.max, IntKind.signed, IntKind.bits] using w2
  have b3 : 0 ≤ a3 ∧ a3 ≤ 255 := by simpa [Lit.wf, IntKind.min, IntKind.max, IntKind.signed, IntKind.bits] using w3
  clear w0 w1 w2 w3
  have hq : ∀ (p : Addr) (W : World), (binOp .eql 27 (.pointer (some p)) (.pointer none)).run Try.prog W = .ok (.bool false) W := fun _ _ => by kernel_rfl
  obtain ⟨c0, c1⟩ := b0
  obtain ⟨d0, d1⟩ := b1
  obtain ⟨l0, l1⟩ := b2
  obtain ⟨m0, m1⟩ := b3
  have k0 : 0 ≤ a2 % 40 := by omega
  have k1 : a2 % 40 < 40 := by omega
  have k2 : 0 ≤ a3 % 9 := by omega
  have k3 : a3 % 9 < 9 := by omega
  have hx : 0 ≤ IntKind.u16.wrap (a0 + 1) ∧ IntKind.u16.wrap (a0 + 1) ≤ 65535 ∧ IntKind.u16.wrap (a0 + 1) ≠ a0 := by
    have : IntKind.u16.wrap (a0 + 1) = (a0 + 1) % 65536 := by simp [IntKind.wrap, IntKind.bits, IntKind.signed]
    rw [this]; omega
  go_enter Try.func4, Try.ntmps4
  go_wp2_with fail
  refine (alive_true _).mono ?_
  rintro e w' ⟨rfl, hb⟩
  go_upto_if 34 with fail
  go_cut [1] (fun s1 wx => Other w a0 s1 wx)
  case first =>
    by_cases hne : a0 = a1
    · subst hne
      go_wp2_with fail
      go_meet
      exact ⟨_, rfl, hx.1, hx.2.1, hx.2.2, hb⟩
    · have e1 : (a0 == a1) = false := by simpa using hne
      have x2 : Hid (a1 ≠ a0) := Lib.hid (fun e => hne e.symm)
      clear hne
      go_wp2_with fail
      go_meet
      exact ⟨_, rfl, d0, d1, x2.out, hb⟩
  case rest =>
    obtain ⟨o, rfl, x0, x1, x2', hb1⟩ := hcut
    have x2 := Lib.hid x2'
    clear x2' hb hx d0 d1
    go_wp2_with fail
    generalize a2 % 40 = L at *
    refine (of_ok a0 (281474976710655 - L) _ (by omega) (by omega) (by omega) (by omega)).mono ?_
    rintro e w1 ⟨rfl, rfl⟩
    go_wp2_with fail
    refine (of_ok o (281474976710655 - L - 20) _ (by omega) (by omega) (by omega) (by omega)).mono ?_
    rintro e w1 ⟨rfl, rfl⟩
    have hb := hb1
    clear hb1
    rw [first1_hi (n := 281474976710655 - L) (by omega), first1_hi (n := 281474976710655 - L - 20) (by omega)]
    rw [World.size_alloc]
    have HS : Src ((wc.alloc (.cells #[.int .i64 a0, .int .u64 (281474976710655 - L), .int .u64 0] 56)).alloc (.cells #[.int .i64 o, .int .u64 (281474976710655 - L - 20), .int .u64 0] 56)) wc.heap.size a0 (281474976710655 - L) 0 := (Blk.new _ _ _).alloc _
    have HT : Src ((wc.alloc (.cells #[.int .i64 a0, .int .u64 (281474976710655 - L), .int .u64 0] 56)).alloc (.cells #[.int .i64 o, .int .u64 (281474976710655 - L - 20), .int .u64 0] 56)) (wc.heap.size + 1) o (281474976710655 - L - 20) 0 := by
      have := Blk.new (wc.alloc (.cells #[.int .i64 a0, .int .u64 (281474976710655 - L), .int .u64 0] 56)) 56 #[.int .i64 o, .int .u64 (281474976710655 - L - 20), .int .u64 0]
      rw [World.size_alloc] at this
      exact this
    have hb2 : Below w.heap.size w ((wc.alloc (.cells #[.int .i64 a0, .int .u64 (281474976710655 - L), .int .u64 0] 56)).alloc (.cells #[.int .i64 o, .int .u64 (281474976710655 - L - 20), .int .u64 0] 56)) :=
      (hb.alloc hb.size _).alloc (by have := hb.size; simp; omega) _
    have hsz : w.heap.size ≤ wc.heap.size := hb.size
    generalize (wc.alloc (.cells #[.int .i64 a0, .int .u64 (281474976710655 - L), .int .u64 0] 56)).alloc (.cells #[.int .i64 o, .int .u64 (281474976710655 - L - 20), .int .u64 0] 56) = W at *
    have hgh : Hid (wc.heap.size ≠ wc.heap.size + 1) := Lib.hid (by omega)
    have hsh : w.heap.size ≤ wc.heap.size + 1 := by omega
    generalize wc.heap.size + 1 = h at *
    generalize wc.heap.size = g at *
    have HS := Lib.hid HS
    have HT := Lib.hid HT
    have e2 : (281474976710656 - (281474976710655 - L) != L + 1) = false := by simp; omega
    clear hb
    go_wp2_with fail
    refine (left_any _ _ _ _ _ HS.out (by omega) (by omega)).mono ?_
    rintro e w1 ⟨rfl, rfl⟩
    go_wp2_with fail
    clear e2
    go_loopw [14, 15] (fun la i wr => Once1 w g h a0 o L la i wr) (fun _ i _ => (40 - intOf i).toNat)
    case atStart => exact ⟨0, 0, 0, by omega, by omega, rfl, rfl, .inl ⟨rfl, rfl⟩, by simpa using HS.out, by simpa using HT.out, hb2⟩
    case round =>
      obtain ⟨k, l, l', k0, k1, rfl, rfl, hl, hs, ht, hbr⟩ := hrel
      by_cases hkL : k ≤ L
      · obtain ⟨n, hn⟩ : ∃ n, n = 281474976710655 - L + k := ⟨_, rfl⟩
        obtain ⟨p, hp⟩ : ∃ p, p = 281474976710655 - L - 20 + k := ⟨_, rfl⟩
        have hx : Hid (Src wr g a0 n l) := by rw [hn]; exact hs
        have hy : Hid (Src wr h o p l') := by rw [hp]; exact ht
        have n0 : 1 ≤ n := by omega
        have n1 : n ≤ 281474976710655 := by omega
        have p0 : 1 ≤ p := by omega
        have p1 : p ≤ 281474976710655 := by omega
        have hls : l < n * 65536 + a0 := by omega
        have hl0 : 0 ≤ l := by omega
        have x2o := x2.out
        have e1 : (n * 65536 + a0 == p * 65536 + o) = false := by simp; omega
        have e2 : (281474976710656 - (n + 1) != L - k) = false := by simp; omega
        have e3 : (a0 % 65536 != a0) = false := by simp; omega
        have e4 : (o % 65536 != o) = false := by simp; omega
        have e7 : a0 % 65536 = a0 := by omega
        have e8 : o % 65536 = o := by omega
        have e5 : 0 ≤ 281474976710656 - (n + 1) := by omega
        have hnext : Hid (281474976710655 - L + (k + 1) = n + 1 ∧ 281474976710655 - L - 20 + (k + 1) = p + 1 ∧ n * 65536 + a0 = (281474976710655 - L + (k + 1) - 1) * 65536 + a0) := Lib.hid (by omega)
        have hbrH := Lib.hid hbr
        have hsz2 : w.heap.size ≤ wr.heap.size := hbr.size
        clear x2o hs ht hbr
        rcases hl with ⟨hk0, hl0'⟩ | ⟨hk0, hl1⟩
        · have hl2 : l ≤ 0 := by omega
          clear hk0 hl0' hn hp
          go_wp2_with fail
          refine (next_ok _ _ _ _ _ hx.out (by omega) (by omega) (by omega) (by omega)).mono ?_
          rintro e w1 ⟨rfl, ht1⟩
          have hgh' := hgh.out
          have hy1 : Hid (Src w1 h o p l') := hy.out.grown ht1.2.1 (fun e => hgh' (by injection e with e; exact e.symm))
          have hz1 : w1.heap.size = wr.heap.size := ht1.2.2
          have hT1 := Lib.hid ht1
          have hz1 := Lib.hid hz1
          clear ht1 hgh'
          go_wp2_with fail
          refine (next_ok _ _ _ _ _ hy1.out (by omega) (by omega) (by omega) (by omega)).mono ?_
          rintro e w2 ⟨rfl, ht2⟩
          have hgh' := hgh.out
          have hx2 : Hid (Src w2 g a0 (n + 1) (n * 65536 + a0)) := hT1.out.1.grown ht2.2.1 (fun e => hgh' (by injection e))
          have hy2 : Hid (Src w2 h o (p + 1) (p * 65536 + o)) := ht2.1
          have hb2' : Hid (Below w.heap.size w w2) := Lib.hid (only_below (only_below hbrH.out hT1.out.2.1 hsz2 hsz) ht2.2.1 (by rw [hz1.out]; exact hsz2) hsh)
          clear ht2 hgh'
          go_wp2_with fail
          refine (last_any _ _ _ _ _ hx2.out).mono ?_
          rintro e w3 ⟨rfl, rfl⟩
          go_wp2_with fail
          refine (left_any _ _ _ _ _ hx2.out (by omega) (by omega)).mono ?_
          rintro e w3 ⟨rfl, rfl⟩
          go_wp2
          go_roundw
          case rel => exact ⟨k + 1, n * 65536 + a0, p * 65536 + o, by omega, by omega, rfl, rfl, .inr ⟨by omega, hnext.out.2.2⟩, by rw [hnext.out.1]; exact hx2.out, by rw [hnext.out.2.1]; exact hy2.out, hb2'.out⟩
          case measure => simp [intOf]; omega
        · have hl2 : 0 < l := by omega
          have e6 : (n * 65536 + a0 - l != 65536) = false := by simp; omega
          clear hk0 hl1 hn hp
          go_wp2_with fail
          refine (next_ok _ _ _ _ _ hx.out (by omega) (by omega) (by omega) (by omega)).mono ?_
          rintro e w1 ⟨rfl, ht1⟩
          have hgh' := hgh.out
          have hy1 : Hid (Src w1 h o p l') := hy.out.grown ht1.2.1 (fun e => hgh' (by injection e with e; exact e.symm))
          have hz1 : w1.heap.size = wr.heap.size := ht1.2.2
          have hT1 := Lib.hid ht1
          have hz1 := Lib.hid hz1
          clear ht1 hgh'
          go_wp2_with fail
          refine (next_ok _ _ _ _ _ hy1.out (by omega) (by omega) (by omega) (by omega)).mono ?_
          rintro e w2 ⟨rfl, ht2⟩
          have hgh' := hgh.out
          have hx2 : Hid (Src w2 g a0 (n + 1) (n * 65536 + a0)) := hT1.out.1.grown ht2.2.1 (fun e => hgh' (by injection e))
          have hy2 : Hid (Src w2 h o (p + 1) (p * 65536 + o)) := ht2.1
          have hb2' : Hid (Below w.heap.size w w2) := Lib.hid (only_below (only_below hbrH.out hT1.out.2.1 hsz2 hsz) ht2.2.1 (by rw [hz1.out]; exact hsz2) hsh)
          clear ht2 hgh'
          go_wp2_with fail
          refine (last_any _ _ _ _ _ hx2.out).mono ?_
          rintro e w3 ⟨rfl, rfl⟩
          go_wp2_with fail
          refine (left_any _ _ _ _ _ hx2.out (by omega) (by omega)).mono ?_
          rintro e w3 ⟨rfl, rfl⟩
          go_wp2
          go_roundw
          case rel => exact ⟨k + 1, n * 65536 + a0, p * 65536 + o, by omega, by omega, rfl, rfl, .inr ⟨by omega, hnext.out.2.2⟩, by rw [hnext.out.1]; exact hx2.out, by rw [hnext.out.2.1]; exact hy2.out, hb2'.out⟩
          case measure => simp [intOf]; omega
      · have hk : Hid (k = L + 1) := Lib.hid (by omega)
        have hlq : Hid (l = 281474976710655 * 65536 + a0) := Lib.hid (by have := hk.out; omega)
        have hx : Hid (Src wr g a0 281474976710656 l) := by have e := hk.out; rw [show (281474976710656 : Int) = 281474976710655 - L + k from by omega]; exact hs
        have hy : Hid (Src wr h o 281474976710636 l') := by have e := hk.out; rw [show (281474976710636 : Int) = 281474976710655 - L - 20 + k from by omega]; exact ht
        have hbrH := Lib.hid hbr
        have e1 : (l / 65536 != 281474976710655) = false := by have := hlq.out; simp; omega
        have hl0 : 0 ≤ l := by have := hlq.out; omega
        have hl9 : l ≤ 18446744073709551615 := by have := hlq.out; omega
        clear hl hs ht hbr
        go_wp2_with fail
        obtain ⟨wo, hwo⟩ : ∃ wo : World, wo = wr := ⟨_, rfl⟩
        subst hwo
        go_loopw [20] (fun i wr => Once2 w g h a0 o 281474976710636 l l' i wr) (fun i _ => (10 - intOf i).toNat)
        case atStart => exact ⟨0, by omega, by omega, rfl, hx.out, hy.out, hbrH.out⟩
        case round =>
          obtain ⟨j, j0, j1, rfl, hs, ht, hb3⟩ := hrel
          have hs := Lib.hid hs
          have ht := Lib.hid ht
          have hb3 := Lib.hid hb3
          by_cases hj : j ≤ a3 % 9
          · go_wp2_with fail
            refine (next_end _ _ _ _ _ hs.out (by omega)).mono ?_
            rintro e w1 ⟨rfl, q, rfl⟩
            go_wp2_with fail
            refine (last_any _ _ _ _ _ (hs.out.drewN q)).mono ?_
            rintro e w1 ⟨rfl, rfl⟩
            go_wp2_with fail
            refine (left_any _ _ _ _ _ (hs.out.drewN q) (by omega) (by omega)).mono ?_
            rintro e w1 ⟨rfl, rfl⟩
            go_wp2
            go_roundw
            case rel => exact ⟨j + 1, by omega, by omega, rfl, hs.out.drewN q, ht.out.drewN q, below_drewN hb3.out q⟩
            case measure => simp [intOf]; omega
          · go_wp2_with fail
            refine (next_ok _ _ _ _ _ ht.out (by omega) (by omega) (by omega) (by omega)).mono ?_
            rintro e w1 ⟨rfl, ht1⟩
            have hb4 : Hid (Below w.heap.size w w1) := Lib.hid (only_below hb3.out ht1.2.1 hb3.out.size hsh)
            clear ht1
            go_wp2_with fail
            refine (make_seq _ _ _ (.inr (by omega))).mono ?_
            rintro e w2 ⟨rfl, rfl⟩
            go_wp2
            go_ret
            exact ⟨rfl, hb4.out⟩

/-! ### THE ROW's STEP: WRITTEN OUT: LEAVE IT -/
set_option maxRecDepth 100000 in
theorem lifted (os : Os) (started : os.Started) (H : Type) (enc : TypeId × Value → H) :
    ReturnsInHanded {} Try.checked os 4 .any (Rows.identOnceSpec.pre6 enc Try.prog Try.f4 Rows.identOnceRow.domain false) (Rows.identOnceSpec.post enc Try.prog Try.f4 false true false false) := by
  refine returnsInHanded_of_change (C := Try.checked) own started (by kernel_rfl) Try.func4
    (ChangeSpec.witness6 (enc := enc) (C := Try.checked) false ⟨#[], #[.int .u16 0, .int .u16 0, .int .u8 0, .int .u8 0], []⟩ 8 (by kernel_rfl) (by kernel_rfl) (by kernel_rfl) (by kernel_rfl)) ?_
  intro W base args ds gs before hval0 hW hcnd _
  have hval : ∀ (j : Nat) t v, Try.f4.params[j]? = some t → args[j]? = some v → Value.okWide Try.prog W .any base t v := hval0
  have hW' := hW
  obtain ⟨p, q, hA0, hV, rfl, hfz, hnd⟩ := hW
  have hA : DataW.TrodAll enc Try.prog W 0 (fun _ => true) true Try.f4.params.toList args.toList ds p := hA0
  rw [Try.params4] at hA hval
  obtain ⟨v0, vs0, d0, ds0, p0, q0, hargs, rfl, rfl, h0, r0⟩ := trodAll_cons hA
  obtain ⟨v1, vs1, d1, ds1, p1, q1, rfl, rfl, rfl, h1, r1⟩ := trodAll_cons r0
  obtain ⟨v2, vs2, d2, ds2, p2, q2, rfl, rfl, rfl, h2, r2⟩ := trodAll_cons r1
  obtain ⟨v3, vs3, d3, ds3, p3, q3, rfl, rfl, rfl, h3, r3⟩ := trodAll_cons r2
  obtain ⟨rfl, rfl, rfl⟩ := trodAll_nil r3
  obtain rfl : args = #[v0, v1, v2, v3] := by cases args; simp_all
  obtain ⟨rfl, rfl⟩ := trodVars_none hV
  obtain ⟨a0, rfl, rfl, rfl, w0⟩ := open_int Try.underlying44 (hval 0 44 v0 rfl rfl) h0
  obtain ⟨a1, rfl, rfl, rfl, w1⟩ := open_int Try.underlying44 (hval 1 44 v1 rfl rfl) h1
  obtain ⟨a2, rfl, rfl, rfl, w2⟩ := open_int Try.underlying5 (hval 2 5 v2 rfl rfl) h2
  obtain ⟨a3, rfl, rfl, rfl, w3⟩ := open_int Try.underlying5 (hval 3 5 v3 rfl rfl) h3
  clear hA0 hval0
  simp only [List.append_nil] at hW'
  refine (walk a0 a1 a2 a3 w0 w1 w2 w3 W).mono fun e W' ⟨he, hg⟩ => ?_
  subst he
  exact ⟨_, rfl, post_of_below (pa := []) (pv := []) hW' (fun _ _ _ => (trodAll_cons_mk (shut_bool Try.underlying4 _) trodAll_mk0)) (fun sp _ => (trodAll_cons_mk (shut_int Try.underlying44 w0) (trodAll_cons_mk (shut_int Try.underlying44 w1) (trodAll_cons_mk (shut_int Try.underlying5 w2) (trodAll_cons_mk (shut_int Try.underlying5 w3) trodAll_mk0))))) (fun _ _ => rfl) rfl
    hg (ok_one (by kernel_rfl) rfl (okWide_bool_mk Try.underlying4 _))⟩

theorem over : Rows.identOnceRow.holds Try.pinned (OpenSpec.ofChange Rows.identOnceSpec) :=
  OpenClaim.holds_of_wide 4 Try.f4 rfl rfl rfl rfl rfl rfl rfl ⟨rfl, rfl, rfl, rfl, rfl⟩ rfl rfl rfl rfl rfl (by kernel_rfl) Try.func4 (by kernel_rfl)
    (of_decide_eq_true (by kernel_rfl)) (by unfold Func.isWrapper; first | (rw [if_pos (by decide +kernel)]; kernel_rfl) | (rw [if_neg (by decide +kernel)]; exact ⟨rfl, rfl⟩))
    (fun os started H enc _ => lifted os started H enc)

/-- ████ THE STATEMENT ████ -/
theorem proved : Rows.IdentOnceSaid :=
  over
#print axioms proved
end Go.Proofs.Ytepppnpmcllenaa.identOnce
