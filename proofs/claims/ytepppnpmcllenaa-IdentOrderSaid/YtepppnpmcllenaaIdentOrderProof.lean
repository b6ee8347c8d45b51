/- Package ident's names: there and back, and they stand in the order of their sequence numbers, then of their clients: whatever the two numbers and clients. No condition. -/
import Derived.Test.YtepppnpmcllenaaRows
import Derived.WalkKit
import Derived.ProofKit
import Derived.OpenShut
import Derived.Test.YtepppnpmcllenaaPost
import Derived.Test.YtepppnpmcllenaaSource
namespace Go.Proofs.Ytepppnpmcllenaa.identOrder
open Go.ChangeShapes Go.WideShapes Go.ChangeAt Go.RowKit
set_option linter.unusedVariables false      -- a walk need not use every 'w<i>' (that an integer argument fits its kind)

theorem own : ownKnob Try.prog.godebug = none := by kernel_rfl

/-! ### STEP 1: THE WALK: the Go text returns true. 'Below w.heap.size w w'': the world has at most new blocks (Derived/RowKit3.lean). Part the cases AHEAD of 'go_enter' where a test parts the walk; take each callee by a contract of your own. -/
theorem split_made (A c : Int) (w : World) (h0 : 1 ≤ A) (h1 : A ≤ 281474976710655) (h2 : 0 ≤ c) (h3 : c ≤ 65535) :
    Calls Try.prog 18 #[.int .u64 (A * 65536 + c)] w fun e w' => e = .returned (.tuple #[.int .u64 A, .int .i64 c, .int .i64 0]) ∧ w = w' := by
  have h := split_any (A * 65536 + c) w (by omega) (by omega)
  rw [show splN (A * 65536 + c) = A from by unfold splN; rw [if_neg (by omega)]; omega, show splC (A * 65536 + c) = c from by unfold splC; rw [if_neg (by omega)]; omega,
    show splE (A * 65536 + c) = 0 from by unfold splE; rw [if_neg (by omega)]] at h
  exact h
set_option maxHeartbeats 2000000 in
theorem walk (a0 : Int) (a1 : Int) (a2 : Int) (a3 : Int) (w0 : (Lit.int .u64 a0).wf = true) (w1 : (Lit.int .u16 a1).wf = true) (w2 : (Lit.int .u64 a2).wf = true) (w3 : (Lit.int .u16 a3).wf = true) (w : World) :
    Calls Try.prog 6 #[.int .u64 a0, .int .u16 a1, .int .u64 a2, .int .u16 a3] w fun e w' => e = .returned (.bool true) ∧ Below w.heap.size w w' := by
  have b0 : 0 ≤ a0 ∧ a0 ≤ 18446744073709551615 := by simpa [Lit.wf, IntKind.min, IntKind.max, IntKind.signed, IntKind.bits] using w0
  have b1 : 0 ≤ a1 ∧ a1 ≤ 65535 := by simpa [Lit.wf, IntKind.min, IntKind.max, IntKind.signed, IntKind.bits] using w1
  have b2 : 0 ≤ a2 ∧ a2 ≤ 18446744073709551615 := by simpa [Lit.wf, IntKind.min, IntKind.max, IntKind.signed, IntKind.bits] using w2
  have b3 : 0 ≤ a3 ∧ a3 ≤ 65535 := by simpa [Lit.wf, IntKind.min, IntKind.max, IntKind.signed, IntKind.bits] using w3
  clear w0 w1 w2 w3
  obtain ⟨c0, c1⟩ := b1
  obtain ⟨d0, d1⟩ := b3
  have m0 : 0 ≤ a0 % 281474976710655 ∧ a0 % 281474976710655 ≤ 281474976710654 := by omega
  have m1 : 0 ≤ a2 % 281474976710655 ∧ a2 % 281474976710655 ≤ 281474976710654 := by omega
  obtain ⟨k0, k1⟩ := m0
  obtain ⟨k2, k3⟩ := m1
  obtain ⟨b00, b01⟩ := b0
  obtain ⟨b20, b21⟩ := b2
  go_enter Try.func6, Try.ntmps6
  go_wp2_with fail
  refine (alive_true _).mono ?_
  rintro e w' ⟨rfl, hb⟩
  go_wp2_with fail
  have p0 : 1 ≤ 1 + a0 % 281474976710655 := by omega
  have p1 : 1 + a0 % 281474976710655 ≤ 281474976710655 := by omega
  have p2 : 1 ≤ 1 + a2 % 281474976710655 := by omega
  have p3 : 1 + a2 % 281474976710655 ≤ 281474976710655 := by omega
  generalize 1 + a0 % 281474976710655 = A at *
  generalize 1 + a2 % 281474976710655 = B at *
  refine (make_ok A a1 _ (by omega) (by omega) (by omega) (by omega)).mono ?_
  rintro e w1 ⟨rfl, rfl⟩
  go_wp2_with fail
  refine (make_ok B a3 _ (by omega) (by omega) (by omega) (by omega)).mono ?_
  rintro e w1 ⟨rfl, rfl⟩
  go_wp2_with fail
  clear k0 k1 k2 k3 b00 b01 b20 b21
  refine (split_made A a1 _ (by omega) (by omega) (by omega) (by omega)).mono ?_
  rintro e w1 ⟨rfl, rfl⟩
  rcases Int.lt_trichotomy A B with hAB | hAB | hAB
  · have e1 : (A == B) = false := by simp; omega
    have e2 : (A * 65536 + a1 == B * 65536 + a3) = false := by simp; omega
    go_wp2_with fail
    refine (make_ok A a1 _ (by omega) (by omega) (by omega) (by omega)).mono ?_
    rintro e w1 ⟨rfl, rfl⟩
    go_wp2
    go_ret
    exact ⟨rfl, hb⟩
  · subst hAB
    rcases Int.lt_trichotomy a1 a3 with hcd | hcd | hcd
    · have e1 : (a1 == a3) = false := by simp; omega
      have e2 : (A * 65536 + a1 == A * 65536 + a3) = false := by simp; omega
      go_wp2_with fail
      refine (make_ok A a1 _ (by omega) (by omega) (by omega) (by omega)).mono ?_
      rintro e w1 ⟨rfl, rfl⟩
      go_wp2
      go_ret
      exact ⟨rfl, hb⟩
    · subst hcd
      go_wp2_with fail
      refine (make_ok A a1 _ (by omega) (by omega) (by omega) (by omega)).mono ?_
      rintro e w1 ⟨rfl, rfl⟩
      go_wp2
      go_ret
      exact ⟨rfl, hb⟩
    · have e1 : (a1 == a3) = false := by simp; omega
      have e2 : (A * 65536 + a1 == A * 65536 + a3) = false := by simp; omega
      go_wp2_with fail
      refine (make_ok A a1 _ (by omega) (by omega) (by omega) (by omega)).mono ?_
      rintro e w1 ⟨rfl, rfl⟩
      go_wp2
      go_ret
      exact ⟨rfl, hb⟩
  · have e1 : (A == B) = false := by simp; omega
    have e2 : (A * 65536 + a1 == B * 65536 + a3) = false := by simp; omega
    go_wp2_with fail
    refine (make_ok A a1 _ (by omega) (by omega) (by omega) (by omega)).mono ?_
    rintro e w1 ⟨rfl, rfl⟩
    go_wp2
    go_ret
    exact ⟨rfl, hb⟩

/-! ### THE ROW's STEP: WRITTEN OUT: LEAVE IT -/
set_option maxRecDepth 100000 in
theorem lifted (os : Os) (started : os.Started) (H : Type) (enc : TypeId × Value → H) :
    ReturnsInHanded {} Try.checked os 6 .any (Rows.identOrderSpec.pre6 enc Try.prog Try.f6 Rows.identOrderRow.domain false) (Rows.identOrderSpec.post enc Try.prog Try.f6 false true false false) := by
  refine returnsInHanded_of_change (C := Try.checked) own started (by kernel_rfl) Try.func6
    (ChangeSpec.witness6 (enc := enc) (C := Try.checked) false ⟨#[], #[.int .u64 0, .int .u16 0, .int .u64 0, .int .u16 0], []⟩ 8 (by kernel_rfl) (by kernel_rfl) (by kernel_rfl) (by kernel_rfl)) ?_
  intro W base args ds gs before hval0 hW hcnd _
  have hval : ∀ (j : Nat) t v, Try.f6.params[j]? = some t → args[j]? = some v → Value.okWide Try.prog W .any base t v := hval0
  have hW' := hW
  obtain ⟨p, q, hA0, hV, rfl, hfz, hnd⟩ := hW
  have hA : DataW.TrodAll enc Try.prog W 0 (fun _ => true) true Try.f6.params.toList args.toList ds p := hA0
  rw [Try.params6] at hA hval
  obtain ⟨v0, vs0, d0, ds0, p0, q0, hargs, rfl, rfl, h0, r0⟩ := trodAll_cons hA
  obtain ⟨v1, vs1, d1, ds1, p1, q1, rfl, rfl, rfl, h1, r1⟩ := trodAll_cons r0
  obtain ⟨v2, vs2, d2, ds2, p2, q2, rfl, rfl, rfl, h2, r2⟩ := trodAll_cons r1
  obtain ⟨v3, vs3, d3, ds3, p3, q3, rfl, rfl, rfl, h3, r3⟩ := trodAll_cons r2
  obtain ⟨rfl, rfl, rfl⟩ := trodAll_nil r3
  obtain rfl : args = #[v0, v1, v2, v3] := by cases args; simp_all
  obtain ⟨rfl, rfl⟩ := trodVars_none hV
  obtain ⟨a0, rfl, rfl, rfl, w0⟩ := open_int Try.underlying22 (hval 0 22 v0 rfl rfl) h0
  obtain ⟨a1, rfl, rfl, rfl, w1⟩ := open_int Try.underlying44 (hval 1 44 v1 rfl rfl) h1
  obtain ⟨a2, rfl, rfl, rfl, w2⟩ := open_int Try.underlying22 (hval 2 22 v2 rfl rfl) h2
  obtain ⟨a3, rfl, rfl, rfl, w3⟩ := open_int Try.underlying44 (hval 3 44 v3 rfl rfl) h3
  clear hA0 hval0
  simp only [List.append_nil] at hW'
  refine (walk a0 a1 a2 a3 w0 w1 w2 w3 W).mono fun e W' ⟨he, hg⟩ => ?_
  subst he
  exact ⟨_, rfl, post_of_below (pa := []) (pv := []) hW' (fun _ _ _ => (trodAll_cons_mk (shut_bool Try.underlying4 _) trodAll_mk0)) (fun sp _ => (trodAll_cons_mk (shut_int Try.underlying22 w0) (trodAll_cons_mk (shut_int Try.underlying44 w1) (trodAll_cons_mk (shut_int Try.underlying22 w2) (trodAll_cons_mk (shut_int Try.underlying44 w3) trodAll_mk0))))) (fun _ _ => rfl) rfl
    hg (ok_one (by kernel_rfl) rfl (okWide_bool_mk Try.underlying4 _))⟩

theorem over : Rows.identOrderRow.holds Try.pinned (OpenSpec.ofChange Rows.identOrderSpec) :=
  OpenClaim.holds_of_wide 6 Try.f6 rfl rfl rfl rfl rfl rfl rfl ⟨rfl, rfl, rfl, rfl, rfl⟩ rfl rfl rfl rfl rfl (by kernel_rfl) Try.func6 (by kernel_rfl)
    (of_decide_eq_true (by kernel_rfl)) (by unfold Func.isWrapper; first | (rw [if_pos (by decide +kernel)]; kernel_rfl) | (rw [if_neg (by decide +kernel)]; exact ⟨rfl, rfl⟩))
    (fun os started H enc _ => lifted os started H enc)

/-- ████ THE STATEMENT ████ -/
theorem proved : Rows.IdentOrderSaid :=
  over
#print axioms proved
end Go.Proofs.Ytepppnpmcllenaa.identOrder
