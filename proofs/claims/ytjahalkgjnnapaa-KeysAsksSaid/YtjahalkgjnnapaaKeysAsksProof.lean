/- KeysAsks: what the walk shows the printed function answers, and that it is true. -/
import Derived.Test.YtjahalkgjnnapaaRows
import Derived.WalkKit
import Derived.ProofKit
import Derived.OpenShut
import Derived.ChangeMaps5
import Derived.Test.YtjahalkgjnnapaaLa
import Derived.Test.YtjahalkgjnnapaaOpen
import Derived.Test.YtjahalkgjnnapaaPRa
namespace Go.Proofs.Ytjahalkgjnnapaa.G
open Go.RowKit Go.Proofs.YtjahalkgjnnapaaW.PrintWords Hand
theorem keysAsks_ev (a b : List ByteArray) (x : ByteArray) : Ev (fun k => rampartlaw04_KeysAsks.f k a b x) true := by
  simp only [rampartlaw04_KeysAsks.f]
  refine Ev.bind alive_ev (Ev.pos (by first | trivial | rfl) ?_)
  by_cases h1 : (a.length : Int) > 1200
  · refine Ev.pos h1 (Ev.succ ?_)
    simp only [rampartlaw04_KeysAsks.j0]
    exact Ev.pos (by first | trivial | rfl) (Ev.pure _)
  refine Ev.neg h1 (Ev.succ ?_)
  simp only [rampartlaw04_KeysAsks.j0]
  by_cases h2 : (b.length : Int) > 1200
  · exact Ev.pos (decide_eq_true h2) (Ev.pure _)
  refine Ev.neg (by simpa using h2) ?_
  have z1 := sortOf_length a
  have z2 := unionOf_length a b
  have z3 := someOf_length a b true
  have z4 := someOf_length a b false
  refine Ev.bind (own_ev a (by omega)) (Ev.bind (keys_Sorted_ev a) (Ev.bind (ref_Sorted_ev a) (Ev.pos (by first | trivial | rfl) (Ev.bind (same_ev _ (by omega)) (Ev.pos (by first | trivial | rfl) ?_)))))
  refine Ev.bind (own_ev a (by omega)) (Ev.bind (keys_Valid_ev a) (Ev.bind (ref_Valid_ev a) (Ev.neg (by simp) ?_)))
  refine Ev.bind (own_ev a (by omega)) (Ev.bind (keys_Rising_ev a (by omega)) (Ev.bind (ref_Rising_ev a (by omega)) (Ev.neg (by simp) ?_)))
  refine Ev.bind (own_ev a (by omega)) (Ev.bind (keys_Has_ev a x (by omega)) (Ev.bind (ref_Has_ev a x (by omega)) (Ev.succ ?_)))
  simp only [rampartlaw04_KeysAsks.j1]
  refine Ev.neg (by simp) (Ev.bind (own_ev a (by omega)) (Ev.bind (own_ev b (by omega)) (Ev.bind (keys_Union_ev a b (by omega) (by omega)) (Ev.bind (ref_Union_ev a b (by omega) (by omega)) (Ev.pos (by first | trivial | rfl) (Ev.bind (same_ev _ (by omega)) (Ev.succ ?_)))))))
  simp only [rampartlaw04_KeysAsks.j2]
  refine Ev.neg (by simp) (Ev.bind (own_ev a (by omega)) (Ev.bind (own_ev b (by omega)) (Ev.bind (keys_Common_ev a b (by omega) (by omega)) (Ev.bind (ref_Common_ev a b (by omega) (by omega)) (Ev.pos (by first | trivial | rfl) (Ev.bind (same_ev _ (by omega)) (Ev.succ ?_)))))))
  simp only [rampartlaw04_KeysAsks.j3]
  exact Ev.neg (by simp) (Ev.bind (own_ev a (by omega)) (Ev.bind (own_ev b (by omega)) (Ev.bind (keys_Minus_ev a b (by omega) (by omega)) (Ev.bind (ref_Minus_ev a b (by omega) (by omega)) (Ev.pos (by first | trivial | rfl) (Ev.bind (same_ev _ (by omega)) (Ev.pure _)))))))
end Go.Proofs.Ytjahalkgjnnapaa.G
namespace Go.Proofs.Ytjahalkgjnnapaa.keysAsks
open Go.ChangeShapes Go.WideShapes Go.ChangeAt Go.RowKit
set_option linter.unusedVariables false

theorem walk {H : Type} {enc : TypeId × Value → H} {base : Nat} {ts : List Nat} {dd : List (DataW H)}
    (v0 : Value) (d0 : DataW H) (p0 : List MemPlace) {w : World} (hv0 : Value.okWide Try.prog w .any base 22 v0) (h0 : DataW.Trod enc Try.prog w 0 (fun _ => true) true 22 v0 d0 p0) (hl0 : ∀ y ∈ p0, y.block < w.heap.size)
    (v1 : Value) (d1 : DataW H) (p1 : List MemPlace) (hv1 : Value.okWide Try.prog w .any base 22 v1) (h1 : DataW.Trod enc Try.prog w 0 (fun _ => true) true 22 v1 d1 p1) (hl1 : ∀ y ∈ p1, y.block < w.heap.size)
    (a2 : ByteArray) (w2 : a2.size ≤ maxLen) (hsz : (DataW.weightsEach Try.prog ts dd).all (· ≤ reachBytes) = true) :
    Calls Try.prog 3 #[v0, v1, .string a2] w fun e w' => e = .returned (.bool true) ∧ Below w.heap.size w w' := by
  obtain ⟨A0, l0, c0, rfl, hr0, hc0⟩ := G.open_texts hv0 h0
  obtain ⟨A1, l1, c1, rfl, hr1, hc1⟩ := G.open_texts hv1 h1
  obtain ⟨k, hk⟩ := (G.keysAsks_ev l0 l1 a2).get
  exact G.rampartlaw04_KeysAsks.calls k A0 c0 l0 A1 c1 l1 a2 true w hr0 hc0 hr1 hc1 hk

/-! ### the row's step -/
theorem own : ownKnob Try.prog.godebug = none := by kernel_rfl
theorem laidOut : laidOutB Try.prog = true := by kernel_rfl
set_option maxHeartbeats 800000 in
set_option maxRecDepth 100000 in
theorem lifted (os : Os) (started : os.Started) (H : Type) (enc : TypeId × Value → H) :
    ReturnsInHanded {} Try.checked os 3 .any (Rows.keysAsksSpec.pre6 enc Try.prog Try.f3 Rows.keysAsksRow.domain false) (Rows.keysAsksSpec.post enc Try.prog Try.f3 false true false false) := by
  refine returnsInHanded_of_change_sized (C := Try.checked) own started (by kernel_rfl) Try.func3
    (ChangeSpec.witness6 (enc := enc) (C := Try.checked) false ⟨#[], #[.slice none 0 0, .slice none 0 0, .string ⟨#[]⟩], []⟩ 8 (by kernel_rfl) (by kernel_rfl) (by kernel_rfl) (by kernel_rfl)) ?_
  intro W base args ds gs before hval0 hW _ hsz0 _
  have hsz : (DataW.weightsEach Try.prog (Try.f3.params.toList ++ Rows.keysAsksSpec.plain.varTypes Try.prog) (ds ++ gs)).all (· ≤ reachBytes) = true := hsz0
  clear hsz0
  have hval : ∀ (j : Nat) t v, Try.f3.params[j]? = some t → args[j]? = some v → Value.okWide Try.prog W .any base t v := hval0
  have hW' := hW
  obtain ⟨p, q, hA0, hV, rfl, _, _⟩ := hW
  have hA : DataW.TrodAll enc Try.prog W 0 (fun _ => true) true Try.f3.params.toList args.toList ds p := hA0
  rw [Try.params3] at hA hval hsz
  obtain ⟨v0, vs0, d0, ds0, p0, q0, hargs, rfl, rfl, h0, r0⟩ := trodAll_cons hA
  obtain ⟨v1, vs1, d1, ds1, p1, q1, rfl, rfl, rfl, h1, r1⟩ := trodAll_cons r0
  obtain ⟨v2, vs2, d2, ds2, p2, q2, rfl, rfl, rfl, h2, r2⟩ := trodAll_cons r1
  obtain ⟨rfl, rfl, rfl⟩ := trodAll_nil r2
  obtain rfl : args = #[v0, v1, v2] := by cases args; simp_all
  obtain ⟨rfl, rfl⟩ := trodVars_none hV
  clear hA0 hval0
  simp only [List.append_nil] at hW'
  have hlt : ∀ y ∈ p0 ++ (p1 ++ (p2)), y.block < W.heap.size := fun y hy => by simpa using hW'.lt y (by simpa using hy)
  have l0 : ∀ y ∈ p0, y.block < W.heap.size := fun y hy => hlt y (by simp [hy])
  have l1 : ∀ y ∈ p1, y.block < W.heap.size := fun y hy => hlt y (by simp [hy])
  have l2 : ∀ y ∈ p2, y.block < W.heap.size := fun y hy => hlt y (by simp [hy])
  have k0 := h0
  have k1 := h1
  have k2 := h2
  obtain ⟨a2, rfl, rfl, rfl, w2⟩ := Go.ChangeMaps.open_string Try.underlying9 (hval 2 9 v2 rfl rfl) h2
  refine (walk v0 d0 p0 (hval 0 22 v0 rfl rfl) k0 l0 v1 d1 p1 (hval 1 22 v1 rfl rfl) k1 l1 a2 w2 hsz).mono fun e W' ⟨he, hn⟩ => ?_
  subst he
  have g0 := Below.trod laidOut (by kernel_rfl) (of_decide_eq_true (by kernel_rfl)) k0 hn l0
  have g1 := Below.trod laidOut (by kernel_rfl) (of_decide_eq_true (by kernel_rfl)) k1 hn l1
  have g2 := Below.trod laidOut (by kernel_rfl) (of_decide_eq_true (by kernel_rfl)) k2 hn l2
  exact ⟨_, rfl, _, _, _, [], _, [], hW', trodAll_cons_mk (shut_bool Try.underlying4 _) trodAll_mk0, (trodAll_cons_mk g0 (trodAll_cons_mk g1 (trodAll_cons_mk g2 trodAll_mk0))), rfl, hn.frame _, fun h => by cases h⟩

theorem over : Rows.keysAsksRow.holds Try.pinned (OpenSpec.ofChange Rows.keysAsksSpec) :=
  OpenClaim.holds_of_wide 3 Try.f3 rfl rfl rfl rfl rfl rfl rfl ⟨rfl, rfl, rfl, rfl, rfl⟩ rfl rfl rfl rfl rfl (by kernel_rfl) Try.func3 (by kernel_rfl)
    (of_decide_eq_true (by kernel_rfl)) (by unfold Func.isWrapper; first | (rw [if_pos (by decide +kernel)]; kernel_rfl) | (rw [if_neg (by decide +kernel)]; exact ⟨rfl, rfl⟩))
    (fun os started H enc _ => lifted os started H enc)

/-- the statement -/
theorem proved : Rows.KeysAsksSaid :=
  over
#print axioms proved
