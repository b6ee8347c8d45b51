/- KeysPairs: what the walk shows the printed function answers, and that it is true. -/
import Derived.Test.YtjahalkgjnnapaaRows
import Derived.WalkKit
import Derived.ProofKit
import Derived.OpenShut
import Derived.Test.YtjahalkgjnnapaaLp
import Derived.Test.YtjahalkgjnnapaaOpen
import Derived.Test.YtjahalkgjnnapaaPRa
namespace Go.Proofs.Ytjahalkgjnnapaa.G
open Go.RowKit Go.Proofs.YtjahalkgjnnapaaW.PrintWords Hand
theorem keysPairs_ev (l : List S41) : Ev (fun k => rampartlaw04_KeysPairs.f k l) true := by
  simp only [rampartlaw04_KeysPairs.f]
  refine Ev.bind alive_ev (Ev.pos (by first | trivial | rfl) ?_)
  by_cases h1 : (l.length : Int) > 1200
  · exact Ev.pos h1 (Ev.pure _)
  have z := norm41_len l
  refine Ev.neg h1 (Ev.bind (ownPairs_ev l (by omega)) (Ev.bind (keys_Norm_ev l (by omega)) (Ev.bind (ref_Norm_ev l (by omega)) (Ev.pos (by first | trivial | rfl) (Ev.bind (samePairs_ev _ (by omega)) (Ev.pos (by first | trivial | rfl) ?_))))))
  refine Ev.bind (ownPairs_ev l (by omega)) (Ev.bind (keys_ValidPairs_ev l (by omega)) (Ev.bind (ref_ValidPairs_ev l (by omega)) (Ev.pos (by simp) ?_)))
  exact Ev.bind (ownPairs_ev l (by omega)) (Ev.bind (keys_Names_ev l (by omega)) (Ev.bind (ref_Names_ev l (by omega)) (Ev.bind (same_ev _ (by rw [List.length_map]; omega)) (Ev.pure _))))
end Go.Proofs.Ytjahalkgjnnapaa.G
namespace Go.Proofs.Ytjahalkgjnnapaa.keysPairs
open Go.ChangeShapes Go.WideShapes Go.ChangeAt Go.RowKit
set_option linter.unusedVariables false

theorem walk {H : Type} {enc : TypeId × Value → H} {base : Nat} {ts : List Nat} {dd : List (DataW H)}
    (v0 : Value) (d0 : DataW H) (p0 : List MemPlace) {w : World} (hv0 : Value.okWide Try.prog w .any base 33 v0) (h0 : DataW.Trod enc Try.prog w 0 (fun _ => true) true 33 v0 d0 p0) (hl0 : ∀ y ∈ p0, y.block < w.heap.size)
    (hsz : (DataW.weightsEach Try.prog ts dd).all (· ≤ reachBytes) = true) :
    Calls Try.prog 4 #[v0] w fun e w' => e = .returned (.bool true) ∧ Below w.heap.size w w' := by
  obtain ⟨A0, l0, c0, rfl, hr0, hc0⟩ := G.open_pairs hv0 h0
  obtain ⟨k, hk⟩ := (G.keysPairs_ev l0).get
  exact G.rampartlaw04_KeysPairs.calls k A0 c0 l0 true w hr0 hc0 hk

/-! ### the row's step -/
theorem own : ownKnob Try.prog.godebug = none := by kernel_rfl
theorem laidOut : laidOutB Try.prog = true := by kernel_rfl
set_option maxHeartbeats 800000 in
set_option maxRecDepth 100000 in
theorem lifted (os : Os) (started : os.Started) (H : Type) (enc : TypeId × Value → H) :
    ReturnsInHanded {} Try.checked os 4 .any (Rows.keysPairsSpec.pre6 enc Try.prog Try.f4 Rows.keysPairsRow.domain false) (Rows.keysPairsSpec.post enc Try.prog Try.f4 false true false false) := by
  refine returnsInHanded_of_change_sized (C := Try.checked) own started (by kernel_rfl) Try.func4
    (ChangeSpec.witness6 (enc := enc) (C := Try.checked) false ⟨#[], #[.slice none 0 0], []⟩ 8 (by kernel_rfl) (by kernel_rfl) (by kernel_rfl) (by kernel_rfl)) ?_
  intro W base args ds gs before hval0 hW _ hsz0 _
  have hsz : (DataW.weightsEach Try.prog (Try.f4.params.toList ++ Rows.keysPairsSpec.plain.varTypes Try.prog) (ds ++ gs)).all (· ≤ reachBytes) = true := hsz0
  clear hsz0
  have hval : ∀ (j : Nat) t v, Try.f4.params[j]? = some t → args[j]? = some v → Value.okWide Try.prog W .any base t v := hval0
  have hW' := hW
  obtain ⟨p, q, hA0, hV, rfl, _, _⟩ := hW
  have hA : DataW.TrodAll enc Try.prog W 0 (fun _ => true) true Try.f4.params.toList args.toList ds p := hA0
  rw [Try.params4] at hA hval hsz
  obtain ⟨v0, vs0, d0, ds0, p0, q0, hargs, rfl, rfl, h0, r0⟩ := trodAll_cons hA
  obtain ⟨rfl, rfl, rfl⟩ := trodAll_nil r0
  obtain rfl : args = #[v0] := by cases args; simp_all
  obtain ⟨rfl, rfl⟩ := trodVars_none hV
  clear hA0 hval0
  simp only [List.append_nil] at hW'
  have hlt : ∀ y ∈ p0, y.block < W.heap.size := fun y hy => by simpa using hW'.lt y (by simpa using hy)
  have l0 : ∀ y ∈ p0, y.block < W.heap.size := fun y hy => hlt y (by simp [hy])
  have k0 := h0
  refine (walk v0 d0 p0 (hval 0 33 v0 rfl rfl) k0 l0 hsz).mono fun e W' ⟨he, hn⟩ => ?_
  subst he
  have g0 := Below.trod laidOut (by kernel_rfl) (of_decide_eq_true (by kernel_rfl)) k0 hn l0
  exact ⟨_, rfl, _, _, _, [], _, [], hW', trodAll_cons_mk (shut_bool Try.underlying4 _) trodAll_mk0, (trodAll_cons_mk g0 trodAll_mk0), rfl, hn.frame _, fun h => by cases h⟩

theorem over : Rows.keysPairsRow.holds Try.pinned (OpenSpec.ofChange Rows.keysPairsSpec) :=
  OpenClaim.holds_of_wide 4 Try.f4 rfl rfl rfl rfl rfl rfl rfl ⟨rfl, rfl, rfl, rfl, rfl⟩ rfl rfl rfl rfl rfl (by kernel_rfl) Try.func4 (by kernel_rfl)
    (of_decide_eq_true (by kernel_rfl)) (by unfold Func.isWrapper; first | (rw [if_pos (by decide +kernel)]; kernel_rfl) | (rw [if_neg (by decide +kernel)]; exact ⟨rfl, rfl⟩))
    (fun os started H enc _ => lifted os started H enc)

/-- the statement -/
theorem proved : Rows.KeysPairsSaid :=
  over
#print axioms proved
