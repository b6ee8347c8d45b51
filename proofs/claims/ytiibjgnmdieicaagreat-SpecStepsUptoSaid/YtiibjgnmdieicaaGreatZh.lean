/- SpecSteps (lists of events of bulk at most 1048576): step by step, what may happen, why not, and how many have happened, are the document's. The walk (Yj), read as the row says it. -/
import Derived.Test.YtiibjgnmdieicaaGreatRows
import Derived.Test.YtiibjgnmdieicaaGreatUa
import Derived.Test.YtiibjgnmdieicaaGreatZg
import Derived.JoinedCond
namespace Go.Proofs.YtiibjgnmdieicaaGreat.specSteps
open Go.ChangeShapes Go.WideShapes Go.ChangeAt Go.RowKit Go.Deep Go.Proofs.YtiibjgnmdieicaaGreatW.PrintWords
set_option linter.unusedVariables false
set_option maxRecDepth 100000 in
theorem walk {H : Type} {enc : TypeId × Value → H} {base : Nat}
    (v0 : Value) (d0 : DataW H) (p0 : List MemPlace) {w : World} (hv0 : Value.okWide Tryz.prog w .any base 22 v0) (h0 : DataW.Trod enc Tryz.prog w 0 (fun _ => true) true 22 v0 d0 p0) (hk : Rows.uptoBulk d0 ≤ 1048576) :
    Calls Tryz.prog 3 #[v0] w fun e w' => e = .returned (.bool true) ∧ Below w.heap.size w w' := by
  obtain ⟨A0, l0, c0, rfl, hr0, _, hL⟩ := Hist.open_events hv0 h0 hk
  exact Hist.steps_any A0 c0 l0 w hr0 hL

/-! ### the row's step -/
theorem own : ownKnob Tryz.prog.godebug = none := by kernel_rfl
theorem laidOut : laidOutB Tryz.prog = true := by kernel_rfl
set_option maxRecDepth 100000 in
theorem contract (H : Type) (enc : TypeId × Value → H) (W : World) (base : Nat) (args : Array Value) (ds gs : List (DataW H)) (before : List MemPlace)
    (hval0 : ∀ (j : Nat) t v, Tryz.f3.params[j]? = some t → args[j]? = some v → Value.okWide Tryz.prog W .any base t v)
    (hW : DataW.Whole enc Tryz.prog Tryz.f3.params.toList Rows.specStepsSpec.vars false W args.toList ds gs before) (hk : Rows.uptoSmall H (ds ++ gs) = true) :
    Calls Tryz.prog 3 args W fun e W' => ∃ v, e = .returned v ∧ Rows.specStepsSpec.post enc Tryz.prog Tryz.f3 false true false false W args v W' := by
  have hval : ∀ (j : Nat) t v, Tryz.f3.params[j]? = some t → args[j]? = some v → Value.okWide Tryz.prog W .any base t v := hval0
  have hW' := hW
  obtain ⟨p, q, hA0, hV, rfl, _, _⟩ := hW
  have hA : DataW.TrodAll enc Tryz.prog W 0 (fun _ => true) true Tryz.f3.params.toList args.toList ds p := hA0
  rw [Tryz.params3] at hA hval
  obtain ⟨v0, vs0, d0, ds0, p0, q0, hargs, rfl, rfl, h0, r0⟩ := trodAll_cons hA
  obtain ⟨rfl, rfl, rfl⟩ := trodAll_nil r0
  obtain rfl : args = #[v0] := by cases args; simp_all
  obtain ⟨rfl, rfl⟩ := trodVars_none hV
  have hb := bulks.bound hk
  have hb0 : Rows.uptoBulk d0 ≤ 1048576 := Nat.le_trans (bulks.part_le (l := [d0] ++ []) (by simp)) hb
  clear hA0 hval0
  simp only [List.append_nil] at hW'
  have hlt : ∀ y ∈ p0, y.block < W.heap.size := fun y hy => by simpa using hW'.lt y (by simpa using hy)
  have k0 := h0
  refine (walk v0 d0 p0 (hval 0 22 v0 rfl rfl) k0 hb0).mono fun e W' ⟨he, hn⟩ => ?_
  subst he
  have g0 := Below.trod laidOut (by kernel_rfl) (of_decide_eq_true (by kernel_rfl)) k0 hn hlt
  exact ⟨_, rfl, _, _, _, [], _, [], hW', trodAll_cons_mk (shut_bool Tryz.underlying4 _) trodAll_mk0, (trodAll_cons_mk g0 trodAll_mk0), rfl, hn.frame _, fun h => by cases h⟩
set_option maxHeartbeats 800000 in
set_option maxRecDepth 100000 in
theorem lifted (os : Os) (started : os.Started) (H : Type) (enc : TypeId × Value → H) (F : Stop.Interp) :
    ReturnsInHanded {} Tryz.checked os 3 .any ((Rows.OpenSpec.upto Rows.specStepsSpec).pre6 enc Tryz.prog Tryz.f3 Rows.specStepsUptoRow.domain false) (((Rows.OpenSpec.upto Rows.specStepsSpec).at F).post enc Tryz.prog Tryz.f3 false true false false) := by
  refine returnsInHanded_of_cond (C := Tryz.checked) (s := Rows.OpenSpec.upto Rows.specStepsSpec) (k := Rows.uptoSmall) rfl own started (by kernel_rfl) Tryz.func3
    (OpenSpec.witness (enc := enc) (C := Tryz.checked) (s := Rows.OpenSpec.upto Rows.specStepsSpec) (k := Rows.uptoSmall) rfl false ⟨#[], #[.slice none 0 0], []⟩ 8 (by kernel_rfl) (by kernel_rfl) (by kernel_rfl)
      (x := ([.nil], [], [])) (by kernel_rfl) rfl (by kernel_rfl)) ?_
  intro W base args ds gs before hval hW _ hk _
  exact contract H enc W base args ds gs before hval hW hk
theorem over : Rows.specStepsUptoRow.holds Tryz.pinned (Rows.OpenSpec.upto Rows.specStepsSpec) :=
  OpenClaim.holds_of_cond 3 Tryz.f3 rfl rfl rfl rfl rfl rfl rfl ⟨rfl, rfl, rfl, rfl, rfl⟩ rfl rfl rfl rfl rfl (by kernel_rfl) Tryz.func3 (by kernel_rfl)
    (of_decide_eq_true (by kernel_rfl)) (by unfold Func.isWrapper; first | (rw [if_pos (by decide +kernel)]; kernel_rfl) | (rw [if_neg (by decide +kernel)]; exact ⟨rfl, rfl⟩))
    (fun os started H enc _ F => lifted os started H enc F)
/-- the statement -/
theorem proved : Rows.SpecStepsUptoSaid :=
  over
#print axioms proved
end Go.Proofs.YtiibjgnmdieicaaGreat.specSteps
