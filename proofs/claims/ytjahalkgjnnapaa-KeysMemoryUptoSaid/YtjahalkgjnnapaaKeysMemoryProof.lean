/- KeysMemory (lists and texts of bulk at most 1048576): the walk, read as the row says it. -/
import Derived.Test.YtjahalkgjnnapaaRows
import Derived.Test.YtjahalkgjnnapaaBulk
import Derived.Test.YtjahalkgjnnapaaKMwalk
import Derived.JoinedCond
namespace Go.Proofs.Ytjahalkgjnnapaa.keysMemory
open Go.ChangeShapes Go.WideShapes Go.ChangeAt Go.RowKit Go.Deep Go.Proofs.YtjahalkgjnnapaaW.PrintWords
set_option linter.unusedVariables false
/-- a '[]string' handed in: its row, and what the datum says of the texts' sizes -/
theorem open_small {H : Type} {enc : TypeId × Value → H} {W : World} {base : Nat} {v : Value} {d : DataW H} {p : List MemPlace}
    (hv : Value.okWide Try.prog W .any base 22 v) (h : DataW.Trod enc Try.prog W 0 (fun _ => true) true 22 v d p) :
    ∃ (A : Option Addr) (l : List ByteArray) (c : Nat), v = .slice A l.length c ∧ Ct W A l ∧ l.length ≤ c ∧ ∀ x, x ∈ l → x.size ≤ Rows.uptoBulk d := by
  obtain ⟨a0, len, cap, rfl⟩ := okWide_slice Try.underlying22 hv
  obtain ⟨fuel, hf⟩ := h
  rcases open_strs Try.underlying22 Try.underlying9 G.cellsOf9 hf with ⟨hc, _⟩ | ⟨a, len', cap', m, Sx, hc, _, hl, hm, hmm, hd, hx⟩
  · have hc : [Value.slice a0 len cap] = [.slice none 0 0] := hc
    simp only [List.cons.injEq, Value.slice.injEq, and_true] at hc
    obtain ⟨rfl, rfl, rfl⟩ := hc
    exact ⟨none, [], 0, rfl, ⟨rfl, by simp, fun h => absurd h (by simp)⟩, Nat.le_refl _, fun x hx => by cases hx⟩
  · have hc : [Value.slice a0 len cap] = [.slice (some a) len' cap'] := hc
    simp only [List.cons.injEq, Value.slice.injEq, and_true] at hc
    obtain ⟨rfl, rfl, rfl⟩ := hc
    simp only [if_true] at hmm
    have hd : d = .slice ((List.range len).map fun i => .lit (.string (Sx i).data.toList)) ((List.range (m - len)).map fun j => .lit (.string (Sx (len + j)).data.toList)) := congrArg Prod.fst hd
    have hlen : ((List.range len).map Sx).length = len := by simp
    have hml : cap ≤ 9223372036854775807 := hm
    refine ⟨some a, (List.range len).map Sx, cap, by rw [hlen], ⟨rfl, by rw [hlen]; omega, fun _ => ⟨a, rfl, fun j q hj => ?_⟩⟩, by rw [hlen]; exact hl, fun x hx => ?_⟩
    · obtain ⟨hj1, hj2⟩ := List.getElem?_eq_some_iff.1 hj
      rw [hlen] at hj1
      rw [List.getElem_map, List.getElem_range] at hj2
      refine ⟨[.string q], rfl, rfl, fun i u hu => ?_⟩
      show W.cell? (a.add (j * 1 + i)) = some u
      have hc2 := (hx j (by omega)).1
      rw [hj2] at hc2
      match i, hu with
      | 0, hu =>
        obtain rfl : Value.string q = u := by simpa using hu
        simpa using hc2
      | i + 1, hu => simp at hu
    · obtain ⟨i, hi, rfl⟩ := List.mem_map.1 hx
      subst hd
      have h1 := bulks.part_le (l := (List.range len).map fun i => (DataW.lit (.string (Sx i).data.toList) : DataW H)) (List.mem_map.2 ⟨i, hi, rfl⟩)
      rw [bulks.string_eq] at h1
      have h2 := bulks.slice_elems ((List.range len).map fun i => (DataW.lit (.string (Sx i).data.toList) : DataW H)) ((List.range (m - len)).map fun j => .lit (.string (Sx (len + j)).data.toList))
      have h3 : (Sx i).size = (Sx i).data.toList.length := (data_length (Sx i)).symm
      omega
theorem walk {H : Type} {enc : TypeId × Value → H} {base : Nat}
    (v0 : Value) (d0 : DataW H) (p0 : List MemPlace) {w : World} (hv0 : Value.okWide Try.prog w .any base 22 v0) (h0 : DataW.Trod enc Try.prog w 0 (fun _ => true) true 22 v0 d0 p0)
    (v1 : Value) (d1 : DataW H) (p1 : List MemPlace) (hv1 : Value.okWide Try.prog w .any base 22 v1) (h1 : DataW.Trod enc Try.prog w 0 (fun _ => true) true 22 v1 d1 p1) (hk : Rows.uptoBulk d0 ≤ 1048576) :
    Calls Try.prog 7 #[v0, v1] w fun e w' => e = .returned (.bool true) ∧ Below w.heap.size w w' := by
  obtain ⟨A0, l0, c0, rfl, hr0, hc0, hs⟩ := open_small hv0 h0
  obtain ⟨A1, l1, c1, rfl, hr1, hc1, _⟩ := open_small hv1 h1
  exact walk0 A0 c0 l0 A1 c1 l1 w hr0 hc0 hr1 hc1 (fun x hx => Nat.le_trans (hs x hx) hk)

/-! ### the row's step -/
theorem own : ownKnob Try.prog.godebug = none := by kernel_rfl
theorem laidOut : laidOutB Try.prog = true := by kernel_rfl
theorem contract (H : Type) (enc : TypeId × Value → H) (W : World) (base : Nat) (args : Array Value) (ds gs : List (DataW H)) (before : List MemPlace)
    (hval0 : ∀ (j : Nat) t v, Try.f7.params[j]? = some t → args[j]? = some v → Value.okWide Try.prog W .any base t v)
    (hW : DataW.Whole enc Try.prog Try.f7.params.toList Rows.keysMemorySpec.vars false W args.toList ds gs before) (hk : Rows.uptoSmall H (ds ++ gs) = true) :
    Calls Try.prog 7 args W fun e W' => ∃ v, e = .returned v ∧ Rows.keysMemorySpec.post enc Try.prog Try.f7 false true false false W args v W' := by
  have hval : ∀ (j : Nat) t v, Try.f7.params[j]? = some t → args[j]? = some v → Value.okWide Try.prog W .any base t v := hval0
  have hW' := hW
  obtain ⟨p, q, hA0, hV, rfl, _, _⟩ := hW
  have hA : DataW.TrodAll enc Try.prog W 0 (fun _ => true) true Try.f7.params.toList args.toList ds p := hA0
  rw [Try.params7] at hA hval
  obtain ⟨v0, vs0, d0, ds0, p0, q0, hargs, rfl, rfl, h0, r0⟩ := trodAll_cons hA
  obtain ⟨v1, vs1, d1, ds1, p1, q1, rfl, rfl, rfl, h1, r1⟩ := trodAll_cons r0
  obtain ⟨rfl, rfl, rfl⟩ := trodAll_nil r1
  obtain rfl : args = #[v0, v1] := by cases args; simp_all
  obtain ⟨rfl, rfl⟩ := trodVars_none hV
  have hb := bulks.bound hk
  have hb0 : Rows.uptoBulk d0 ≤ 1048576 := Nat.le_trans (bulks.part_le (l := [d0, d1] ++ []) (by simp)) hb
  clear hA0 hval0
  simp only [List.append_nil] at hW'
  have hlt : ∀ y ∈ p0 ++ (p1), y.block < W.heap.size := fun y hy => by simpa using hW'.lt y (by simpa using hy)
  have l0 : ∀ y ∈ p0, y.block < W.heap.size := fun y hy => hlt y (by simp [hy])
  have l1 : ∀ y ∈ p1, y.block < W.heap.size := fun y hy => hlt y (by simp [hy])
  have k0 := h0
  have k1 := h1
  refine (walk v0 d0 p0 (hval 0 22 v0 rfl rfl) k0 v1 d1 p1 (hval 1 22 v1 rfl rfl) k1 hb0).mono fun e W' ⟨he, hn⟩ => ?_
  subst he
  have g0 := Below.trod laidOut (by kernel_rfl) (of_decide_eq_true (by kernel_rfl)) k0 hn l0
  have g1 := Below.trod laidOut (by kernel_rfl) (of_decide_eq_true (by kernel_rfl)) k1 hn l1
  exact ⟨_, rfl, _, _, _, [], _, [], hW', trodAll_cons_mk (shut_bool Try.underlying4 _) trodAll_mk0, (trodAll_cons_mk g0 (trodAll_cons_mk g1 trodAll_mk0)), rfl, hn.frame _, fun h => by cases h⟩
set_option maxHeartbeats 800000 in
set_option maxRecDepth 100000 in
theorem lifted (os : Os) (started : os.Started) (H : Type) (enc : TypeId × Value → H) (F : Stop.Interp) :
    ReturnsInHanded {} Try.checked os 7 .any ((Rows.OpenSpec.upto Rows.keysMemorySpec).pre6 enc Try.prog Try.f7 Rows.keysMemoryUptoRow.domain false) (((Rows.OpenSpec.upto Rows.keysMemorySpec).at F).post enc Try.prog Try.f7 false true false false) := by
  refine returnsInHanded_of_cond (C := Try.checked) (s := Rows.OpenSpec.upto Rows.keysMemorySpec) (k := Rows.uptoSmall) rfl own started (by kernel_rfl) Try.func7
    (OpenSpec.witness (enc := enc) (C := Try.checked) (s := Rows.OpenSpec.upto Rows.keysMemorySpec) (k := Rows.uptoSmall) rfl false ⟨#[], #[.slice none 0 0, .slice none 0 0], []⟩ 8 (by kernel_rfl) (by kernel_rfl) (by kernel_rfl)
      (x := ([.nil, .nil], [], [])) (by kernel_rfl) rfl (by kernel_rfl)) ?_
  intro W base args ds gs before hval hW _ hk _
  exact contract H enc W base args ds gs before hval hW hk
theorem over : Rows.keysMemoryUptoRow.holds Try.pinned (Rows.OpenSpec.upto Rows.keysMemorySpec) :=
  OpenClaim.holds_of_cond 7 Try.f7 rfl rfl rfl rfl rfl rfl rfl ⟨rfl, rfl, rfl, rfl, rfl⟩ rfl rfl rfl rfl rfl (by kernel_rfl) Try.func7 (by kernel_rfl)
    (of_decide_eq_true (by kernel_rfl)) (by unfold Func.isWrapper; first | (rw [if_pos (by decide +kernel)]; kernel_rfl) | (rw [if_neg (by decide +kernel)]; exact ⟨rfl, rfl⟩))
    (fun os started H enc _ F => lifted os started H enc F)
/-- the statement -/
theorem proved : Rows.KeysMemoryUptoSaid :=
  over
#print axioms proved
