/- KeysOrder: what the walk shows the printed function answers, and that it is true. -/
import Derived.Test.YtjahalkgjnnapaaRows
import Derived.WalkKit
import Derived.ProofKit
import Derived.OpenShut
import Derived.Test.YtjahalkgjnnapaaLo
import Derived.Test.YtjahalkgjnnapaaOpen
import Derived.Test.YtjahalkgjnnapaaPKa
namespace Go.Proofs.Ytjahalkgjnnapaa.G
open Go.RowKit Go.Proofs.YtjahalkgjnnapaaW.PrintWords Hand
theorem valid_perm {l l' : List ByteArray} (h : l.Perm l') : valid l = valid l' := by
  rw [Bool.eq_iff_iff, valid_iff, valid_iff, h.length_eq, h.nodup_iff]
  constructor
  · rintro ⟨a, b, c, d⟩
    exact ⟨a, b, fun x hx => c x (h.mem_iff.2 hx), d⟩
  · rintro ⟨a, b, c, d⟩
    exact ⟨a, b, fun x hx => c x (h.mem_iff.1 hx), d⟩
theorem any_perm {α : Type} {p : α → Bool} {l l' : List α} (h : l.Perm l') : l.any p = l'.any p := by
  rw [Bool.eq_iff_iff, List.any_eq_true, List.any_eq_true]
  constructor
  · rintro ⟨x, hx, hp⟩
    exact ⟨x, h.mem_iff.1 hx, hp⟩
  · rintro ⟨x, hx, hp⟩
    exact ⟨x, h.mem_iff.2 hx, hp⟩
theorem vpairs_perm {l l' : List S41} (h : l.Perm l') : vpairs l = vpairs l' := by
  unfold vpairs
  rw [valid_perm (h.map _), any_perm (h.map _)]
theorem vpairs_names {l : List S41} (h : vpairs l = true) : valid (l.map (·.f0)) = true := by
  unfold vpairs at h
  rw [Bool.and_eq_true] at h
  exact h.1
theorem sortedPairs_perm (l : List Pr) : (sortedPairs l).Perm l := List.mergeSort_perm _ _
theorem norm41_perm {l l' : List S41} (h : l'.Perm l) (hn : (l.map (·.f0)).Nodup) : norm41 l' = norm41 l := by
  have hn' : ((l.map pr41).map (·.1)).Nodup := by
    rw [List.map_map]
    exact hn
  have := sortedPairs_unique hn' ((sortedPairs_perm (l'.map pr41)).trans (h.map pr41)) (sortedPairs_pairwise _)
  unfold norm41
  rw [this]
theorem normOf_perm {l l' : List S41} (h : l'.Perm l) : normOf l' = normOf l := by
  unfold normOf
  rw [vpairs_perm h]
  by_cases hv : vpairs l = true
  · rw [if_pos hv, if_pos hv, norm41_perm h (valid_nodup (vpairs_names hv))]
  · rw [if_neg hv, if_neg hv]
theorem norm41_names (l : List S41) : (norm41 l).map (·.f0) = sorted (l.map (·.f0)) := by
  have e : (norm41 l).map (·.f0) = (sortedPairs (l.map pr41)).map (·.1) := by
    unfold norm41
    rw [List.map_map]
    rfl
  rw [e]
  refine sorted_unique ?_ ?_
  · have := (sortedPairs_perm (l.map pr41)).map (·.1)
    rw [List.map_map (l := l)] at this
    exact this
  · rw [List.pairwise_map]
    exact sortedPairs_pairwise _
theorem sorted_sorted (l : List ByteArray) : sorted (sorted l) = sorted l := (sorted_unique (List.Perm.refl _) (sorted_pairwise l)).symm
theorem valid_sorted (l : List ByteArray) : valid (sorted l) = valid l := valid_perm (sorted_perm l)
theorem not_valid_twice {l : List ByteArray} {x : ByteArray} (h : x ∈ l) : ¬ valid (l ++ [x]) = true := by
  intro hv
  have := valid_nodup hv
  rw [List.nodup_append] at this
  exact this.2.2 x h x (by simp) rfl
/-- The list turned by m, from behind. -/
def turned (l : List S41) (m : Nat) : List S41 := (l.drop m ++ l.take m).reverse
theorem turned_length (l : List S41) (m : Nat) : (turned l m).length = l.length := by
  simp [turned]
  omega
theorem turned_perm (l : List S41) (m : Nat) : (turned l m).Perm l := by
  unfold turned
  refine (List.reverse_perm _).trans (List.perm_append_comm.trans ?_)
  rw [List.take_append_drop]
theorem turned_at (l : List S41) (m i : Nat) (hm : m < l.length) (hi : i < l.length) : (turned l m)[i]? = l[(l.length - 1 - i + m) % l.length]? := by
  unfold turned
  rw [List.getElem?_reverse (by simp; omega)]
  have e : (l.drop m ++ l.take m).length - 1 - i = l.length - 1 - i := by
    simp
    omega
  rw [e]
  rcases Nat.lt_or_ge (l.length - 1 - i + m) l.length with h | h
  · rw [List.getElem?_append_left (by rw [List.length_drop]; omega), List.getElem?_drop, Nat.mod_eq_of_lt h, Nat.add_comm m]
  · rw [List.getElem?_append_right (by rw [List.length_drop]; omega), List.length_drop, List.getElem?_take_of_lt (by omega)]
    rw [Nat.mod_eq_sub_mod h, Nat.mod_eq_of_lt (by omega)]
    congr 1
    omega
theorem u64_nat {n : Nat} (h : n ≤ 4611686018427387904) : IntKind.u64.wrap (n : Int) = (n : Int) := by
  simp [IntKind.wrap, IntKind.bits, IntKind.signed]
  omega
theorem u64_pos (x : Int) : ∃ t : Nat, IntKind.u64.wrap x = (t : Int) := by
  refine ⟨(IntKind.u64.wrap x).toNat, ?_⟩
  have : 0 ≤ IntKind.u64.wrap x := by
    simp [IntKind.wrap, IntKind.bits, IntKind.signed]
    omega
  omega
theorem keysOrder_rest (l back : List S41) (x1 : Int) (hl : l.length ≤ 1200) (hb : back.Perm l) : Ev (fun k => rampartlaw04_KeysOrder.l0 k l x1 back (l.length : Int) (l.length : Int)) true := by
  have hbl := hb.length_eq
  refine Ev.succ ?_
  simp only [rampartlaw04_KeysOrder.l0]
  have z := norm41_len l
  refine Ev.neg (by omega) (Ev.bind (ownPairs_ev l (by omega)) (Ev.bind (keys_Norm_ev l (by omega)) (Ev.bind (ownPairs_ev back (by omega)) (Ev.bind (a := normOf l) (normOf_perm hb ▸ keys_Norm_ev back (by omega)) ?_))))
  refine Ev.bind (ownPairs_ev l (by omega)) (Ev.bind (keys_Names_ev l (by omega)) (Ev.bind (keys_Sorted_ev _) (Ev.pos (by first | trivial | rfl) (Ev.bind (samePairs_ev _ (by omega)) (Ev.succ ?_)))))
  simp only [rampartlaw04_KeysOrder.j1]
  refine Ev.neg (by simp) ?_
  by_cases hv : vpairs l = true
  · have hn := vpairs_names hv
    have hn1 := (valid_iff.1 hn).1
    rw [List.length_map] at hn1
    have e1 : normOf l = (norm41 l, 0) := by unfold normOf; rw [if_pos hv]
    have e2 : sortOf (l.map (·.f0)) = (sorted (l.map (·.f0)), 0) := by unfold sortOf; rw [if_pos hn]
    have e3 : sortOf (sorted (l.map (·.f0))) = (sorted (l.map (·.f0)), 0) := by unfold sortOf; rw [if_pos (by rw [valid_sorted]; exact hn), sorted_sorted]
    have hsl : (sorted (l.map (·.f0))).length = l.length := by rw [sorted_length, List.length_map]
    have hnl : (norm41 l).length = l.length := norm41_length l
    have h3 := keys_Sorted_ev (sorted (l.map (·.f0)))
    rw [e3] at h3
    rw [e1, e2]
    dsimp only
    refine Ev.pos (by first | trivial | rfl) (Ev.bind (own_ev _ (by omega)) (Ev.bind h3 (Ev.pos (by first | trivial | rfl) (Ev.pos (by first | trivial | rfl) (Ev.bind (same_ev _ (by omega)) (Ev.pos (by first | trivial | rfl) ?_))))))
    refine Ev.bind (ownPairs_ev _ (by omega)) (Ev.bind (a := sorted (l.map (·.f0))) (norm41_names l ▸ keys_Names_ev _ (by omega)) (Ev.bind (same_ev _ (by omega)) (Ev.pos (by first | trivial | rfl) ?_)))
    refine Ev.bind (own_ev _ (by omega)) (Ev.bind (a := true) (((valid_sorted _).trans hn) ▸ keys_Valid_ev (sorted (l.map (·.f0)))) (Ev.pos (by first | trivial | rfl) ?_))
    refine Ev.bind (own_ev _ (by omega)) (Ev.bind (a := true) ((rising_sorted.2 (valid_nodup hn)) ▸ keys_Rising_ev (sorted (l.map (·.f0))) (by omega)) (Ev.pos (by first | trivial | rfl) (Ev.pos (by rw [hnl]) (Ev.succ ?_))))
    simp only [rampartlaw04_KeysOrder.j2]
    obtain ⟨t, ht⟩ := u64_pos x1
    have hm : t % l.length < l.length := Nat.mod_lt _ (by omega)
    rw [ht, u64_nat (by omega)]
    rw [show wrap64 (Int.tmod (t : Int) (l.length : Int)) = ((t % l.length : Nat) : Int) from by rw [← Int.ofNat_tmod]; unfold wrap64; omega]
    refine Ev.neg (by rw [hsl]; simp) (Ev.bind (ownPairs_ev l (by omega)) (Ev.neg (by omega) (Ev.pos (by omega) (Ev.pos (by omega) ?_))))
    rw [rd41 hm]
    simp only [Option.bind_some]
    refine Ev.pos (by simp; omega) ?_
    have hx : (l[t % l.length]'hm).f0 ∈ l.map (·.f0) := List.mem_map.2 ⟨_, List.getElem_mem hm, rfl⟩
    have hmap : (l ++ [(⟨(l[t % l.length]'hm).f0, (l[t % l.length]'hm).f1⟩ : S41)]).map (·.f0) = l.map (·.f0) ++ [(l[t % l.length]'hm).f0] := by simp
    have e4 : normOf (l ++ [(⟨(l[t % l.length]'hm).f0, (l[t % l.length]'hm).f1⟩ : S41)]) = ([], 40) := by
      unfold normOf
      rw [if_neg fun h => not_valid_twice hx (by rw [← hmap]; exact vpairs_names h)]
    have e5 : sortOf ((l ++ [(⟨(l[t % l.length]'hm).f0, (l[t % l.length]'hm).f1⟩ : S41)]).map (·.f0)) = ([], 40) := by
      unfold sortOf
      rw [hmap, if_neg (not_valid_twice hx)]
    have hlen : (l ++ [(⟨(l[t % l.length]'hm).f0, (l[t % l.length]'hm).f1⟩ : S41)]).length ≤ 100000 := by simp; omega
    refine Ev.bind (a := ([], 40)) (e4 ▸ keys_Norm_ev _ hlen) (Ev.bind (keys_Names_ev _ hlen) (Ev.bind (a := ([], 40)) (e5 ▸ keys_Sorted_ev _) (Ev.pos (by first | trivial | rfl) (Ev.pos (by first | trivial | rfl) ?_))))
    exact ⟨0, fun k _ => by show some (wrap64 ((([] : List S41).length : Int) + (([] : List ByteArray).length : Int)) == 0) = some true; first | rfl | decide | simp [wrap64]⟩
  · have e1 : normOf l = ([], 40) := by unfold normOf; rw [if_neg hv]
    rw [e1]
    have hv' : vpairs l = false := by simpa using hv
    exact Ev.neg (by decide) (Ev.pos (by first | trivial | rfl) (Ev.pos (by first | trivial | rfl) (Ev.bind (ownPairs_ev l (by omega)) (Ev.bind (a := false) (hv' ▸ keys_ValidPairs_ev l (by omega)) (Ev.pure true)))))
theorem keysOrder_loop (l : List S41) (x1 : Int) (hl : l.length ≤ 1200) (m : Nat) (hm : m < l.length) (hx : Int.tmod (IntKind.u64.wrap x1) (l.length : Int) = (m : Int)) : ∀ (d i : Nat), l.length = i + d →
    Ev (fun k => rampartlaw04_KeysOrder.l0 k l x1 ((turned l m).take i) (l.length : Int) (i : Int)) true := by
  intro d
  induction d with
  | zero =>
    intro i h
    obtain rfl : i = l.length := by omega
    rw [List.take_of_length_le (by rw [turned_length]; omega)]
    exact keysOrder_rest l _ x1 hl (turned_perm l m)
  | succ d ih =>
    intro i h
    refine Ev.succ ?_
    simp only [rampartlaw04_KeysOrder.l0]
    rw [u64_nat (by omega), hx, w_up (by omega)]
    rw [show wrap64 ((wrap64 ((wrap64 ((l.length : Int) - 1)) - (i : Int))) + (wrap64 (m : Int))) = ((l.length - 1 - i + m : Nat) : Int) from by
      rw [show wrap64 ((l.length : Int) - 1) = ((l.length - 1 : Nat) : Int) from by unfold wrap64; omega, show wrap64 (((l.length - 1 : Nat) : Int) - (i : Int)) = ((l.length - 1 - i : Nat) : Int) from by unfold wrap64; omega, show wrap64 (m : Int) = (m : Int) from by unfold wrap64; omega]
      unfold wrap64
      omega]
    rw [← Int.ofNat_tmod]
    have hj : (l.length - 1 - i + m) % l.length < l.length := Nat.mod_lt _ (by omega)
    refine Ev.pos (by omega) (Ev.neg (by omega) (Ev.neg (by omega) (Ev.pos (by omega) (Ev.pos (by omega) ?_))))
    rw [rd41 hj]
    simp only [Option.bind_some]
    refine Ev.pos (by simp; omega) ?_
    have hi : i < (turned l m).length := by rw [turned_length]; omega
    have e : (turned l m).take (i + 1) = (turned l m).take i ++ [(⟨(l[(l.length - 1 - i + m) % l.length]'hj).f0, (l[(l.length - 1 - i + m) % l.length]'hj).f1⟩ : S41)] := by
      rw [List.take_add_one, turned_at l m i hm (by omega), List.getElem?_eq_getElem hj]
      rfl
    rw [← e]
    exact ih (i + 1) (by omega)
theorem keysOrder_ev (l : List S41) (x1 : Int) : Ev (fun k => rampartlaw04_KeysOrder.f k l x1) true := by
  simp only [rampartlaw04_KeysOrder.f]
  refine Ev.bind alive_ev (Ev.pos (by first | trivial | rfl) ?_)
  by_cases h1 : (l.length : Int) > 1200
  · exact Ev.pos h1 (Ev.pure _)
  refine Ev.neg h1 ?_
  rcases Nat.eq_zero_or_pos l.length with h0 | h0
  · obtain rfl : l = [] := List.eq_nil_of_length_eq_zero h0
    exact keysOrder_rest [] [] x1 (by simp) (List.Perm.refl _)
  · obtain ⟨t, ht⟩ := u64_pos x1
    have := keysOrder_loop l x1 (by omega) (t % l.length) (Nat.mod_lt _ h0) (by rw [ht, ← Int.ofNat_tmod]) l.length 0 (by omega)
    rw [List.take_zero] at this
    exact this
end Go.Proofs.Ytjahalkgjnnapaa.G
namespace Go.Proofs.Ytjahalkgjnnapaa.keysOrder
open Go.ChangeShapes Go.WideShapes Go.ChangeAt Go.RowKit
set_option linter.unusedVariables false

theorem walk {H : Type} {enc : TypeId × Value → H} {base : Nat} {ts : List Nat} {dd : List (DataW H)}
    (v0 : Value) (d0 : DataW H) (p0 : List MemPlace) {w : World} (hv0 : Value.okWide Try.prog w .any base 33 v0) (h0 : DataW.Trod enc Try.prog w 0 (fun _ => true) true 33 v0 d0 p0) (hl0 : ∀ y ∈ p0, y.block < w.heap.size)
    (a1 : Int) (w1 : (Lit.int .i64 a1).wf = true) (hsz : (DataW.weightsEach Try.prog ts dd).all (· ≤ reachBytes) = true) :
    Calls Try.prog 6 #[v0, .int .i64 a1] w fun e w' => e = .returned (.bool true) ∧ Below w.heap.size w w' := by
  obtain ⟨A0, l0, c0, rfl, hr0, hc0⟩ := G.open_pairs hv0 h0
  obtain ⟨k, hk⟩ := (G.keysOrder_ev l0 a1).get
  exact G.rampartlaw04_KeysOrder.calls k A0 c0 l0 a1 true w hr0 hc0 hk

/-! ### the row's step -/
theorem own : ownKnob Try.prog.godebug = none := by kernel_rfl
theorem laidOut : laidOutB Try.prog = true := by kernel_rfl
set_option maxHeartbeats 800000 in
set_option maxRecDepth 100000 in
theorem lifted (os : Os) (started : os.Started) (H : Type) (enc : TypeId × Value → H) :
    ReturnsInHanded {} Try.checked os 6 .any (Rows.keysOrderSpec.pre6 enc Try.prog Try.f6 Rows.keysOrderRow.domain false) (Rows.keysOrderSpec.post enc Try.prog Try.f6 false true false false) := by
  refine returnsInHanded_of_change_sized (C := Try.checked) own started (by kernel_rfl) Try.func6
    (ChangeSpec.witness6 (enc := enc) (C := Try.checked) false ⟨#[], #[.slice none 0 0, .int .i64 0], []⟩ 8 (by kernel_rfl) (by kernel_rfl) (by kernel_rfl) (by kernel_rfl)) ?_
  intro W base args ds gs before hval0 hW _ hsz0 _
  have hsz : (DataW.weightsEach Try.prog (Try.f6.params.toList ++ Rows.keysOrderSpec.plain.varTypes Try.prog) (ds ++ gs)).all (· ≤ reachBytes) = true := hsz0
  clear hsz0
  have hval : ∀ (j : Nat) t v, Try.f6.params[j]? = some t → args[j]? = some v → Value.okWide Try.prog W .any base t v := hval0
  have hW' := hW
  obtain ⟨p, q, hA0, hV, rfl, _, _⟩ := hW
  have hA : DataW.TrodAll enc Try.prog W 0 (fun _ => true) true Try.f6.params.toList args.toList ds p := hA0
  rw [Try.params6] at hA hval hsz
  obtain ⟨v0, vs0, d0, ds0, p0, q0, hargs, rfl, rfl, h0, r0⟩ := trodAll_cons hA
  obtain ⟨v1, vs1, d1, ds1, p1, q1, rfl, rfl, rfl, h1, r1⟩ := trodAll_cons r0
  obtain ⟨rfl, rfl, rfl⟩ := trodAll_nil r1
  obtain rfl : args = #[v0, v1] := by cases args; simp_all
  obtain ⟨rfl, rfl⟩ := trodVars_none hV
  clear hA0 hval0
  simp only [List.append_nil] at hW'
  have hlt : ∀ y ∈ p0 ++ (p1), y.block < W.heap.size := fun y hy => by simpa using hW'.lt y (by simpa using hy)
  have l0 : ∀ y ∈ p0, y.block < W.heap.size := fun y hy => hlt y (by simp [hy])
  have l1 : ∀ y ∈ p1, y.block < W.heap.size := fun y hy => hlt y (by simp [hy])
  have k0 := h0
  have k1 := h1
  obtain ⟨a1, rfl, rfl, rfl, w1⟩ := open_int Try.underlying3 (hval 1 3 v1 rfl rfl) h1
  refine (walk v0 d0 p0 (hval 0 33 v0 rfl rfl) k0 l0 a1 w1 hsz).mono fun e W' ⟨he, hn⟩ => ?_
  subst he
  have g0 := Below.trod laidOut (by kernel_rfl) (of_decide_eq_true (by kernel_rfl)) k0 hn l0
  have g1 := Below.trod laidOut (by kernel_rfl) (of_decide_eq_true (by kernel_rfl)) k1 hn l1
  exact ⟨_, rfl, _, _, _, [], _, [], hW', trodAll_cons_mk (shut_bool Try.underlying4 _) trodAll_mk0, (trodAll_cons_mk g0 (trodAll_cons_mk g1 trodAll_mk0)), rfl, hn.frame _, fun h => by cases h⟩

theorem over : Rows.keysOrderRow.holds Try.pinned (OpenSpec.ofChange Rows.keysOrderSpec) :=
  OpenClaim.holds_of_wide 6 Try.f6 rfl rfl rfl rfl rfl rfl rfl ⟨rfl, rfl, rfl, rfl, rfl⟩ rfl rfl rfl rfl rfl (by kernel_rfl) Try.func6 (by kernel_rfl)
    (of_decide_eq_true (by kernel_rfl)) (by unfold Func.isWrapper; first | (rw [if_pos (by decide +kernel)]; kernel_rfl) | (rw [if_neg (by decide +kernel)]; exact ⟨rfl, rfl⟩))
    (fun os started H enc _ => lifted os started H enc)

/-- the statement -/
theorem proved : Rows.KeysOrderSaid :=
  over
#print axioms proved
