/- the document's order: Named, ahead, bottoms, walked. -/
import Derived.Test.YtiibjgnmdieicaaGreatVd
import Derived.Test.YtiibjgnmdieicaaGreatUc
namespace Go.Proofs.YtiibjgnmdieicaaGreat.Hist
open Go.RowKit Go.Proofs.YtiibjgnmdieicaaGreatW.PrintWords Go.Sort
theorem int_at {W : World} {A : Option Addr} {l : List Nat} (h : RowC RI 1 W A l) {j : Nat} (hj : j < l.length) : ∃ ad, A = some ad ∧ W.cell? (ad.add j) = some (.int .i64 l[j]) := by
  obtain ⟨ad, ea, hc⟩ := h.2.2 (by omega)
  refine ⟨ad, ea, ?_⟩
  obtain ⟨cs, h1, h2, h3⟩ := hc j l[j] (List.getElem?_eq_getElem hj)
  unfold RI at h2
  subst h2
  have h0 := h3 0 _ rfl
  simpa using h0
def NmV (l : List Evt) (i : Nat) (v : Ver) : Prop := v.f1 ≠ 0 → ∃ w, ∃ hw : w < l.length, w < i ∧ wrB v.f1 l[w] = true
theorem nmV_of {l : List Evt} {i j : Nat} {v : Ver} (hi : i ≤ l.length) (h : fidx (wrB v.f1) (l.take i) = (j : Int)) : NmV l i v := fun _ => by
  rcases fidx_spec (wrB v.f1) (l.take i) with ⟨e, _⟩ | ⟨k, hk, e, hp, _⟩
  · omega
  · rw [List.length_take] at hk
    rw [List.getElem_take] at hp
    exact ⟨k, by omega, by omega, hp⟩
theorem nmV_no {l : List Evt} {i : Nat} {v : Ver} (h0 : v.f1 ≠ 0) (h : fidx (wrB v.f1) (l.take i) = -1) : ¬ NmV l i v := fun hn => by
  obtain ⟨w, hw, hwi, hb⟩ := hn h0
  rcases fidx_spec (wrB v.f1) (l.take i) with ⟨_, e⟩ | ⟨k, hk, e, _⟩
  · have := e w (by rw [List.length_take]; omega)
    rw [List.getElem_take, hb] at this
    cases this
  · omega
def RelN1 (w : World) (l : List Evt) (s : Value) (wr : World) : Prop := ∃ j : Nat, j ≤ l.length ∧ s = .int .i64 j ∧ (∀ t (ht : t < l.length), t < j → ∀ v ∈ l[t].f6.f3, NmV l t v) ∧ Below w.heap.size w wr
def RelN2 (w : World) (l : List Evt) (i : Nat) (vs : List Ver) (s : Value) (wr : World) : Prop := ∃ k : Nat, k ≤ vs.length ∧ s = .int .i64 k ∧ (∀ u (hu : u < vs.length), u < k → NmV l i vs[u]) ∧ Below w.heap.size w wr
set_option maxHeartbeats 8000000 in
set_option maxRecDepth 100000 in
theorem rnamed_any (A : Option Addr) (c : Nat) (l : List Evt) (w : World) (hC : kEvt.C w A l.length l) (r : Bool) (hr : r = true ↔ NamedP l) :
    Calls Tryz.prog 31 #[.slice A l.length c] w fun e w' => e = .returned (.bool r) ∧ Below w.heap.size w w' := by
  have hm : l.length ≤ 9223372036854775807 := hC.2.1
  have hno : ∀ i (hi : i < l.length) (v : Ver), v ∈ l[i].f6.f3 → ¬ NmV l i v → r = false := fun i hi v hv h => by
    rw [← Bool.not_eq_true, hr]
    exact fun hn => h (hn i hi v hv)
  have hye : (∀ t (ht : t < l.length), ∀ v ∈ l[t].f6.f3, NmV l t v) → r = true := fun h => hr.2 fun i hi v hv => h i hi v hv
  have hwr := Lib.hid fun W (hb : Below w.heap.size w W) n (hn : n ≤ l.length) id => rwrite29_any A c l n hn id W (Kd.C_below hC hb)
  clear hr
  replace hC := Lib.hid hC
  replace hno := Lib.hid hno
  replace hye := Lib.hid hye
  go_enter Tryz.func31, Tryz.ntmps31
  go_wp2
  go_loopw [3] (fun s wr => RelN1 w l s wr) (fun s _ => l.length - (intOf s).toNat)
  case atStart => exact ⟨0, Nat.zero_le _, rfl, (fun t _ h => absurd h (Nat.not_lt_zero t)), Below.refl _ _⟩
  case round =>
    obtain ⟨j, hj, rfl, hp, hB⟩ := hrel
    by_cases hlt : j < l.length
    · obtain ⟨ad, A4, c4, A5, c5, A9, c9, rfl, q0, q1, q2, q3, q4, q5, q6, q7, q8, q9, hK, hl9, hk9⟩ := evt_at (Kd.C_below hC.out hB) hlt
      clear q0 q1 q2 q3 q4 q5 q6 q7 q8 hK hl9
      have hno2 := Lib.hid (hno.out j hlt)
      have hnx : (∀ v ∈ l[j].f6.f3, NmV l j v) → ∀ t (ht : t < l.length), t < j + 1 → ∀ v ∈ l[t].f6.f3, NmV l t v := fun h t ht h1 => by
        by_cases e : t = j
        · subst e; exact h
        · exact hp t ht (by omega)
      have a1 : IntKind.i64.wrap ((j : Int) + 1) = (j : Int) + 1 := IntWalk.i64_in _ (by omega)
      have hmv : l[j].f6.f3.length ≤ 9223372036854775807 := hk9.2.1
      generalize l[j].f6.f3 = vs at *
      have hV := Lib.hid fun (W : World) (hb : Below wr.heap.size wr W) => Kd.C_below hk9 hb
      have hBs := Lib.hid fun (W : World) (hb : Below wr.heap.size wr W) => below_then hB hB.size hb
      clear hk9 hB
      replace hnx := Lib.hid hnx
      replace hp := Lib.hid hp
      go_wp2
      clear q9
      obtain ⟨w1, rfl⟩ : ∃ w1, w1 = wr := ⟨_, rfl⟩
      go_loopw [5] (fun s wr => RelN2 w1 l j vs s wr) (fun s _ => vs.length - (intOf s).toNat)
      case atStart => exact ⟨0, Nat.zero_le _, rfl, (fun t _ h => absurd h (Nat.not_lt_zero t)), Below.refl _ _⟩
      case round =>
        obtain ⟨k, hk, rfl, hp2, hB2⟩ := hrel
        by_cases hkl : k < vs.length
        · obtain ⟨av, A3, c3, rfl, v0, v1, v2, v3, hx1, hx2⟩ := ver_at (hV.out _ hB2) hkl
          clear v0 v2 v3 hx1 hx2
          have hca := hwr.out wr (hBs.out _ hB2) j (by omega) vs[k].f1
          have hnx2 : NmV l j vs[k] → ∀ u (hu : u < vs.length), u < k + 1 → NmV l j vs[u] := fun h u hu h1 => by
            by_cases e : u = k
            · subst e; exact h
            · exact hp2 u hu (by omega)
          have hno3 := hno2.out vs[k] (List.getElem_mem hkl)
          have a4 : IntKind.i64.wrap ((k : Int) + 1) = (k : Int) + 1 := IntWalk.i64_in _ (by omega)
          generalize vs[k] = v at *
          replace hp2 := Lib.hid hp2
          replace hnx2 := Lib.hid hnx2
          replace hno3 := Lib.hid hno3
          replace hB2 := Lib.hid hB2
          by_cases h0 : v.f1 = 0
          · have b0 : (v.f1 != 0) = false := by rw [h0]; rfl
            have hn3 := Lib.hid (hnx2.out fun e => absurd h0 e)
            replace h0 := Lib.hid h0
            clear hca
            go_wp2
            go_roundw
            case rel => exact ⟨k + 1, by omega, by go_num, hn3.out, hB2.out⟩
            case measure => simp [intOf]; omega
          · have b0 : (v.f1 != 0) = true := by rw [bne_iff_ne]; exact h0
            rcases fidx_spec' (wrB v.f1) (l.take j) with e | ⟨m, -, e⟩
            · obtain rfl := hno3.out (nmV_no h0 e)
              rw [e] at hca
              replace h0 := Lib.hid h0
              replace hca := Lib.hid hca
              replace e := Lib.hid e
              go_wp2_with (first | (go_at_call 58; refine hca.out.mono ?_; rintro e W3 ⟨rfl, hb3⟩; have hB3 := Lib.hid (hBs.out _ (below_then hB2.out hB2.out.size hb3)); clear hb3) | go_in)
              go_ret
              exact ⟨rfl, hB3.out⟩
            · have hn3 := Lib.hid (hnx2.out (nmV_of (by omega) e))
              have b1 : decide ((m : Int) < 0) = false := decide_eq_false (by omega)
              rw [e] at hca
              replace h0 := Lib.hid h0
              replace hca := Lib.hid hca
              replace e := Lib.hid e
              go_wp2_with (first | (go_at_call 58; refine hca.out.mono ?_; rintro e W3 ⟨rfl, hb3⟩; have hB3 := Lib.hid (below_then hB2.out hB2.out.size hb3); clear hb3) | go_in)
              go_roundw
              case rel => exact ⟨k + 1, by omega, by go_num, hn3.out, hB3.out⟩
              case measure => simp [intOf]; omega
        · have hn4 := Lib.hid (hnx.out fun v hv => by
            obtain ⟨u, hu, rfl⟩ := List.getElem_of_mem hv
            exact hp2 u hu (by omega))
          replace hB2 := Lib.hid (hBs.out _ hB2)
          clear hp2 hnx
          go_wp2
          go_roundw
          case rel => exact ⟨j + 1, by omega, by go_num, hn4.out, hB2.out⟩
          case measure => simp [intOf]; omega
    · obtain rfl := hye.out (fun t ht => hp t ht (by omega))
      replace hB := Lib.hid hB
      clear hp hye hno
      go_wp2
      go_ret
      exact ⟨rfl, hB.out⟩
theorem mem_no {L : List Int} {b : Int} (h : ∀ t (ht : t < L.length), L[t] ≠ b) : b ∉ L := fun hb => by
  obtain ⟨t, ht, e⟩ := List.getElem_of_mem hb
  exact h t ht e
def RelA1 (w : World) (l : List Evt) (a : Nat) (y : Evt) (b : Int) (s : Value) (wr : World) : Prop := ∃ j : Nat, j ≤ l.length ∧ s = .int .i64 j ∧ (∀ t (ht : t < l.length), t < j → l[t].f0 = 3 → b ∉ mustS l t a l[t] y) ∧ Below w.heap.size w wr
def RelA2 (w : World) (L : List Int) (b : Int) (s : Value) (wr : World) : Prop := ∃ k : Nat, k ≤ L.length ∧ s = .int .i64 k ∧ (∀ t (ht : t < L.length), t < k → L[t] ≠ b) ∧ Below w.heap.size w wr
set_option maxHeartbeats 8000000 in
set_option maxRecDepth 100000 in
theorem rahead_any (A : Option Addr) (c : Nat) (l : List Evt) (a b : Nat) (ha : a < l.length) (hb : b < l.length) (hvs : ∀ j (hj : j < l.length), l[j].f6.f3.length ≤ 1048576) (w : World) (hC : kEvt.C w A l.length l) (r : Bool) (hr : r = true ↔ AhR l a b) :
    Calls Tryz.prog 34 #[.slice A l.length c, .int .i64 a, .int .i64 b] w fun e w' => e = .returned (.bool r) ∧ Below w.heap.size w w' := by
  have hm : l.length ≤ 9223372036854775807 := hC.2.1
  have hmu := Lib.hid fun W (hb : Below w.heap.size w W) i (hi : i < l.length) => rmust_any A c l i a hi ha (hvs i hi) W (Kd.C_below hC hb)
  obtain ⟨ad, A4, c4, A5, c5, A9, c9, rfl, q0, q1, q2, q3, q4, q5, q6, q7, q8, q9, hK, hl9, hk9⟩ := evt_at hC ha
  obtain ⟨ad', B4, d4, B5, d5, B9, d9, he, g0, g1, g2, g3, g4, g5, g6, g7, g8, g9, hK', hl9', hk9'⟩ := evt_at hC hb
  cases he
  clear q0 q2 q3 q4 q5 q6 q7 q8 q9 hK hl9 hk9 g0 g2 g4 g5 g6 g7 g8 g9 hK' hl9' hk9' hvs
  have hg3 := Lib.hid fun (W : World) (hb : Below w.heap.size w W) => pw_cell_below hb g3
  have hy1 : l[a].f1 = l[b].f1 → a < b → r = true := fun h1 h2 => hr.2 ⟨ha, hb, .inl ⟨h1, h2⟩⟩
  have hy2 : ∀ i (hi : i < l.length), l[i].f0 = 3 → l[b].f3 ∈ mustS l i a l[i] l[a] → r = true := fun i hi h1 h2 => hr.2 ⟨ha, hb, .inr ⟨i, hi, h1, h2⟩⟩
  have hno : ¬ (l[a].f1 = l[b].f1 ∧ a < b) → (∀ t (ht : t < l.length), l[t].f0 = 3 → l[b].f3 ∉ mustS l t a l[t] l[a]) → r = false := fun h1 h2 => by
    rw [← Bool.not_eq_true, hr]
    rintro ⟨_, _, h | ⟨i, hi, h3, h4⟩⟩
    · exact h1 h
    · exact h2 i hi h3 h4
  clear hr
  generalize hya : l[a] = y at *
  generalize hyb : l[b] = z at *
  replace hya := Lib.hid hya
  replace hyb := Lib.hid hyb
  replace hC := Lib.hid hC
  replace hy1 := Lib.hid hy1
  replace hy2 := Lib.hid hy2
  replace hno := Lib.hid hno
  by_cases hcl : y.f1 = z.f1 ∧ a < b
  · obtain rfl := hy1.out hcl.1 hcl.2
    have b0 : (y.f1 == z.f1) = true := beq_iff_eq.2 hcl.1
    have b1 : decide ((a : Int) < (b : Int)) = true := decide_eq_true (by omega)
    have b2 : a < b := hcl.2
    replace hcl := Lib.hid hcl
    clear hmu hno hy1 hy2
    go_enter Tryz.func34, Tryz.ntmps34
    go_wp2
    go_quiet (fail)
    go_wp2
    go_ret
    exact ⟨rfl, pw_below_drewN (Below.refl _ _) _⟩
  · have hno2 := Lib.hid fun h => hno.out hcl h
    clear hno hy1
    have hbs : (y.f1 == z.f1) = false ∨ ((y.f1 == z.f1) = true ∧ decide ((a : Int) < (b : Int)) = false) := by
      by_cases e : y.f1 = z.f1
      · exact .inr ⟨beq_iff_eq.2 e, decide_eq_false fun h => hcl ⟨e, by omega⟩⟩
      · exact .inl (beq_eq_false_iff_ne.2 e)
    replace hcl := Lib.hid hcl
    rcases hbs with b0 | ⟨b0, b1⟩
    · go_enter Tryz.func34, Tryz.ntmps34
      go_wp2
      go_quiet (fail)
      have hb0 := pw_below_drewN (Below.refl w.heap.size w) nq
      go_wp2
      clear g1 g3 q1
      go_loopw [7] (fun s wr => RelA1 w l a y z.f3 s wr) (fun s _ => l.length - (intOf s).toNat)
      case atStart => exact ⟨0, Nat.zero_le _, rfl, (fun t _ h => absurd h (Nat.not_lt_zero t)), hb0⟩
      case round =>
        clear hb0
        obtain ⟨j, hj, rfl, hp, hB⟩ := hrel
        by_cases hlt : j < l.length
        · obtain ⟨ad', C4, e4, C5, e5, C9, e9, he, x0, x1, x2, x3, x4, x5, x6, x7, x8, x9, hK, hl9, hk9⟩ := evt_at (Kd.C_below hC.out hB) hlt
          cases he
          clear x1 x2 x3 x4 x5 x6 x7 x8 x9 hK hl9 hk9
          have hca := Lib.hid (hmu.out wr hB j hlt)
          have hy3 := hy2.out j hlt
          have hnx : (l[j].f0 = 3 → z.f3 ∉ mustS l j a l[j] y) → ∀ t (ht : t < l.length), t < j + 1 → l[t].f0 = 3 → z.f3 ∉ mustS l t a l[t] y := fun h t ht h1 => by
            by_cases e : t = j
            · subst e; exact h
            · exact hp t ht (by omega)
          have a1 : IntKind.i64.wrap ((j : Int) + 1) = (j : Int) + 1 := IntWalk.i64_in _ (by omega)
          generalize mustS l j a l[j] y = L at *
          generalize l[j] = x at *
          replace hnx := Lib.hid hnx
          replace hp := Lib.hid hp
          by_cases k3 : x.f0 = 3
          · have hy4 := Lib.hid (hy3 k3)
            have c0 : (x.f0 != 3) = false := by rw [k3]; rfl
            have hn4 := Lib.hid fun h => hnx.out fun _ => h
            have hBs := Lib.hid fun (W : World) (hb : Below wr.heap.size wr W) => below_then hB hB.size hb
            clear hy3 hnx hB
            replace k3 := Lib.hid k3
            go_wp2_with (first | (go_at_call 59; refine hca.out.mono ?_; rintro e W3 ⟨LA, lc, rfl, hrow, hb3⟩; have hB3 := Lib.hid (hBs.out _ hb3); have hR3 := Lib.hid (RowC.own hrow).1; clear hb3 hrow) | go_in)
            clear hca hBs x0
            have hml : L.length ≤ 9223372036854775807 := hR3.out.2.1
            go_loopw [9] (fun s wr => RelA2 W3 L z.f3 s wr) (fun s _ => L.length - (intOf s).toNat)
            case atStart => exact ⟨0, Nat.zero_le _, rfl, (fun t _ h => absurd h (Nat.not_lt_zero t)), Below.refl _ _⟩
            case round =>
              obtain ⟨k, hk, rfl, hp2, hB4⟩ := hrel
              have g3 := hg3.out wr (below_then hB3.out hB3.out.size hB4)
              by_cases hkl : k < L.length
              · obtain ⟨la, rfl, z0⟩ := id_at (hR3.out.below hB4) hkl
                have a4 : IntKind.i64.wrap ((k : Int) + 1) = (k : Int) + 1 := IntWalk.i64_in _ (by omega)
                have hnx2 : L[k] ≠ z.f3 → ∀ t (ht : t < L.length), t < k + 1 → L[t] ≠ z.f3 := fun h t ht h1 => by
                  by_cases e : t = k
                  · subst e; exact h
                  · exact hp2 t ht (by omega)
                have hy5 : L[k] = z.f3 → r = true := fun h => hy4.out (h ▸ List.getElem_mem hkl)
                generalize L[k] = u at *
                replace hp2 := Lib.hid hp2
                replace hnx2 := Lib.hid hnx2
                replace hy5 := Lib.hid hy5
                replace hB4 := Lib.hid hB4
                by_cases h5 : u = z.f3
                · obtain rfl := hy5.out h5
                  have c5 : (u == z.f3) = true := beq_iff_eq.2 h5
                  replace h5 := Lib.hid h5
                  go_wp2
                  go_quiet (fail)
                  go_wp2
                  go_ret
                  exact ⟨rfl, below_then (below_then hB3.out hB3.out.size hB4.out) (below_then hB3.out hB3.out.size hB4.out).size (pw_below_drewN (Below.refl _ _) _)⟩
                · have hn5 := Lib.hid (hnx2.out h5)
                  have c5 : (u == z.f3) = false := beq_eq_false_iff_ne.2 h5
                  replace h5 := Lib.hid h5
                  go_wp2
                  go_quiet (fail)
                  go_wp2
                  go_roundw
                  case rel => exact ⟨k + 1, by omega, by go_num, hn5.out, below_then hB4.out hB4.out.size (pw_below_drewN (Below.refl _ _) _)⟩
                  case measure => simp [intOf]; omega
              · have hn5 := Lib.hid (hn4.out (mem_no fun t ht => hp2 t ht (by omega)))
                have hB5 := Lib.hid (below_then hB3.out hB3.out.size hB4)
                clear hp2 hB4 g3
                go_wp2
                go_roundw
                case rel => exact ⟨j + 1, by omega, by go_num, hn5.out, hB5.out⟩
                case measure => simp [intOf]; omega
          · have hn4 := Lib.hid (hnx.out fun e => absurd e k3)
            have c0 : (x.f0 != 3) = true := by rw [bne_iff_ne]; exact k3
            replace k3 := Lib.hid k3
            replace hy3 := Lib.hid hy3
            replace hB := Lib.hid hB
            clear hca hnx
            go_wp2
            go_roundw
            case rel => exact ⟨j + 1, by omega, by go_num, hn4.out, hB.out⟩
            case measure => simp [intOf]; omega
        · obtain rfl := hno2.out (fun t ht => hp t ht (by omega))
          replace hB := Lib.hid hB
          clear hp
          go_wp2
          go_ret
          exact ⟨rfl, hB.out⟩
    · have b2 : ¬ a < b := fun h => by
        rw [decide_eq_true (by omega)] at b1
        cases b1
      go_enter Tryz.func34, Tryz.ntmps34
      go_wp2
      go_quiet (fail)
      have hb0 := pw_below_drewN (Below.refl w.heap.size w) nq
      go_wp2
      clear g1 g3 q1
      go_loopw [7] (fun s wr => RelA1 w l a y z.f3 s wr) (fun s _ => l.length - (intOf s).toNat)
      case atStart => exact ⟨0, Nat.zero_le _, rfl, (fun t _ h => absurd h (Nat.not_lt_zero t)), hb0⟩
      case round =>
        clear hb0
        obtain ⟨j, hj, rfl, hp, hB⟩ := hrel
        by_cases hlt : j < l.length
        · obtain ⟨ad', C4, e4, C5, e5, C9, e9, he, x0, x1, x2, x3, x4, x5, x6, x7, x8, x9, hK, hl9, hk9⟩ := evt_at (Kd.C_below hC.out hB) hlt
          cases he
          clear x1 x2 x3 x4 x5 x6 x7 x8 x9 hK hl9 hk9
          have hca := Lib.hid (hmu.out wr hB j hlt)
          have hy3 := hy2.out j hlt
          have hnx : (l[j].f0 = 3 → z.f3 ∉ mustS l j a l[j] y) → ∀ t (ht : t < l.length), t < j + 1 → l[t].f0 = 3 → z.f3 ∉ mustS l t a l[t] y := fun h t ht h1 => by
            by_cases e : t = j
            · subst e; exact h
            · exact hp t ht (by omega)
          have a1 : IntKind.i64.wrap ((j : Int) + 1) = (j : Int) + 1 := IntWalk.i64_in _ (by omega)
          generalize mustS l j a l[j] y = L at *
          generalize l[j] = x at *
          replace hnx := Lib.hid hnx
          replace hp := Lib.hid hp
          by_cases k3 : x.f0 = 3
          · have hy4 := Lib.hid (hy3 k3)
            have c0 : (x.f0 != 3) = false := by rw [k3]; rfl
            have hn4 := Lib.hid fun h => hnx.out fun _ => h
            have hBs := Lib.hid fun (W : World) (hb : Below wr.heap.size wr W) => below_then hB hB.size hb
            clear hy3 hnx hB
            replace k3 := Lib.hid k3
            go_wp2_with (first | (go_at_call 59; refine hca.out.mono ?_; rintro e W3 ⟨LA, lc, rfl, hrow, hb3⟩; have hB3 := Lib.hid (hBs.out _ hb3); have hR3 := Lib.hid (RowC.own hrow).1; clear hb3 hrow) | go_in)
            clear hca hBs x0
            have hml : L.length ≤ 9223372036854775807 := hR3.out.2.1
            go_loopw [9] (fun s wr => RelA2 W3 L z.f3 s wr) (fun s _ => L.length - (intOf s).toNat)
            case atStart => exact ⟨0, Nat.zero_le _, rfl, (fun t _ h => absurd h (Nat.not_lt_zero t)), Below.refl _ _⟩
            case round =>
              obtain ⟨k, hk, rfl, hp2, hB4⟩ := hrel
              have g3 := hg3.out wr (below_then hB3.out hB3.out.size hB4)
              by_cases hkl : k < L.length
              · obtain ⟨la, rfl, z0⟩ := id_at (hR3.out.below hB4) hkl
                have a4 : IntKind.i64.wrap ((k : Int) + 1) = (k : Int) + 1 := IntWalk.i64_in _ (by omega)
                have hnx2 : L[k] ≠ z.f3 → ∀ t (ht : t < L.length), t < k + 1 → L[t] ≠ z.f3 := fun h t ht h1 => by
                  by_cases e : t = k
                  · subst e; exact h
                  · exact hp2 t ht (by omega)
                have hy5 : L[k] = z.f3 → r = true := fun h => hy4.out (h ▸ List.getElem_mem hkl)
                generalize L[k] = u at *
                replace hp2 := Lib.hid hp2
                replace hnx2 := Lib.hid hnx2
                replace hy5 := Lib.hid hy5
                replace hB4 := Lib.hid hB4
                by_cases h5 : u = z.f3
                · obtain rfl := hy5.out h5
                  have c5 : (u == z.f3) = true := beq_iff_eq.2 h5
                  replace h5 := Lib.hid h5
                  go_wp2
                  go_quiet (fail)
                  go_wp2
                  go_ret
                  exact ⟨rfl, below_then (below_then hB3.out hB3.out.size hB4.out) (below_then hB3.out hB3.out.size hB4.out).size (pw_below_drewN (Below.refl _ _) _)⟩
                · have hn5 := Lib.hid (hnx2.out h5)
                  have c5 : (u == z.f3) = false := beq_eq_false_iff_ne.2 h5
                  replace h5 := Lib.hid h5
                  go_wp2
                  go_quiet (fail)
                  go_wp2
                  go_roundw
                  case rel => exact ⟨k + 1, by omega, by go_num, hn5.out, below_then hB4.out hB4.out.size (pw_below_drewN (Below.refl _ _) _)⟩
                  case measure => simp [intOf]; omega
              · have hn5 := Lib.hid (hn4.out (mem_no fun t ht => hp2 t ht (by omega)))
                have hB5 := Lib.hid (below_then hB3.out hB3.out.size hB4)
                clear hp2 hB4 g3
                go_wp2
                go_roundw
                case rel => exact ⟨j + 1, by omega, by go_num, hn5.out, hB5.out⟩
                case measure => simp [intOf]; omega
          · have hn4 := Lib.hid (hnx.out fun e => absurd e k3)
            have c0 : (x.f0 != 3) = true := by rw [bne_iff_ne]; exact k3
            replace k3 := Lib.hid k3
            replace hy3 := Lib.hid hy3
            replace hB := Lib.hid hB
            clear hca hnx
            go_wp2
            go_roundw
            case rel => exact ⟨j + 1, by omega, by go_num, hn4.out, hB.out⟩
            case measure => simp [intOf]; omega
        · obtain rfl := hno2.out (fun t ht => hp t ht (by omega))
          replace hB := Lib.hid hB
          clear hp
          go_wp2
          go_ret
          exact ⟨rfl, hB.out⟩
end Go.Proofs.YtiibjgnmdieicaaGreat.Hist
/- the document's order: bottoms, walked. -/
namespace Go.Proofs.YtiibjgnmdieicaaGreat.Hist
open Go.RowKit Go.Proofs.YtiibjgnmdieicaaGreatW.PrintWords Go.Sort
def must2 (l : List Evt) (i p : Nat) : List Int := match l[i]?, l[p]? with
  | some x, some y => mustS l i p x y
  | _, _ => []
theorem must2_lt {l : List Evt} {i p : Nat} (hi : i < l.length) (hp : p < l.length) : must2 l i p = mustS l i p l[i] l[p] := by
  unfold must2
  rw [List.getElem?_eq_getElem hi, List.getElem?_eq_getElem hp]
theorem w_lt {l : List Evt} {p : Nat} (h : p ∈ writesN l l.length) : ∃ hp : p < l.length, isWB l[p] = true := by
  obtain ⟨h1, h2⟩ := mem_writes.1 h
  exact ⟨h1, by rw [← isWAt_lt h1]; exact h2⟩
def RelB1 (w : World) (l : List Evt) (s : Value) (wr : World) : Prop := ∃ j : Nat, j ≤ l.length ∧ s = .int .i64 j ∧ (∀ t (ht : t < l.length), t < j → l[t].f0 = 3 → ∀ p ∈ writesN l l.length, 0 ∉ must2 l t p) ∧ Below w.heap.size w wr
def RelB2 (w : World) (l : List Evt) (i : Nat) (x : Evt) (ws : List Nat) (s : Value) (wr : World) : Prop := ∃ k : Nat, k ≤ ws.length ∧ s = .int .i64 k ∧ (x.f0 = 3 → ∀ u (hu : u < ws.length), u < k → 0 ∉ must2 l i ws[u]) ∧ Below w.heap.size w wr
set_option maxHeartbeats 8000000 in
set_option maxRecDepth 100000 in
theorem rbottoms_any (A : Option Addr) (c : Nat) (l : List Evt) (hsm : l.length ≤ 1048576) (hvs : ∀ j (hj : j < l.length), l[j].f6.f3.length ≤ 1048576) (w : World) (hC : kEvt.C w A l.length l) (r : Bool) (hr : r = true ↔ BotP l) :
    Calls Tryz.prog 32 #[.slice A l.length c] w fun e w' => e = .returned (.bool r) ∧ Below w.heap.size w w' := by
  have hm : l.length ≤ 9223372036854775807 := hC.2.1
  have hmu := Lib.hid fun W (hb : Below w.heap.size w W) i (hi : i < l.length) p (hp : p < l.length) => rmust_any A c l i p hi hp (hvs i hi) W (Kd.C_below hC hb)
  have hws := Lib.hid (rwrites_any A c l hsm w hC)
  have hye : ∀ i (hi : i < l.length), l[i].f0 = 3 → ∀ p ∈ writesN l l.length, 0 ∈ must2 l i p → r = true := fun i hi h3 p hp h => by
    obtain ⟨hpl, hw⟩ := w_lt hp
    rw [must2_lt hi hpl] at h
    exact hr.2 ⟨i, hi, h3, p, hpl, hw, h⟩
  have hno : (∀ t (ht : t < l.length), l[t].f0 = 3 → ∀ p ∈ writesN l l.length, 0 ∉ must2 l t p) → r = false := fun h => by
    rw [← Bool.not_eq_true, hr]
    rintro ⟨i, hi, h3, p, hp, hw, hb⟩
    refine h i hi h3 p (mem_writes.2 ⟨hp, by rw [isWAt_lt hp]; exact hw⟩) ?_
    rw [must2_lt hi hp]
    exact hb
  have hwl : ∀ p ∈ writesN l l.length, p < l.length := fun p hp => (w_lt hp).1
  have hwn := writesN_len l l.length
  clear hr hvs
  replace hC := Lib.hid hC
  replace hye := Lib.hid hye
  replace hno := Lib.hid hno
  unfold WritesTo at hws
  go_enter Tryz.func32, Tryz.ntmps32
  go_wp2_with fail
  refine hws.out.mono ?_
  rintro e W1 ⟨WA, wc, rfl, hrow, hb1⟩
  have hR1 := Lib.hid (RowC.own hrow).1
  replace hb1 := Lib.hid hb1
  clear hrow hws
  generalize hWS : writesN l l.length = ws at *
  go_wp2
  go_loopw [4] (fun s wr => RelB1 W1 l s wr) (fun s _ => l.length - (intOf s).toNat)
  case atStart => exact ⟨0, Nat.zero_le _, rfl, (fun t _ h => absurd h (Nat.not_lt_zero t)), Below.refl _ _⟩
  case round =>
    obtain ⟨j, hj, rfl, hp, hB⟩ := hrel
    by_cases hlt : j < l.length
    · obtain ⟨ad, A4, c4, A5, c5, A9, c9, rfl, q0, q1, q2, q3, q4, q5, q6, q7, q8, q9, hK, hl9, hk9⟩ := evt_at (Kd.C_below hC.out (below_then hb1.out hb1.out.size hB)) hlt
      clear q1 q2 q3 q4 q5 q6 q7 q8 q9 hK hl9 hk9
      have hye2 := hye.out j hlt
      have hnx : (l[j].f0 = 3 → ∀ p ∈ ws, 0 ∉ must2 l j p) → ∀ t (ht : t < l.length), t < j + 1 → l[t].f0 = 3 → ∀ p ∈ writesN l l.length, 0 ∉ must2 l t p := fun h t ht h1 => by
        rw [hWS]
        by_cases e : t = j
        · subst e; exact h
        · have := hp t ht (by omega)
          rw [hWS] at this
          exact this
      have hmu2 := Lib.hid fun W (hb : Below W1.heap.size W1 W) p (hp : p < l.length) => hmu.out W (below_then hb1.out hb1.out.size hb) j hlt p hp
      have a1 : IntKind.i64.wrap ((j : Int) + 1) = (j : Int) + 1 := IntWalk.i64_in _ (by omega)
      have hx0 : ∀ p, p < l.length → mustS l j p l[j] (l.getD p ⟨0, 0, 0, 0, [], [], ⟨0, 0, 0, []⟩⟩) = must2 l j p := fun p hp => by
        rw [must2_lt hlt hp]
        simp [hp]
      have hmu3 : Hid (∀ W, Below W1.heap.size W1 W → ∀ p, p < l.length → Calls Tryz.prog 59 #[.slice (some ad) l.length c, .int .i64 j, .int .i64 p] W (MustTo W (must2 l j p))) := Lib.hid fun W hb p hp => by
        rw [must2_lt hlt hp]
        exact hmu2.out W hb p hp
      clear hmu2 hx0
      generalize l[j] = x at *
      have hBs := Lib.hid fun (W : World) (hb : Below wr.heap.size wr W) => below_then hB hB.size hb
      have hq0 := Lib.hid fun (W : World) (hb : Below wr.heap.size wr W) => pw_cell_below hb q0
      clear hB
      replace hye2 := Lib.hid hye2
      replace hnx := Lib.hid hnx
      replace hp := Lib.hid hp
      go_wp2
      clear q0
      obtain ⟨w1, rfl⟩ : ∃ w1, w1 = wr := ⟨_, rfl⟩
      go_loopw [5] (fun s wr => RelB2 w1 l j x ws s wr) (fun s _ => ws.length - (intOf s).toNat)
      case atStart => exact ⟨0, Nat.zero_le _, rfl, (fun _ t _ h => absurd h (Nat.not_lt_zero t)), Below.refl _ _⟩
      case round =>
        obtain ⟨k, hk, rfl, hp2, hB2⟩ := hrel
        have q0 := hq0.out wr hB2
        by_cases hkl : k < ws.length
        · by_cases k3 : x.f0 = 3
          · have c0 : (x.f0 == 3) = true := beq_iff_eq.2 k3
            obtain ⟨wa, rfl, z0⟩ := int_at (hR1.out.below (hBs.out _ hB2)) hkl
            have hpl := hwl _ (List.getElem_mem hkl)
            have hca := Lib.hid (hmu3.out wr (hBs.out _ hB2) ws[k] hpl)
            have hye3 := hye2.out k3 ws[k] (List.getElem_mem hkl)
            have hnx2 : 0 ∉ must2 l j ws[k] → x.f0 = 3 → ∀ u (hu : u < ws.length), u < k + 1 → 0 ∉ must2 l j ws[u] := fun h _ u hu h1 => by
              by_cases e : u = k
              · subst e; exact h
              · exact hp2 k3 u hu (by omega)
            have a4 : IntKind.i64.wrap ((k : Int) + 1) = (k : Int) + 1 := IntWalk.i64_in _ (by omega)
            generalize must2 l j ws[k] = L at *
            generalize ws[k] = p at *
            replace k3 := Lib.hid k3
            replace hp2 := Lib.hid hp2
            replace hnx2 := Lib.hid hnx2
            replace hye3 := Lib.hid hye3
            replace hB2 := Lib.hid hB2
            unfold MustTo at hca
            go_wp2_with (first | (go_at_call 59; refine hca.out.mono ?_; rintro e W3 ⟨LA, lc, rfl, hrow, hb3⟩; have hB3 := Lib.hid (below_then hB2.out hB2.out.size hb3); have hR3 := Lib.hid (RowC.own hrow).1; clear hb3 hrow) | go_in)
            clear hca q0 z0
            have hml : L.length ≤ 9223372036854775807 := hR3.out.2.1
            go_loopw [7] (fun s wr => RelA2 W3 L 0 s wr) (fun s _ => L.length - (intOf s).toNat)
            case atStart => exact ⟨0, Nat.zero_le _, rfl, (fun t _ h => absurd h (Nat.not_lt_zero t)), Below.refl _ _⟩
            case round =>
              obtain ⟨m, hmm, rfl, hp3, hB4⟩ := hrel
              by_cases hml2 : m < L.length
              · obtain ⟨la, rfl, z0⟩ := id_at (hR3.out.below hB4) hml2
                have a5 : IntKind.i64.wrap ((m : Int) + 1) = (m : Int) + 1 := IntWalk.i64_in _ (by omega)
                have hnx3 : L[m] ≠ 0 → ∀ t (ht : t < L.length), t < m + 1 → L[t] ≠ 0 := fun h t ht h1 => by
                  by_cases e : t = m
                  · subst e; exact h
                  · exact hp3 t ht (by omega)
                have hy5 : L[m] = 0 → r = true := fun h => hye3.out (h ▸ List.getElem_mem hml2)
                generalize L[m] = u at *
                replace hp3 := Lib.hid hp3
                replace hnx3 := Lib.hid hnx3
                replace hy5 := Lib.hid hy5
                replace hB4 := Lib.hid hB4
                by_cases h5 : u = 0
                · obtain rfl := hy5.out h5
                  have c5 : (u == 0) = true := beq_iff_eq.2 h5
                  have hB5 := Lib.hid (below_then hb1.out hb1.out.size (hBs.out _ (below_then hB3.out hB3.out.size hB4.out)))
                  replace h5 := Lib.hid h5
                  go_wp2
                  go_ret
                  exact ⟨rfl, hB5.out⟩
                · have hn5 := Lib.hid (hnx3.out h5)
                  have c5 : (u == 0) = false := beq_eq_false_iff_ne.2 h5
                  replace h5 := Lib.hid h5
                  go_wp2
                  go_roundw
                  case rel => exact ⟨m + 1, by omega, by go_num, hn5.out, hB4.out⟩
                  case measure => simp [intOf]; omega
              · have hn5 := Lib.hid (hnx2.out (mem_no fun t ht => hp3 t ht (by omega)))
                have hB5 := Lib.hid (below_then hB3.out hB3.out.size hB4)
                clear hp3 hB4
                go_wp2
                go_roundw
                case rel => exact ⟨k + 1, by omega, by go_num, hn5.out, hB5.out⟩
                case measure => simp [intOf]; omega
          · have c0 : (x.f0 == 3) = false := beq_eq_false_iff_ne.2 k3
            have hn4 := Lib.hid (hnx.out fun e => absurd e k3)
            have hB5 := Lib.hid (hBs.out _ hB2)
            replace k3 := Lib.hid k3
            clear hp2 hB2 hnx
            go_wp2
            go_roundw
            case rel => exact ⟨j + 1, by omega, by go_num, hn4.out, hB5.out⟩
            case measure => simp [intOf]; omega
        · have hn4 := Lib.hid (hnx.out fun e p hp => by
            obtain ⟨u, hu, rfl⟩ := List.getElem_of_mem hp
            exact hp2 e u hu (by omega))
          have hB5 := Lib.hid (hBs.out _ hB2)
          clear hp2 hB2 hnx
          go_wp2
          go_roundw
          case rel => exact ⟨j + 1, by omega, by go_num, hn4.out, hB5.out⟩
          case measure => simp [intOf]; omega
    · obtain rfl := hno.out (fun t ht h3 p hpp => hp t ht (by omega) h3 p (by rw [hWS]; exact hpp))
      have hB5 := Lib.hid (below_then hb1.out hb1.out.size hB)
      clear hp hB
      go_wp2
      go_ret
      exact ⟨rfl, hB5.out⟩
end Go.Proofs.YtiibjgnmdieicaaGreat.Hist
