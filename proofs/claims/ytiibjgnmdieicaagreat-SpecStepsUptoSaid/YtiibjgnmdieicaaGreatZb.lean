/- the document's judge: keys, walked. -/
import Derived.Test.YtiibjgnmdieicaaGreatVg
import Derived.Test.YtiibjgnmdieicaaGreatZa
namespace Go.Proofs.YtiibjgnmdieicaaGreat.Hist
open Go.RowKit Go.Proofs.YtiibjgnmdieicaaGreatW.PrintWords Go.Sort
abbrev tSl : TypeId := 33
theorem one_strs {l : List ByteArray} {inner : List Value} (h : Reps RS 1 l inner) : ∀ u ∈ inner, u.oneCell' = true := by
  rw [reps_str h]
  intro u hu
  obtain ⟨s, _, rfl⟩ := List.mem_map.1 hu
  rfl
theorem reps_appS {l r : List ByteArray} {a b : List Value} (h : Reps RS 1 l a) (k : Reps RS 1 r b) : Reps RS 1 (l ++ r) (a ++ b) := by
  have h1 := h.1
  have k1 := k.1
  refine ⟨by rw [List.length_append, List.length_append]; omega, fun j q hq => ?_⟩
  by_cases hj : j < l.length
  · rw [List.getElem?_append_left hj] at hq
    have := h.2 j q hq
    rw [Nat.mul_one] at this ⊢
    rw [List.drop_append_of_le_length (by omega), List.take_append_of_le_length (by rw [List.length_drop]; omega)]
    exact this
  · rw [List.getElem?_append_right (by omega)] at hq
    have := k.2 (j - l.length) q hq
    rw [Nat.mul_one] at this ⊢
    rw [show j = a.length + (j - l.length) from by omega, List.drop_append, List.drop_eq_nil_of_le (by omega), List.nil_append, Nat.add_sub_cancel_left]
    exact this
/-- append(v, qs...): v the program's own, qs anyone's -/
theorem append_strs {ops : Array Oper} {rest : List Oper} {o : Oper} {a : Act} {Q : Exit → Act → World → Prop} {W : World} (S : Nat) (hgd : o.guard = none) (s x : Operand) (ho : o.op = .call { callee := .builtin .append, args := #[s, x], argTypes := #[tSl, tSl] })
    (ps qs : List ByteArray) (np nq : Nat) (hnp : ps.length = np) (hnq : qs.length = nq) (v : Value) (A : Option Addr) (c : Nat) (hs : a.eval s = v) (hx : a.eval x = .slice A nq c) (HO : OwnRow RS tS 1 W S v ps) (hS : S ≤ W.heap.size) (hR : RowC RS 1 W A qs) (hl : ps.length + qs.length ≤ 2097152)
    (h : ∀ A1 c1 w1, OwnRow RS tS 1 w1 S (.slice A1 (np + nq) c1) (ps ++ qs) → Below S W w1 → wpList Tryz.prog ops Q rest (a.put o.dst (.slice A1 (np + nq) c1)) w1) :
    wpList Tryz.prog ops Q (o :: rest) a W := by
  subst hnp hnq
  obtain ⟨i0, hi, hz0, hz1, hz2⟩ := info_parts infoStr
  cases qs with
  | nil =>
    obtain ⟨A0, c0, rfl, hle⟩ := HO.slice_
    have hsrc : Src Tryz.prog i0.size tSl (.slice A 0 c) 0 [] W := by
      cases A with
      | none => exact Src.ofNil W Tryz.underlying33 c
      | some ad => exact Src.ofSlice W Tryz.underlying33 ad 0 c [] (by simp) (fun j u hu => by simp at hu) (fun u hu => by cases hu)
    have hrun := run_append_nothing (P := Tryz.prog) W tSl tSl o.type tS i0 Tryz.underlying33 hi A0 ps.length c0 hle (.slice A 0 c) hsrc
    refine wpList_plain hgd fun K hK => ?_
    unfold Oper.wp
    simp only [List.length_nil] at hx h
    simp [execOp, ho, resolve, invoke, builtin, hs, hx, hrun, Result.andThen]
    exact hK _ _ (h A0 c0 W (by rw [List.append_nil]; exact HO) (Below.refl _ _))
  | cons y r =>
    generalize hso : y :: r = qs at *
    have hpos : 0 < qs.length := by rw [← hso]; simp
    obtain ⟨ad, rfl, _⟩ := hR.2.2 hpos
    obtain ⟨inner2, hrep2, hcell⟩ := ReadsRow.inner_ (R := RS) (size := 1) hR
    obtain ⟨inner, hown, hrep⟩ := HO
    refine wpList_append_lies W hgd s x tSl ho S tS i0 _ 1 16 Tryz.underlying33 hi hz0 hz1 hz2 rfl (by decide) v ps.length inner hs hown ad qs.length c inner2 hx hrep2.1 hcell (one_strs hrep2) hpos (by unfold maxLen; omega) (by omega) hS _ rfl ?_
    intro g cap w1 own1 gr1 _ _
    exact h _ _ _ ⟨inner ++ inner2, by rw [List.length_append]; exact own1, reps_appS hrep hrep2⟩ (pw_below_grown (Below.refl _ _) _ hS gr1 (fun k e => own_base hown k e))
theorem rowS_take {W : World} {A : Option Addr} {l : List ByteArray} (h : RowC RS 1 W A l) (i : Nat) : RowC RS 1 W A (l.take i) := by
  obtain ⟨h1, h2, h3⟩ := h
  refine ⟨rfl, by rw [List.length_take]; omega, fun h0 => ?_⟩
  obtain ⟨ad, e, hc⟩ := h3 (by rw [List.length_take] at h0; omega)
  refine ⟨ad, e, fun t q hq => ?_⟩
  rw [List.getElem?_take] at hq
  split at hq
  · exact hc t q hq
  · cases hq
theorem rowS_drop {W : World} {ad : Addr} {l : List ByteArray} (h : RowC RS 1 W (some ad) l) (i : Nat) : RowC RS 1 W (some (ad.add i)) (l.drop i) := by
  obtain ⟨h1, h2, h3⟩ := h
  refine ⟨rfl, by rw [List.length_drop]; omega, fun h0 => ?_⟩
  obtain ⟨ad', e, hc⟩ := h3 (by rw [List.length_drop] at h0; omega)
  cases e
  refine ⟨_, rfl, fun t q hq => ?_⟩
  rw [List.getElem?_drop] at hq
  obtain ⟨cs, c1, c2, c3⟩ := hc (i + t) q hq
  refine ⟨cs, c1, c2, fun j u hu => ?_⟩
  have := c3 j u hu
  rw [← this, Addr.add_add]
  congr 2
  omega
theorem rowS_nil {W : World} {A : Option Addr} {l : List ByteArray} (h : l = []) : RowC RS 1 W A l := by
  subst h
  exact ⟨rfl, by simp, fun h => absurd h (Nat.lt_irrefl _)⟩
theorem str_at {W : World} {A : Option Addr} {l : List ByteArray} (h : RowC RS 1 W A l) {j : Nat} (hj : j < l.length) : ∃ ad, A = some ad ∧ W.cell? (ad.add j) = some (.string l[j]) := by
  obtain ⟨ad, ea, hc⟩ := h.2.2 (by omega)
  refine ⟨ad, ea, ?_⟩
  obtain ⟨cs, h1, h2, h3⟩ := hc j l[j] (List.getElem?_eq_getElem hj)
  unfold RS at h2
  subst h2
  have h0 := h3 0 _ rfl
  simpa using h0
/-- a text among texts: where it goes -/
def ltS (a b : ByteArray) : Bool := Op.bytesLess a.toList b.toList
def atK (l : List ByteArray) (k : ByteArray) : Nat := l.findIdx fun x => !ltS x k
def insK (l : List ByteArray) (k : ByteArray) : List ByteArray := match l[atK l k]? with
  | some y => if eqS y k = true then l else l.take (atK l k) ++ [k] ++ l.drop (atK l k)
  | none => l.take (atK l k) ++ [k] ++ l.drop (atK l k)
def keysN (ps : List Pai) (n : Nat) : List ByteArray := (ps.take n).foldl (fun l p => insK l p.f0) []
theorem keysN_succ {ps : List Pai} {n : Nat} (h : n < ps.length) : keysN ps (n + 1) = insK (keysN ps n) ps[n].f0 := by
  unfold keysN
  rw [← List.take_append_getElem h, List.foldl_append]
  rfl
theorem insK_len (l : List ByteArray) (k : ByteArray) : (insK l k).length ≤ l.length + 1 := by
  unfold insK
  split
  · split
    · omega
    · simp only [List.length_append, List.length_take, List.length_drop, List.length_singleton]
      omega
  · simp only [List.length_append, List.length_take, List.length_drop, List.length_singleton]
    omega
theorem keysN_len (ps : List Pai) : ∀ n, n ≤ ps.length → (keysN ps n).length ≤ n
  | 0, _ => by simp [keysN]
  | n + 1, h => by
    rw [keysN_succ (by omega)]
    have := keysN_len ps n (by omega)
    have := insK_len (keysN ps n) ps[n].f0
    omega
theorem atK_at {l : List ByteArray} {k : ByteArray} {a : Nat} (ha : a ≤ l.length) (hb : ∀ t (ht : t < l.length), t < a → ltS l[t] k = true) (hn : ∀ h : a < l.length, ltS l[a] k = false) : atK l k = a := by
  unfold atK
  by_cases h : a < l.length
  · rw [List.findIdx_eq h]
    refine ⟨by rw [hn h]; rfl, fun t ht => ?_⟩
    rw [hb t (by omega) ht]
    rfl
  · obtain rfl : a = l.length := by omega
    rw [List.findIdx_eq_length]
    intro x hx
    obtain ⟨t, ht, rfl⟩ := List.getElem_of_mem hx
    rw [hb t ht ht]
    rfl
def RelKs (w : World) (ps : List Pai) (s3 s4 : Value) (wr : World) : Prop := ∃ j : Nat, j ≤ ps.length ∧ s4 = .int .i64 j ∧ OwnRow RS tS 1 wr w.heap.size s3 (keysN ps j) ∧ Below w.heap.size w wr
def RelWa (w : World) (l : List ByteArray) (k : ByteArray) (s6 : Value) (wr : World) : Prop := ∃ a : Nat, a ≤ l.length ∧ s6 = .int .i64 a ∧ (∀ t (ht : t < l.length), t < a → ltS l[t] k = true) ∧ Below w.heap.size w wr
set_option maxHeartbeats 32000000 in
set_option maxRecDepth 100000 in
theorem rkeys_any (x : Evt) (A4 : Option Addr) (c4 : Nat) (A5 : Option Addr) (c5 : Nat) (A9 : Option Addr) (c9 : Nat) (hsm : x.f4.length ≤ 1048576) (w : World) (hC : Kd.C kPai w A4 x.f4.length x.f4) :
    Calls Tryz.prog 70 #[.agg #[.int .i64 x.f0, .int .i64 x.f1, .int .i64 x.f2, .int .u64 x.f3, .slice A4 x.f4.length c4, .slice A5 x.f5.length c5, .int .i64 x.f6.f0, .int .i64 x.f6.f1, .int .u64 x.f6.f2, .slice A9 x.f6.f3.length c9]] w fun e w' => ∃ A c, e = .returned (.slice A (keysN x.f4 x.f4.length).length c) ∧ OwnRow RS tS 1 w' w.heap.size (.slice A (keysN x.f4 x.f4.length).length c) (keysN x.f4 x.f4.length) ∧ Below w.heap.size w w' := by
  have hbe := below_alloc (Below.refl w.heap.size w) (.cells #[.int .i64 x.f0, .int .i64 x.f1, .int .i64 x.f2, .int .u64 x.f3, .slice A4 x.f4.length c4, .slice A5 x.f5.length c5, .int .i64 x.f6.f0, .int .i64 x.f6.f1, .int .u64 x.f6.f2, .slice A9 x.f6.f3.length c9] 38)
  have hX := heap_alloc_new w (.cells #[.int .i64 x.f0, .int .i64 x.f1, .int .i64 x.f2, .int .u64 x.f3, .slice A4 x.f4.length c4, .slice A5 x.f5.length c5, .int .i64 x.f6.f0, .int .i64 x.f6.f1, .int .u64 x.f6.f2, .slice A9 x.f6.f3.length c9] 38)
  have hC2 := Lib.hid (Kd.C_below hC hbe)
  obtain ⟨w1, hw1⟩ : ∃ w1, w1 = w.alloc (.cells #[.int .i64 x.f0, .int .i64 x.f1, .int .i64 x.f2, .int .u64 x.f3, .slice A4 x.f4.length c4, .slice A5 x.f5.length c5, .int .i64 x.f6.f0, .int .i64 x.f6.f1, .int .u64 x.f6.f2, .slice A9 x.f6.f3.length c9] 38) := ⟨_, rfl⟩
  rw [← hw1] at hbe hX hC2
  clear hC
  generalize x.f4 = ps at *
  generalize hnl : (keysN ps ps.length).length = nl
  replace hnl := Lib.hid hnl
  replace hX := Lib.hid hX
  replace hbe := Lib.hid hbe
  replace hw1 := Lib.hid hw1
  go_enter Tryz.func70, Tryz.ntmps70
  go_wp2
  rw [← hw1.out]
  go_loopw [3, 4] (fun s3 s4 wr => RelKs w1 ps s3 s4 wr) (fun _ s4 _ => ps.length - (intOf s4).toNat)
  case atStart => exact ⟨0, Nat.zero_le _, rfl, OwnRow.none_ _ _ _ _ _, Below.refl _ _⟩
  case round =>
    obtain ⟨j, hj, rfl, hO, hB⟩ := hrel
    have hX2 := blk_below hX.out hB
    have e4 := blk_cell hX2 4
    have el := blk_lt hX2
    simp only [List.getElem?_toArray, List.getElem?_cons_zero, List.getElem?_cons_succ] at e4
    replace hX2 := Lib.hid hX2
    by_cases hlt : j < ps.length
    · obtain ⟨ad, rfl, q0, q1⟩ := pair_at (Kd.C_below hC2.out hB) hlt
      clear q1
      have a1 : IntKind.i64.wrap ((j : Int) + 1) = (j : Int) + 1 := IntWalk.i64_in _ (by omega)
      have hst := keysN_succ hlt
      have hkl := keysN_len ps j hj
      generalize hL : keysN ps j = L at *
      generalize hL1 : keysN ps (j + 1) = L1 at *
      generalize ps[j].f0 = key at *
      obtain ⟨LA, lc, rfl⟩ := slice_of hO rfl
      have hR := Lib.hid (RowC.own hO).1
      replace hL := Lib.hid hL
      replace hL1 := Lib.hid hL1
      replace hst := Lib.hid hst
      replace hO := Lib.hid hO
      replace hB := Lib.hid hB
      go_wp2
      obtain ⟨w3, rfl⟩ : ∃ w3, w3 = wr := ⟨_, rfl⟩
      go_loopw [6] (fun s wr => RelWa w3 L key s wr) (fun s _ => L.length - (intOf s).toNat)
      case atStart => exact ⟨0, Nat.zero_le _, rfl, (fun t _ h => absurd h (Nat.not_lt_zero t)), Below.refl _ _⟩
      case round =>
        obtain ⟨a, ha, rfl, hp, hB2⟩ := hrel
        by_cases hal : a < L.length
        · obtain ⟨la, rfl, z0⟩ := str_at (hR.out.below hB2) hal
          generalize hxa : L[a] = xa at *
          have a2 : IntKind.i64.wrap ((a : Int) + 1) = (a : Int) + 1 := IntWalk.i64_in _ (by omega)
          have hlc : L.length ≤ lc := by
            obtain ⟨_, _, e, hle⟩ := hO.out.slice_
            cases e
            exact hle
          cases c0 : Op.bytesLess xa.toList key.toList with
          | true =>
            have hnx : ∀ t (ht : t < L.length), t < a + 1 → ltS L[t] key = true := fun t ht h1 => by
              by_cases e : t = a
              · subst e
                rw [hxa]
                exact c0
              · exact hp t ht (by omega)
            replace hnx := Lib.hid hnx
            replace hp := Lib.hid hp
            replace hB2 := Lib.hid hB2
            go_wp2
            go_roundw
            case rel => exact ⟨a + 1, by omega, by go_num, hnx.out, hB2.out⟩
            case measure => simp [intOf]; omega
          | false =>
            have hat : atK L key = a := atK_at ha hp fun h => by rw [hxa]; exact c0
            have hins0 : insK L key = if eqS xa key = true then L else L.take a ++ [key] ++ L.drop a := by
              unfold insK
              rw [hat, List.getElem?_eq_getElem hal, hxa]
            cases c1 : (xa.toList == key.toList) with
            | true =>
              have hins : Hid (insK L key = L) := Lib.hid (by rw [hins0, if_pos (show eqS xa key = true from c1)])
              have hBw := Lib.hid (below_then hB.out hB.out.size hB2)
              have hOw := Lib.hid (hO.out.below hB2)
              clear hins0 hp hB2
              go_wp2
              go_roundw
              case rel => exact ⟨j + 1, by omega, by go_num, by rw [hL1.out, hst.out, hins.out]; exact hOw.out, hBw.out⟩
              case measure => simp [intOf]; omega
            | false =>
              have hins : Hid (insK L key = L.take a ++ [key] ++ L.drop a) := Lib.hid (by rw [hins0, if_neg (by rw [show eqS xa key = false from c1]; decide)])
              clear hins0 hat
              have hlt' : (L.take a).length = a := by rw [List.length_take]; omega
              have hld' : (L.drop a).length = L.length - a := List.length_drop
              have hl9 : (L.take a ++ [key]).length = a + 1 := by rw [List.length_append, hlt']; rfl
              have hs9 : ((L.take a).length + 1) * 16 ≤ 140737488355328 := by omega
              have hR2 := Lib.hid (hR.out.below hB2)
              have hOw := Lib.hid (hO.out.below hB2)
              have hBw := Lib.hid (below_then hB.out hB.out.size hB2)
              have hone := Lib.hid (oneS key)
              have hsz := Lib.hid (show (L.take a).length + 1 + (L.drop a).length ≤ 2097152 by omega)
              have hsz0 := Lib.hid (show (L.take a).length ≤ 2097152 by omega)
              replace hlt' := Lib.hid hlt'
              replace hld' := Lib.hid hld'
              replace hl9 := Lib.hid hl9
              replace hs9 := Lib.hid hs9
              replace hp := Lib.hid hp
              have hlc1 : ¬ lc = a := by omega
              have hlc2 : a ≤ lc := by omega
              have hal2 : a ≤ L.length := by omega
              clear hB2
              go_wp2_with (first
                | (at_builtin; refine append_strs (W := wr) wr.heap.size rfl (.tmp 47) (.tmp 50) rfl [] (L.take a) 0 a rfl (by exact hlt'.out) (.slice none 0 0) (some la) lc (by simp [Act.eval]) (by simp [Act.eval]) (OwnRow.none_ _ _ _ _ _) (Nat.le_refl _) (by exact rowS_take hR2.out a) (by have := hsz0.out; simpa using this) ?_; intro A8 c8 W8 own8 bel8; rw [Nat.zero_add] at own8 ⊢; rw [List.nil_append] at own8; replace own8 := Lib.hid own8; replace bel8 := Lib.hid bel8)
                | (at_builtin; refine append_plain (P := Tryz.prog) (R := RS) (w0 := wr) (W := W8) wr.heap.size rfl (.tmp 52) (.tmp 54) tSl tS (.string ByteArray.empty) 1 16 rfl Tryz.underlying33 infoStr rfl (by decide) (by decide) (.slice A8 a c8) (L.take a) key [.string key] (by simp [Act.eval]) (by simp [Act.eval]) rfl rfl (by exact hone.out) (by exact own8.out) (by exact bel8.out) (by exact bel8.out.size) (by exact hs9.out) (a + 1) (by exact hl9.out) ?_; intro A9' c9' W9 own9 bel9 _gr9; have hR9 := Lib.hid (hR2.out.below bel9); replace own9 := Lib.hid own9; replace bel9 := Lib.hid bel9; clear _gr9)
                | (at_builtin; refine append_strs (W := W9) wr.heap.size rfl (.tmp 56) (.tmp 59) rfl (L.take a ++ [key]) (L.drop a) (a + 1) (L.length - a) (by exact hl9.out) (by exact hld'.out) (.slice A9' (a + 1) c9') (some (la.add a)) (lc - a) (by simp [Act.eval]) (by simp [Act.eval]) (by exact own9.out) (by exact bel9.out.size) (by exact rowS_drop hR9.out a) (by have := hsz.out; have := hl9.out; simp only [List.length_append, List.length_singleton] at *; omega) ?_; intro A10 c10 W10 own10 bel10; skip; replace own10 := Lib.hid own10; replace bel10 := Lib.hid bel10)
                | go_in)
              all_goals
                have h910 := Lib.hid (bel9.out.trans bel10.out)
                go_roundw
                case rel => exact ⟨j + 1, by omega, by go_num, by rw [hL1.out, hst.out, hins.out]; exact own10.out.lower hBw.out.size, below_then hBw.out hBw.out.size h910.out⟩
                case measure => simp [intOf]; omega
        · have hae : a = L.length := by omega
          have hat : atK L key = a := atK_at ha hp fun h => absurd h hal
          have hins : Hid (insK L key = L.take a ++ [key] ++ L.drop a) := Lib.hid (by
            unfold insK
            rw [hat, List.getElem?_eq_none (by omega)])
          have hlc : L.length ≤ lc := by
            obtain ⟨_, _, e, hle⟩ := hO.out.slice_
            cases e
            exact hle
          clear hat hp
          generalize hLn : L.length = n at *
          subst hae
          cases LA with
          | none =>
            obtain ⟨rfl, rfl⟩ : lc = 0 ∧ a = 0 := by
              obtain ⟨inner, ⟨hlen, hv⟩, _⟩ := hO.out
              rcases hv with ⟨e, h0⟩ | ⟨g, cap, cur, e, _⟩
              · cases e
                exact ⟨rfl, rfl⟩
              · cases e
            have hlt' : (L.take 0).length = 0 := by rw [List.length_take]; omega
            have hld' : (L.drop 0).length = L.length - 0 := List.length_drop
            have hl9 : (L.take 0 ++ [key]).length = 0 + 1 := by rw [List.length_append, hlt']; rfl
            have hs9 : ((L.take 0).length + 1) * 16 ≤ 140737488355328 := by omega
            have hR2 := Lib.hid (hR.out.below hB2)
            have hOw := Lib.hid (hO.out.below hB2)
            have hBw := Lib.hid (below_then hB.out hB.out.size hB2)
            have hone := Lib.hid (oneS key)
            have hsz := Lib.hid (show (L.take 0).length + 1 + (L.drop 0).length ≤ 2097152 by omega)
            have hsz0 := Lib.hid (show (L.take 0).length ≤ 2097152 by omega)
            replace hlt' := Lib.hid hlt'
            replace hld' := Lib.hid hld'
            replace hl9 := Lib.hid hl9
            replace hs9 := Lib.hid hs9
            have hdn : Hid (L.drop 0 = []) := Lib.hid (List.drop_eq_nil_of_le (by omega))
            have htn : Hid (L.take 0 = []) := Lib.hid (by rw [List.eq_nil_of_length_eq_zero (l := L) (by omega)]; rfl)
            clear hB2
            go_wp2_with (first
              | (at_builtin; refine append_strs (W := wr) wr.heap.size rfl (.tmp 47) (.tmp 50) rfl [] (L.take 0) 0 0 rfl (by exact hlt'.out) (.slice none 0 0) none 0 (by simp [Act.eval]) (by simp [Act.eval]) (OwnRow.none_ _ _ _ _ _) (Nat.le_refl _) (by exact rowS_nil htn.out) (by simp) ?_; intro A8 c8 W8 own8 bel8; rw [Nat.zero_add] at own8 ⊢; rw [List.nil_append] at own8; replace own8 := Lib.hid own8; replace bel8 := Lib.hid bel8)
              | (at_builtin; refine append_plain (P := Tryz.prog) (R := RS) (w0 := wr) (W := W8) wr.heap.size rfl (.tmp 52) (.tmp 54) tSl tS (.string ByteArray.empty) 1 16 rfl Tryz.underlying33 infoStr rfl (by decide) (by decide) (.slice A8 0 c8) (L.take 0) key [.string key] (by simp [Act.eval]) (by simp [Act.eval]) rfl rfl (by exact hone.out) (by exact own8.out) (by exact bel8.out) (by exact bel8.out.size) (by exact hs9.out) (0 + 1) (by exact hl9.out) ?_; intro A9' c9' W9 own9 bel9 _gr9; have hR9 := Lib.hid (hR2.out.below bel9); replace own9 := Lib.hid own9; replace bel9 := Lib.hid bel9; clear _gr9)
              | (at_builtin; refine append_strs (W := W9) wr.heap.size rfl (.tmp 56) (.tmp 59) rfl (L.take 0 ++ [key]) (L.drop 0) (0 + 1) 0 (by exact hl9.out) (by exact congrArg List.length hdn.out) (.slice A9' (0 + 1) c9') none 0 (by simp [Act.eval]) (by simp [Act.eval]) (by exact own9.out) (by exact bel9.out.size) (by exact rowS_nil hdn.out) (by have := hsz.out; have := hl9.out; simp only [List.length_append, List.length_singleton] at *; omega) ?_; intro A10 c10 W10 own10 bel10; rw [Nat.add_zero] at own10 ⊢; replace own10 := Lib.hid own10; replace bel10 := Lib.hid bel10)
              | go_in)
            all_goals
              have h910 := Lib.hid (bel9.out.trans bel10.out)
              go_roundw
              case rel => exact ⟨j + 1, by omega, by go_num, by rw [hL1.out, hst.out, hins.out]; exact own10.out.lower hBw.out.size, below_then hBw.out hBw.out.size h910.out⟩
              case measure => simp [intOf]; omega
          | some la =>
            by_cases hcm : lc = a
            · have hcm2 : a = lc := hcm.symm
              clear hcm
              subst hcm2
              have hlt' : (L.take a).length = a := by rw [List.length_take]; omega
              have hld' : (L.drop a).length = L.length - a := List.length_drop
              have hl9 : (L.take a ++ [key]).length = a + 1 := by rw [List.length_append, hlt']; rfl
              have hs9 : ((L.take a).length + 1) * 16 ≤ 140737488355328 := by omega
              have hR2 := Lib.hid (hR.out.below hB2)
              have hOw := Lib.hid (hO.out.below hB2)
              have hBw := Lib.hid (below_then hB.out hB.out.size hB2)
              have hone := Lib.hid (oneS key)
              have hsz := Lib.hid (show (L.take a).length + 1 + (L.drop a).length ≤ 2097152 by omega)
              have hsz0 := Lib.hid (show (L.take a).length ≤ 2097152 by omega)
              replace hlt' := Lib.hid hlt'
              replace hld' := Lib.hid hld'
              replace hl9 := Lib.hid hl9
              replace hs9 := Lib.hid hs9
              have hdn : Hid (L.drop a = []) := Lib.hid (List.drop_eq_nil_of_le (by omega))
              have hal2 : a ≤ L.length := by omega
              clear hB2
              go_wp2_with (first
                | (at_builtin; refine append_strs (W := wr) wr.heap.size rfl (.tmp 47) (.tmp 50) rfl [] (L.take a) 0 a rfl (by exact hlt'.out) (.slice none 0 0) (some la) a (by simp [Act.eval]) (by simp [Act.eval]) (OwnRow.none_ _ _ _ _ _) (Nat.le_refl _) (by exact rowS_take hR2.out a) (by have := hsz0.out; simpa using this) ?_; intro A8 c8 W8 own8 bel8; rw [Nat.zero_add] at own8 ⊢; rw [List.nil_append] at own8; replace own8 := Lib.hid own8; replace bel8 := Lib.hid bel8)
                | (at_builtin; refine append_plain (P := Tryz.prog) (R := RS) (w0 := wr) (W := W8) wr.heap.size rfl (.tmp 52) (.tmp 54) tSl tS (.string ByteArray.empty) 1 16 rfl Tryz.underlying33 infoStr rfl (by decide) (by decide) (.slice A8 a c8) (L.take a) key [.string key] (by simp [Act.eval]) (by simp [Act.eval]) rfl rfl (by exact hone.out) (by exact own8.out) (by exact bel8.out) (by exact bel8.out.size) (by exact hs9.out) (a + 1) (by exact hl9.out) ?_; intro A9' c9' W9 own9 bel9 _gr9; have hR9 := Lib.hid (hR2.out.below bel9); replace own9 := Lib.hid own9; replace bel9 := Lib.hid bel9; clear _gr9)
                | (at_builtin; refine append_strs (W := W9) wr.heap.size rfl (.tmp 56) (.tmp 59) rfl (L.take a ++ [key]) (L.drop a) (a + 1) 0 (by exact hl9.out) (by exact congrArg List.length hdn.out) (.slice A9' (a + 1) c9') (some la) 0 (by simp [Act.eval]) (by simp [Act.eval]) (by exact own9.out) (by exact bel9.out.size) (by exact rowS_nil hdn.out) (by have := hsz.out; have := hl9.out; simp only [List.length_append, List.length_singleton] at *; omega) ?_; intro A10 c10 W10 own10 bel10; rw [Nat.add_zero] at own10 ⊢; replace own10 := Lib.hid own10; replace bel10 := Lib.hid bel10)
                | go_in)
              all_goals
                have h910 := Lib.hid (bel9.out.trans bel10.out)
                go_roundw
                case rel => exact ⟨j + 1, by omega, by go_num, by rw [hL1.out, hst.out, hins.out]; exact own10.out.lower hBw.out.size, below_then hBw.out hBw.out.size h910.out⟩
                case measure => simp [intOf]; omega
            · skip
              have hlt' : (L.take a).length = a := by rw [List.length_take]; omega
              have hld' : (L.drop a).length = L.length - a := List.length_drop
              have hl9 : (L.take a ++ [key]).length = a + 1 := by rw [List.length_append, hlt']; rfl
              have hs9 : ((L.take a).length + 1) * 16 ≤ 140737488355328 := by omega
              have hR2 := Lib.hid (hR.out.below hB2)
              have hOw := Lib.hid (hO.out.below hB2)
              have hBw := Lib.hid (below_then hB.out hB.out.size hB2)
              have hone := Lib.hid (oneS key)
              have hsz := Lib.hid (show (L.take a).length + 1 + (L.drop a).length ≤ 2097152 by omega)
              have hsz0 := Lib.hid (show (L.take a).length ≤ 2097152 by omega)
              replace hlt' := Lib.hid hlt'
              replace hld' := Lib.hid hld'
              replace hl9 := Lib.hid hl9
              replace hs9 := Lib.hid hs9
              have hdn : Hid (L.drop a = []) := Lib.hid (List.drop_eq_nil_of_le (by omega))
              have hlc1 : ¬ lc = a := by omega
              have hlc2 : a ≤ lc := by omega
              have hal2 : a ≤ L.length := by omega
              clear hB2
              go_wp2_with (first
                | (at_builtin; refine append_strs (W := wr) wr.heap.size rfl (.tmp 47) (.tmp 50) rfl [] (L.take a) 0 a rfl (by exact hlt'.out) (.slice none 0 0) (some la) lc (by simp [Act.eval]) (by simp [Act.eval]) (OwnRow.none_ _ _ _ _ _) (Nat.le_refl _) (by exact rowS_take hR2.out a) (by have := hsz0.out; simpa using this) ?_; intro A8 c8 W8 own8 bel8; rw [Nat.zero_add] at own8 ⊢; rw [List.nil_append] at own8; replace own8 := Lib.hid own8; replace bel8 := Lib.hid bel8)
                | (at_builtin; refine append_plain (P := Tryz.prog) (R := RS) (w0 := wr) (W := W8) wr.heap.size rfl (.tmp 52) (.tmp 54) tSl tS (.string ByteArray.empty) 1 16 rfl Tryz.underlying33 infoStr rfl (by decide) (by decide) (.slice A8 a c8) (L.take a) key [.string key] (by simp [Act.eval]) (by simp [Act.eval]) rfl rfl (by exact hone.out) (by exact own8.out) (by exact bel8.out) (by exact bel8.out.size) (by exact hs9.out) (a + 1) (by exact hl9.out) ?_; intro A9' c9' W9 own9 bel9 _gr9; have hR9 := Lib.hid (hR2.out.below bel9); replace own9 := Lib.hid own9; replace bel9 := Lib.hid bel9; clear _gr9)
                | (at_builtin; refine append_strs (W := W9) wr.heap.size rfl (.tmp 56) (.tmp 59) rfl (L.take a ++ [key]) (L.drop a) (a + 1) 0 (by exact hl9.out) (by exact congrArg List.length hdn.out) (.slice A9' (a + 1) c9') (some (la.add a)) (lc - a) (by simp [Act.eval]) (by simp [Act.eval]) (by exact own9.out) (by exact bel9.out.size) (by exact rowS_nil hdn.out) (by have := hsz.out; have := hl9.out; simp only [List.length_append, List.length_singleton] at *; omega) ?_; intro A10 c10 W10 own10 bel10; rw [Nat.add_zero] at own10 ⊢; replace own10 := Lib.hid own10; replace bel10 := Lib.hid bel10)
                | go_in)
              all_goals
                have h910 := Lib.hid (bel9.out.trans bel10.out)
                go_roundw
                case rel => exact ⟨j + 1, by omega, by go_num, by rw [hL1.out, hst.out, hins.out]; exact own10.out.lower hBw.out.size, below_then hBw.out hBw.out.size h910.out⟩
                case measure => simp [intOf]; omega
    · obtain rfl : j = ps.length := by omega
      obtain ⟨LA, lc, rfl⟩ := slice_of hO hnl.out
      have hO2 := Lib.hid (hO.lower hbe.out.size)
      have hB2 := Lib.hid (below_then hbe.out hbe.out.size hB)
      clear hO hB
      go_wp2
      go_ret
      exact ⟨LA, lc, rfl, hO2.out, hB2.out⟩
end Go.Proofs.YtiibjgnmdieicaaGreat.Hist
/- the document's judge: forged, walked. -/
namespace Go.Proofs.YtiibjgnmdieicaaGreat.Hist
open Go.RowKit Go.Proofs.YtiibjgnmdieicaaGreatW.PrintWords Go.Sort
def prB (v : Ver) (p : Pai) : Bool := eqS p.f0 v.f0 && eqS p.f1 v.f2
/-- is a told version none of a write's? -/
def ForgP (l : List Evt) (i : Nat) (v : Ver) : Prop := v.f1 ≠ 0 ∧ ∀ w (hw : w < l.length), w < i → wrB v.f1 l[w] = true → (∀ t (ht : t < l.length), t < w → wrB v.f1 l[t] = false) → ¬ (l[w].f4.any (prB v) = true ∧ eqL (keysN l[w].f4 l[w].f4.length) v.f3 = true)
theorem eqLno {a b : List ByteArray} {j : Nat} (h1 : j < a.length) (h2 : j < b.length) (h : (a[j].toList == b[j].toList) = false) : eqL a b = false := by
  unfold eqL
  rw [Bool.and_eq_false_iff]
  refine .inr ?_
  rw [← Bool.not_eq_true, List.all_eq_true]
  intro g
  have := g (a[j], b[j]) (by
    have hz : j < (a.zip b).length := by rw [List.length_zip]; omega
    have := List.getElem_mem hz
    rw [List.getElem_zip] at this
    exact this)
  unfold eqS at this
  rw [h] at this
  cases this
theorem eqLyes {a b : List ByteArray} (hl : a.length = b.length) (h : ∀ t, (h1 : t < a.length) → (h2 : t < b.length) → (a[t].toList == b[t].toList) = true) : eqL a b = true := by
  unfold eqL
  rw [Bool.and_eq_true]
  refine ⟨by rw [beq_iff_eq]; exact hl, List.all_eq_true.2 fun p hp => ?_⟩
  obtain ⟨t, ht, rfl⟩ := List.getElem_of_mem hp
  rw [List.length_zip] at ht
  rw [List.getElem_zip]
  exact h t (by omega) (by omega)
theorem eqLlen {a b : List ByteArray} (h : ((a.length : Int) != (b.length : Int)) = true) : eqL a b = false := by
  unfold eqL
  rw [Bool.and_eq_false_iff]
  refine .inl ?_
  rw [beq_eq_false_iff_ne]
  rw [bne_iff_ne] at h
  omega
def RelPr (w : World) (ps : List Pai) (v : Ver) (s8 s9 : Value) (wr : World) : Prop := ∃ k : Nat, k ≤ ps.length ∧ s9 = .int .i64 k ∧ s8 = .bool ((ps.take k).any (prB v)) ∧ Below w.heap.size w wr
def RelEq (w : World) (a b : List ByteArray) (s : Value) (wr : World) : Prop := ∃ k : Nat, k ≤ a.length ∧ s = .int .i64 k ∧ (∀ t, (h1 : t < a.length) → (h2 : t < b.length) → t < k → (a[t].toList == b[t].toList) = true) ∧ Below w.heap.size w wr
set_option maxHeartbeats 32000000 in
set_option maxRecDepth 100000 in
theorem rforged_any (A : Option Addr) (c : Nat) (l : List Evt) (i : Nat) (hi : i ≤ l.length) (hps : ∀ j (hj : j < l.length), l[j].f4.length ≤ 1048576) (v : Ver) (VA : Option Addr) (vc : Nat) (w : World) (hC : kEvt.C w A l.length l) (hVK : Kd.C Kd.string w VA v.f3.length v.f3) (r : Bool) (hr : r = true ↔ ForgP l i v) :
    Calls Tryz.prog 47 #[.slice A l.length c, .int .i64 i, .agg #[.string v.f0, .int .u64 v.f1, .string v.f2, .slice VA v.f3.length vc]] w fun e w' => e = .returned (.bool r) ∧ Below w.heap.size w w' := by
  have hm : l.length ≤ 9223372036854775807 := hC.2.1
  have hmv : v.f3.length ≤ 9223372036854775807 := hVK.2.1
  obtain ⟨w2, hw2⟩ : ∃ w2, w2 = w.alloc (.cells #[.string v.f0, .int .u64 v.f1, .string v.f2, .slice VA v.f3.length vc] 49) := ⟨_, rfl⟩
  have hbe : Below w.heap.size w w2 := by rw [hw2]; exact below_alloc (Below.refl _ _) _
  have hX : w2.heap[w.heap.size]? = some (.cells #[.string v.f0, .int .u64 v.f1, .string v.f2, .slice VA v.f3.length vc] 49 (0, 0)) := by
    rw [hw2]
    exact heap_alloc_new w _
  have hca := rwrite24_any A c l i hi v.f1 w2 (Kd.C_below hC hbe)
  rw [hw2] at hca
  by_cases h0 : v.f1 = 0
  · have c0 : (v.f1 == 0) = true := beq_iff_eq.2 h0
    obtain rfl : r = false := by
      rw [← Bool.not_eq_true, hr]
      exact fun h => h.1 h0
    replace h0 := Lib.hid h0
    replace hX := Lib.hid hX
    rw [hw2] at hbe
    replace hbe := Lib.hid hbe
    clear hr hca hC hVK hw2
    go_enter Tryz.func47, Tryz.ntmps47
    go_wp2
    go_ret
    exact ⟨rfl, hbe.out⟩
  · have c0 : (v.f1 == 0) = false := beq_eq_false_iff_ne.2 h0
    rcases fidx_spec (wrB v.f1) (l.take i) with ⟨e, hn⟩ | ⟨j, hj, e, hp, hb⟩
    · obtain rfl : r = true := hr.2 ⟨h0, fun u hu hui h1 _ => by
        have := hn u (by rw [List.length_take]; omega)
        rw [List.getElem_take, h1] at this
        cases this⟩
      rw [e] at hca
      replace hca := Lib.hid hca
      replace e := Lib.hid e
      replace h0 := Lib.hid h0
      replace hX := Lib.hid hX
      rw [hw2] at hbe
      replace hbe := Lib.hid hbe
      clear hr hC hVK hw2 hn
      go_enter Tryz.func47, Tryz.ntmps47
      go_wp2_with (first | (go_at_call 69; refine hca.out.mono ?_; rintro e W3 ⟨rfl, hb3⟩; have hB3 := Lib.hid (below_then hbe.out hbe.out.size hb3); clear hb3) | go_in)
      go_ret
      exact ⟨rfl, hB3.out⟩
    · rw [List.length_take] at hj
      have hjl : j < l.length := by omega
      rw [List.getElem_take] at hp
      have hb2 : ∀ t (ht : t < l.length), t < j → wrB v.f1 l[t] = false := fun t ht htj => by
        have := hb t (by rw [List.length_take]; omega) htj
        rw [List.getElem_take] at this
        exact this
      have hr2 : r = true ↔ ¬ (l[j].f4.any (prB v) = true ∧ eqL (keysN l[j].f4 l[j].f4.length) v.f3 = true) := by
        rw [hr]
        constructor
        · exact fun h => h.2 j hjl (by omega) hp hb2
        · refine fun h => ⟨h0, fun u hu _ h1 h2 => ?_⟩
          obtain rfl := first_one hjl hu hp hb2 h1 h2
          exact h
      have hsm := hps j hjl
      rw [e] at hca
      obtain ⟨ad, B4, b4, B5, b5, B9, b9, rfl, g0, g1, g2, g3, g4, g5, g6, g7, g8, g9, hK, hl9, hk9⟩ := evt_at hC hjl
      have hk4 := (evt_open hK).2.1
      clear hK hl9 hk9 hr hb hb2 hp hC
      have hc0 : decide ((j : Int) < 0) = false := decide_eq_false (by omega)
      have hcs := Lib.hid fun (W : World) (hb : Below w.heap.size w W) => And.intro (pw_cell_below hb g0) (And.intro (pw_cell_below hb g1) (And.intro (pw_cell_below hb g2) (And.intro (pw_cell_below hb g3) (And.intro (pw_cell_below hb g4) (And.intro (pw_cell_below hb g5) (And.intro (pw_cell_below hb g6) (And.intro (pw_cell_below hb g7) (And.intro (pw_cell_below hb g8) (pw_cell_below hb g9)))))))))
      have hkk := Lib.hid fun (W : World) (hb : Below w.heap.size w W) => And.intro (Kd.C_below hk4 hb) (Kd.C_below hVK hb)
      have hky := Lib.hid fun W (hb : Below w.heap.size w W) => rkeys_any l[j] B4 b4 B5 b5 B9 b9 hsm W (Kd.C_below hk4 hb)
      clear g0 g1 g2 g3 g4 g5 g6 g7 g8 g9 hk4 hVK
      generalize l[j] = y at *
      generalize hKN : keysN y.f4 y.f4.length = ks at *
      replace hKN := Lib.hid hKN
      have hXw := hX
      replace hX := Lib.hid hX
      have hbe2 := hbe
      rw [hw2] at hbe2
      replace hbe2 := Lib.hid hbe2
      have hX2 := hXw
      rw [hw2] at hX2
      replace hX2 := Lib.hid hX2
      clear hXw hX hbe hw2
      replace hca := Lib.hid hca
      replace e := Lib.hid e
      replace h0 := Lib.hid h0
      replace hr2 := Lib.hid hr2
      go_enter Tryz.func47, Tryz.ntmps47
      go_wp2_with (first | (go_at_call 69; refine hca.out.mono ?_; rintro e W3 ⟨rfl, hb3⟩; have hB3 := Lib.hid (below_then hbe2.out hbe2.out.size hb3); have hX3 := Lib.hid (blk_below hX2.out hb3); clear hb3) | go_in)
      go_loopw [8, 9] (fun s8 s9 wr => RelPr W3 y.f4 v s8 s9 wr) (fun _ s9 _ => y.f4.length - (intOf s9).toNat)
      case atStart => exact ⟨0, Nat.zero_le _, rfl, rfl, Below.refl _ _⟩
      case round =>
        obtain ⟨k, hk, rfl, rfl, hB⟩ := hrel
        have hBw := below_then hB3.out hB3.out.size hB
        obtain ⟨g0, g1, g2, g3, g4, g5, g6, g7, g8, g9⟩ := hcs.out wr hBw
        have hX4 := blk_below hX3.out hB
        have e0 := blk_cell hX4 0
        have e2 := blk_cell hX4 2
        have e3 := blk_cell hX4 3
        have el := blk_lt hX4
        simp only [List.getElem?_toArray, List.getElem?_cons_zero, List.getElem?_cons_succ] at e0 e2 e3
        by_cases hkl : k < y.f4.length
        · clear g0 g1 g2 g3 g5 g6 g7 g8 g9 e3
          obtain ⟨pa, rfl, p0, p1⟩ := pair_at (hkk.out wr hBw).1 hkl
          have a4 : IntKind.i64.wrap ((k : Int) + 1) = (k : Int) + 1 := IntWalk.i64_in _ (by omega)
          have hst := any_take (p := prB v) hkl
          unfold prB eqS at hst
          generalize hb0 : ((y.f4.take k).any (prB v)) = b0 at *
          have hst2 : ((y.f4.take (k + 1)).any (prB v)) = (b0 || (y.f4[k].f0.toList == v.f0.toList && y.f4[k].f1.toList == v.f2.toList)) := by
            have := any_take (p := prB v) hkl
            rw [hb0] at this
            exact this
          clear hst
          generalize hb1 : ((y.f4.take (k + 1)).any (prB v)) = b1 at *
          generalize y.f4[k] = p at *
          replace hb0 := Lib.hid hb0
          replace hb1 := Lib.hid hb1
          replace hB := Lib.hid hB
          replace hX4 := Lib.hid hX4
          replace hBw := Lib.hid hBw
          cases b0 with
          | true =>
            rw [Bool.true_or] at hst2
            replace hst2 := Lib.hid hst2
            go_wp2
            go_quiet (fail)
            go_wp2
            go_roundw
            case rel => exact ⟨k + 1, by omega, by go_num, by rw [hb1.out, hst2.out], below_then hB.out hB.out.size (pw_below_drewN (Below.refl _ _) _)⟩
            case measure => simp [intOf]; omega
          | false =>
            rw [Bool.false_or] at hst2
            cases c3 : (p.f0.toList == v.f0.toList) with
            | false =>
              rw [c3, Bool.false_and] at hst2
              replace hst2 := Lib.hid hst2
              go_wp2
              go_quiet (fail)
              go_wp2
              go_roundw
              case rel => exact ⟨k + 1, by omega, by go_num, by rw [hb1.out, hst2.out], below_then hB.out hB.out.size (pw_below_drewN (Below.refl _ _) _)⟩
              case measure => simp [intOf]; omega
            | true =>
              rw [c3, Bool.true_and] at hst2
              replace hst2 := Lib.hid hst2
              go_wp2
              go_quiet (fail)
              go_wp2
              go_roundw
              case rel => exact ⟨k + 1, by omega, by go_num, by rw [hb1.out, hst2.out], below_then hB.out hB.out.size (pw_below_drewN (Below.refl _ _) _)⟩
              case measure => simp [intOf]; omega
        · obtain rfl : k = y.f4.length := by omega
          rw [List.take_of_length_le (Nat.le_refl _)]
          have hr3 := hr2.out
          generalize y.f4.any (prB v) = pb at *
          have hcb := hky.out wr hBw
          try rw [hKN.out] at hcb
          have hBs := Lib.hid fun (W : World) (hb : Below wr.heap.size wr W) => below_then hBw hBw.size hb
          have hXs := Lib.hid fun (W : World) (hb : Below wr.heap.size wr W) => blk_below hX4 hb
          replace hcb := Lib.hid hcb
          clear hB hBw hX4 e0 e2 hr2
          cases pb with
          | false =>
            obtain rfl : r = true := hr3.2 fun h => by cases h.1
            clear hr3
            go_wp2_with (first | (go_at_call 70; refine hcb.out.mono ?_; rintro e W5 ⟨KA, kc, rfl, hrow, hb5⟩; have hB5 := Lib.hid (hBs.out _ hb5); clear hrow hb5) | go_in)
            go_ret
            exact ⟨rfl, hB5.out⟩
          | true =>
            have hr4 : r = true ↔ eqL ks v.f3 = false := by
              rw [hr3]
              simp
            clear hr3
            cases c8 : ((ks.length : Int) != (v.f3.length : Int)) with
            | true =>
              obtain rfl : r = true := hr4.2 (eqLlen c8)
              clear hr4
              go_wp2_with (first | (go_at_call 70; refine hcb.out.mono ?_; rintro e W5 ⟨KA, kc, rfl, hrow, hb5⟩; have hB5 := Lib.hid (hBs.out _ hb5); have e3 := blk_cell (hXs.out _ hb5) 3; simp only [List.getElem?_toArray, List.getElem?_cons_zero, List.getElem?_cons_succ] at e3; have el5 := blk_lt (hXs.out _ hb5); clear hrow hb5) | go_in)
              go_ret
              exact ⟨rfl, hB5.out⟩
            | false =>
              have hll : ks.length = v.f3.length := by
                rw [bne_eq_false_iff_eq] at c8
                omega
              have hyn : ∀ t (h1 : t < ks.length) (h2 : t < v.f3.length), (ks[t].toList == v.f3[t].toList) = false → r = true := fun t h1 h2 h => hr4.2 (eqLno h1 h2 h)
              have hyy : (∀ t, (h1 : t < ks.length) → (h2 : t < v.f3.length) → (ks[t].toList == v.f3[t].toList) = true) → r = false := fun h => by
                rw [← Bool.not_eq_true, hr4, eqLyes hll h]
                decide
              clear hr4
              replace hyn := Lib.hid hyn
              replace hyy := Lib.hid hyy
              replace hll := Lib.hid hll
              go_wp2_with (first | (go_at_call 70; refine hcb.out.mono ?_; rintro e W5 ⟨KA, kc, rfl, hrow, hb5⟩; have hB5 := Lib.hid (hBs.out _ hb5); have hX5 := Lib.hid (hXs.out _ hb5); have e3 := blk_cell (hXs.out _ hb5) 3; simp only [List.getElem?_toArray, List.getElem?_cons_zero, List.getElem?_cons_succ] at e3; have el5 := blk_lt (hXs.out _ hb5); have hR5 := Lib.hid (RowC.own hrow).1; clear hrow hb5) | go_in)
              clear e3 hcb hXs hBs
              generalize v.f3 = vk at *
              go_loopw [11] (fun s wr => RelEq W5 ks vk s wr) (fun s _ => ks.length - (intOf s).toNat)
              case atStart => exact ⟨0, Nat.zero_le _, rfl, (fun t _ _ h => absurd h (Nat.not_lt_zero t)), Below.refl _ _⟩
              case round =>
                obtain ⟨m, hmk, rfl, hp, hB6⟩ := hrel
                have hBw6 := below_then hB5.out hB5.out.size hB6
                have hX6 := blk_below hX5.out hB6
                have e3 := blk_cell hX6 3
                have el := blk_lt hX6
                simp only [List.getElem?_toArray, List.getElem?_cons_zero, List.getElem?_cons_succ] at e3
                clear hX6
                have hmk2 : ks.length ≤ 9223372036854775807 := by have := hll.out; omega
                by_cases hmm : m < ks.length
                · have hmv2 : m < vk.length := by have := hll.out; omega
                  obtain ⟨ka, rfl, z0⟩ := str_at (hR5.out.below hB6) hmm
                  obtain ⟨va, rfl, z1⟩ := text_at (hkk.out _ hBw6).2 hmv2
                  have a5 : IntKind.i64.wrap ((m : Int) + 1) = (m : Int) + 1 := IntWalk.i64_in _ (by omega)
                  have hnx : (ks[m].toList == vk[m].toList) = true → ∀ t, (h1 : t < ks.length) → (h2 : t < vk.length) → t < m + 1 → (ks[t].toList == vk[t].toList) = true := fun h t h1 h2 h3 => by
                    by_cases e : t = m
                    · subst e; exact h
                    · exact hp t h1 h2 (by omega)
                  have hyn2 := hyn.out m hmm hmv2
                  generalize ks[m] = s1 at *
                  generalize vk[m] = s2 at *
                  replace hp := Lib.hid hp
                  replace hnx := Lib.hid hnx
                  replace hyn2 := Lib.hid hyn2
                  replace hB6 := Lib.hid hB6
                  replace hBw6 := Lib.hid hBw6
                  cases c9 : (s1.toList == s2.toList) with
                  | false =>
                    obtain rfl := hyn2.out c9
                    go_wp2
                    go_quiet (fail)
                    go_wp2
                    go_ret
                    exact ⟨rfl, below_then hBw6.out hBw6.out.size (pw_below_drewN (Below.refl _ _) _)⟩
                  | true =>
                    have hnx2 := Lib.hid (hnx.out c9)
                    go_wp2
                    go_quiet (fail)
                    go_wp2
                    go_roundw
                    case rel => exact ⟨m + 1, by omega, by go_num, hnx2.out, below_then hB6.out hB6.out.size (pw_below_drewN (Below.refl _ _) _)⟩
                    case measure => simp [intOf]; omega
                · obtain rfl := hyy.out (fun t h1 h2 => hp t h1 h2 (by omega))
                  replace hBw6 := Lib.hid hBw6
                  clear hp hB6
                  go_wp2
                  go_ret
                  exact ⟨rfl, hBw6.out⟩
end Go.Proofs.YtiibjgnmdieicaaGreat.Hist
