/- Plain words for IdentGives: two pairs of sources behind two arrays of pointers, and how a call keeps them. -/
import Derived.Test.YtepppnpmcllenaaSource
import Derived.Laws.BitsAllLaws
import Derived.Laws.BitsLemmas
namespace Go.Proofs.Ytepppnpmcllenaa.identGives
open Go.RowKit

structure S where
  gs : Nat
  gr : Nat
  c : Int
  n : Int
  l : Int
def sv : Option S → Value
  | none => .pointer none
  | some s => .pointer (some ⟨s.gs, 0, none⟩)
def rv : Option S → Value
  | none => .pointer none
  | some s => .pointer (some ⟨s.gr, 0, none⟩)
/-- a pair of sources that stand alike -/
def Ok (B : Nat) (W : World) (o : Option S) : Prop := ∀ s, o = some s → Src W s.gs s.c s.n s.l ∧ RSrc W s.gr s.c s.n s.l ∧ 0 ≤ s.c ∧ s.c ≤ 65535 ∧ 1 ≤ s.n ∧ s.n ≤ 281474976710656 ∧ B ≤ s.gs ∧ B ≤ s.gr
def Far (x y : Option S) : Prop := ∀ s t, x = some s → y = some t → s.gs ≠ t.gs ∧ s.gr ≠ t.gr
structure Two (w : World) (bS bR : Nat) (x y : Option S) (W : World) : Prop where
  s : Blk W bS 28 #[sv x, sv y]
  r : Blk W bR 30 #[rv x, rv y]
  ox : Ok w.heap.size W x
  oy : Ok w.heap.size W y
  far : Far x y
  below : Below w.heap.size w W
  bs : w.heap.size ≤ bS
  br : w.heap.size ≤ bR

theorem ok_none {B : Nat} {W : World} : Ok B W none := fun _ e => by cases e
theorem far_left {y : Option S} : Far none y := fun _ _ e => by cases e
theorem far_right {x : Option S} : Far x none := fun _ _ _ e => by cases e
theorem Ok.grown {B : Nat} {W W' : World} {o : Option S} {row : Option Nat} (h : Ok B W o) (hg : W.grownBy W' row) (hr : ∀ s, o = some s → some s.gs ≠ row ∧ some s.gr ≠ row) : Ok B W' o := fun s e => by
  obtain ⟨h1, h2, h3⟩ := h s e
  obtain ⟨r1, r2⟩ := hr s e
  exact ⟨Blk.grown h1 hg r1, Blk.grown h2 hg r2, h3⟩
theorem Ok.far {B : Nat} {W : World} {o : Option S} (h : Ok B W o) {b : Nat} {t : TypeId} {cs : Array Value} (hb : Blk W b t cs) (h1 : t ≠ 56) (h2 : t ≠ 58) (i : Nat) (u : Value) : Ok B (W.setCell ⟨b, i, none⟩ u) o := fun s e => by
  obtain ⟨k1, k2, k3⟩ := h s e
  exact ⟨Blk.far k1 (p := ⟨b, i, none⟩) (Blk.ne_ k1 hb h1.symm) u, Blk.far k2 (p := ⟨b, i, none⟩) (Blk.ne_ k2 hb h2.symm) u, k3⟩
theorem Two.drewN {w W : World} {bS bR : Nat} {x y : Option S} (h : Two w bS bR x y W) (n : Nat) : Two w bS bR x y (W.drewN n) :=
  ⟨h.s.drewN n, h.r.drewN n, h.ox.grown (row := none) (only_drewN (World.grownBy.refl W _) n) (fun _ _ => ⟨by simp, by simp⟩), h.oy.grown (row := none) (only_drewN (World.grownBy.refl W _) n) (fun _ _ => ⟨by simp, by simp⟩), h.far, below_drewN h.below n, h.bs, h.br⟩
theorem Two.more {w W W' : World} {bS bR : Nat} {x y : Option S} (h : Two w bS bR x y W) (hg : W.grownBy W' none) : Two w bS bR x y W' :=
  ⟨h.s.grown hg (by simp), h.r.grown hg (by simp), h.ox.grown hg (fun _ _ => ⟨by simp, by simp⟩), h.oy.grown hg (fun _ _ => ⟨by simp, by simp⟩), h.far, h.below.grown hg h.below.size (fun _ e => by cases e), h.bs, h.br⟩
theorem Two.set0 {w W : World} {bS bR : Nat} {x y o : Option S} (h : Two w bS bR x y W) (ho : Ok w.heap.size W o) (hf : Far o y) : Two w bS bR o y ((W.setCell ⟨bS, 0, none⟩ (sv o)).setCell ⟨bR, 0, none⟩ (rv o)) := by
  have hne : bS ≠ bR := Blk.ne_ h.s h.r (by decide)
  have r1 : Blk (W.setCell ⟨bS, 0, none⟩ (sv o)) bR 30 #[rv x, rv y] := h.r.far (p := ⟨bS, 0, none⟩) hne.symm _
  refine ⟨?_, ?_, (ho.far h.s (by decide) (by decide) 0 _).far r1 (by decide) (by decide) 0 _, (h.oy.far h.s (by decide) (by decide) 0 _).far r1 (by decide) (by decide) 0 _, hf, (h.below.setCell (p := ⟨bS, 0, none⟩) h.bs _).setCell (p := ⟨bR, 0, none⟩) h.br _, h.bs, h.br⟩
  · simpa using (h.s.set_ 0 (sv o)).far (p := ⟨bR, 0, none⟩) hne (rv o)
  · simpa using r1.set_ 0 (rv o)
theorem Two.set1 {w W : World} {bS bR : Nat} {x y o : Option S} (h : Two w bS bR x y W) (ho : Ok w.heap.size W o) (hf : Far x o) : Two w bS bR x o ((W.setCell ⟨bS, 1, none⟩ (sv o)).setCell ⟨bR, 1, none⟩ (rv o)) := by
  have hne : bS ≠ bR := Blk.ne_ h.s h.r (by decide)
  have r1 : Blk (W.setCell ⟨bS, 1, none⟩ (sv o)) bR 30 #[rv x, rv y] := h.r.far (p := ⟨bS, 1, none⟩) hne.symm _
  refine ⟨?_, ?_, (h.ox.far h.s (by decide) (by decide) 1 _).far r1 (by decide) (by decide) 1 _, (ho.far h.s (by decide) (by decide) 1 _).far r1 (by decide) (by decide) 1 _, hf, (h.below.setCell (p := ⟨bS, 1, none⟩) h.bs _).setCell (p := ⟨bR, 1, none⟩) h.br _, h.bs, h.br⟩
  · simpa using (h.s.set_ 1 (sv o)).far (p := ⟨bR, 1, none⟩) hne (rv o)
  · simpa using r1.set_ 1 (rv o)
/-- what came of the n-th turn -/
def S.turn (s : S) (n l : Int) : S := { s with n := n, l := l }
theorem ok_turn {B : Nat} {W W1 W2 : World} {s : S} {n l : Int} (h : Ok B W (some s)) (t1 : Turned W s.gs 56 s.c n l W1) (t2 : Turned W1 s.gr 58 s.c n l W2) (hn : 1 ≤ n) (hn' : n ≤ 281474976710656) : Ok B W2 (some (s.turn n l)) := by
  rintro t e
  obtain rfl : s.turn n l = t := by injection e
  obtain ⟨k1, k2, k3, k4, _, _, k5, k6⟩ := h s rfl
  have hne : s.gs ≠ s.gr := Blk.ne_ k1 k2 (by decide)
  exact ⟨t1.1.grown t2.2.1 (fun e => hne (by injection e)), t2.1, k3, k4, hn, hn', k5, k6⟩
theorem Two.turn0 {w W W1 W2 : World} {bS bR : Nat} {s : S} {y : Option S} {n l : Int} (h : Two w bS bR (some s) y W) (t1 : Turned W s.gs 56 s.c n l W1) (t2 : Turned W1 s.gr 58 s.c n l W2) (hn : 1 ≤ n) (hn' : n ≤ 281474976710656) : Two w bS bR (some (s.turn n l)) y W2 := by
  obtain ⟨k1, k2, _, _, _, _, k5, k6⟩ := h.ox s rfl
  have n1 : bS ≠ s.gs := Blk.ne_ h.s k1 (by decide)
  have n2 : bR ≠ s.gs := Blk.ne_ h.r k1 (by decide)
  have n3 : bS ≠ s.gr := Blk.ne_ h.s k2 (by decide)
  have n4 : bR ≠ s.gr := Blk.ne_ h.r k2 (by decide)
  refine ⟨(h.s.grown t1.2.1 (fun e => n1 (by injection e))).grown t2.2.1 (fun e => n3 (by injection e)), (h.r.grown t1.2.1 (fun e => n2 (by injection e))).grown t2.2.1 (fun e => n4 (by injection e)), ok_turn h.ox t1 t2 hn hn', ?_, fun a b e f => ?_, ?_, h.bs, h.br⟩
  · refine (h.oy.grown t1.2.1 fun t e => ?_).grown t2.2.1 fun t e => ?_
    · have hf := (h.far s t rfl e).1
      have hr := Blk.ne_ (h.oy t e).2.1 k1 (by decide)
      exact ⟨fun e => hf (by injection e with e; exact e.symm), fun e => hr (by injection e)⟩
    · have hf := (h.far s t rfl e).2
      have hr := Blk.ne_ (h.oy t e).1 k2 (by decide)
      exact ⟨fun e => hr (by injection e), fun e => hf (by injection e with e; exact e.symm)⟩
  · obtain rfl : s.turn n l = a := by injection e
    exact h.far s b rfl f
  · have h1 := only_below h.below t1.2.1 h.below.size k5
    exact only_below h1 t2.2.1 h1.size k6
theorem Two.turn1 {w W W1 W2 : World} {bS bR : Nat} {s : S} {x : Option S} {n l : Int} (h : Two w bS bR x (some s) W) (t1 : Turned W s.gs 56 s.c n l W1) (t2 : Turned W1 s.gr 58 s.c n l W2) (hn : 1 ≤ n) (hn' : n ≤ 281474976710656) : Two w bS bR x (some (s.turn n l)) W2 := by
  obtain ⟨k1, k2, _, _, _, _, k5, k6⟩ := h.oy s rfl
  have n1 : bS ≠ s.gs := Blk.ne_ h.s k1 (by decide)
  have n2 : bR ≠ s.gs := Blk.ne_ h.r k1 (by decide)
  have n3 : bS ≠ s.gr := Blk.ne_ h.s k2 (by decide)
  have n4 : bR ≠ s.gr := Blk.ne_ h.r k2 (by decide)
  refine ⟨(h.s.grown t1.2.1 (fun e => n1 (by injection e))).grown t2.2.1 (fun e => n3 (by injection e)), (h.r.grown t1.2.1 (fun e => n2 (by injection e))).grown t2.2.1 (fun e => n4 (by injection e)), ?_, ok_turn h.oy t1 t2 hn hn', fun a b e f => ?_, ?_, h.bs, h.br⟩
  · refine (h.ox.grown t1.2.1 fun t e => ?_).grown t2.2.1 fun t e => ?_
    · have hf := (h.far t s e rfl).1
      have hr := Blk.ne_ (h.ox t e).2.1 k1 (by decide)
      exact ⟨fun e => hf (by injection e), fun e => hr (by injection e)⟩
    · have hf := (h.far t s e rfl).2
      have hr := Blk.ne_ (h.ox t e).1 k2 (by decide)
      exact ⟨fun e => hr (by injection e), fun e => hf (by injection e)⟩
  · obtain rfl : s.turn n l = b := by injection f
    exact h.far a s e rfl
  · have h1 := only_below h.below t1.2.1 h.below.size k5
    exact only_below h1 t2.2.1 h1.size k6

/-- the first loop -/
def Made (w : World) (bA bF bS bR : Nat) (a0 a1 a2 a3 : Int) (i : Value) (W : World) : Prop :=
  ∃ (k : Nat) (x y : Option S), k ≤ 2 ∧ i = .int .i64 k ∧ Two w bS bR x y W ∧ (k < 1 → x = none) ∧ (k < 2 → y = none) ∧ Blk W bA 25 #[.int .i64 a0, .int .i64 a1] ∧ Blk W bF 26 #[.int .u64 a2, .int .u64 a3]
theorem first1_in {n : Int} (h : n ≤ 281474976710655) : 1 ≤ first1 n ∧ first1 n ≤ 281474976710656 := by
  unfold first1; split <;> omega
/-- a new pair, the two blocks having been laid one behind the other -/
theorem ok_new {B : Nat} {W1 W2 : World} {g h : Nat} {c n : Int} (h1 : Src W1 g c (first1 n) 0) (hg : W1.grownBy W2 none) (h2 : RSrc W2 h c (first1 n) 0) (hc : 0 ≤ c) (hc' : c ≤ 65535) (hn : n ≤ 281474976710655) (hB : B ≤ g) (hB' : B ≤ h) :
    Ok B W2 (some ⟨g, h, c, first1 n, 0⟩) := by
  rintro t e
  obtain rfl : (⟨g, h, c, first1 n, 0⟩ : S) = t := by injection e
  exact ⟨Blk.grown h1 hg (by simp), h2, hc, hc', (first1_in hn).1, (first1_in hn).2, hB, hB'⟩
theorem far_new {B : Nat} {W W' : World} {x : Option S} {c n l : Int} (h : Ok B W x) (h' : Ok B W' x) : Far x (some ⟨W.heap.size, W'.heap.size, c, n, l⟩) := by
  rintro s t e f
  obtain rfl : (⟨W.heap.size, W'.heap.size, c, n, l⟩ : S) = t := by injection f
  have h1 := Blk.lt (h s e).1
  have h2 := Blk.lt (h' s e).2.1
  exact ⟨by show s.gs ≠ W.heap.size; omega, by show s.gr ≠ W'.heap.size; omega⟩
/-- the second loop; the loop in it -/
def Going (w : World) (bS bR n : Nat) (i : Value) (W : World) : Prop := ∃ (j : Nat) (x y : Option S), j ≤ n ∧ i = .int .i64 j ∧ Two w bS bR x y W
def Inner0 (w : World) (bS bR : Nat) (y : Option S) (i : Value) (W : World) : Prop := ∃ (q : Nat) (s : S), q ≤ 16 ∧ i = .int .i64 q ∧ Two w bS bR (some s) y W
def Inner1 (w : World) (bS bR : Nat) (x : Option S) (i : Value) (W : World) : Prop := ∃ (q : Nat) (s : S), q ≤ 16 ∧ i = .int .i64 q ∧ Two w bS bR x (some s) W

theorem ofInt_i64 (a : Nat) (ha : a < 9223372036854775808) : (BitVec.ofInt 64 (a : Int)).toNat = a := by
  rw [BitVec.ofInt_natCast, BitVec.toNat_ofNat]; exact Nat.mod_eq_of_lt (by omega)
theorem i64_and_nat (a b : Nat) (ha : a < 9223372036854775808) (hb : b < 9223372036854775808) : bits .and .i64 (a : Int) (b : Int) = ((a &&& b : Nat) : Int) := by
  have hx : a &&& b < 2 ^ 63 := Nat.and_lt_two_pow _ (by omega)
  show IntKind.i64.wrap ((BitVec.ofInt 64 (a : Int) &&& BitVec.ofInt 64 (b : Int)).toNat : Int) = _
  rw [BitVec.toNat_and, ofInt_i64 a ha, ofInt_i64 b hb, IntKind.wrap_i64]
  omega
theorem and_one (j : Nat) (hj : j < 9223372036854775808) : bits .and .i64 (j : Int) 1 = ((j % 2 : Nat) : Int) := by
  rw [show (1 : Int) = ((1 : Nat) : Int) from rfl, i64_and_nat j 1 hj (by omega), Nat.and_one_is_mod]
theorem and_15 (z : Int) : 0 ≤ bits .and .i64 z 15 ∧ bits .and .i64 z 15 ≤ 15 := by
  have h : (BitVec.ofInt 64 z &&& BitVec.ofInt 64 15).toNat ≤ 15 := by
    rw [BitVec.toNat_and]
    exact Nat.and_le_right
  have e : bits .and .i64 z 15 = IntKind.i64.wrap ((BitVec.ofInt 64 z &&& BitVec.ofInt 64 15).toNat : Int) := rfl
  rw [e, IntKind.wrap_i64]
  omega
end Go.Proofs.Ytepppnpmcllenaa.identGives
