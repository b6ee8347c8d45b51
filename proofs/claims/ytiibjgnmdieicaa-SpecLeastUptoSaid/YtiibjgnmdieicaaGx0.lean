-- laid by given.py of this session: the kit's print of the translation, some functions' contracts being this session's own (wip/given). Not trusted: Lean checks it.
import Derived.Test.YtiibjgnmdieicaaProg
import Derived.Below
import Derived.Deep.Draws
import Derived.Deep.AppendLies
import Derived.Maps.AppendAt
import Derived.OwnWalk
import Derived.Laws.BytesArg
import Derived.Laws.MakeOwn
import Derived.Laws.OwnMore
import Derived.Deep.OwnRows
import Derived.Tactics
import Derived.Lib.ConvBytes
import Derived.Laws.Slices
import Derived.WalkKit
import Derived.KernelRfl
import Derived.RowKit3
import Derived.Deep.LoopGhost
import Derived.Deep.QuietTactic
import Derived.BigQuiet
import Derived.WideLaws
import Derived.Deep.DeepCutAuto
import Derived.Deep.CutBlock
import Derived.Deep.RegionHeld3
import Derived.Laws.Rows
import Derived.Lib.AppendStr
import Derived.ArgAppend
import Derived.Laws.IdiomCopy
import Derived.OrdersHeld
import Derived.Laws.BitsLemmas
import Derived.RowKit
import Derived.Lib.Hide
import Derived.Test.YtiibjgnmdieicaaWWords
import Derived.Test.YtiibjgnmdieicaaWLast
import Derived.Test.YtiibjgnmdieicaaWTab
import Derived.Test.YtiibjgnmdieicaaWFour
import Derived.Test.YtiibjgnmdieicaaWQPut
import Derived.Test.YtiibjgnmdieicaaWApart
import Derived.Test.YtiibjgnmdieicaaWArr
import Derived.Test.YtiibjgnmdieicaaWZeros
import Derived.Test.YtiibjgnmdieicaaWFoot
import Derived.Test.YtiibjgnmdieicaaWKept
import Derived.Test.YtiibjgnmdieicaaWShare
import Derived.Test.YtiibjgnmdieicaaWN
import Derived.Test.YtiibjgnmdieicaaWFootNe
import Derived.Test.YtiibjgnmdieicaaWAt
import Derived.Test.YtiibjgnmdieicaaWEqStruct
import Derived.Test.YtiibjgnmdieicaaWRepsOne
import Derived.Test.YtiibjgnmdieicaaWInv
import Derived.Test.YtiibjgnmdieicaaWInvWords
import Derived.Test.YtiibjgnmdieicaaWGuard
import Derived.Test.YtiibjgnmdieicaaWNEv
import Derived.Test.YtiibjgnmdieicaaWMore
namespace Go.Proofs.Ytiibjgnmdieicaa.G
open Go.RowKit Go.Proofs.YtiibjgnmdieicaaW.PrintWords Go.Proofs.YtiibjgnmdieicaaW.PrintLast Go.Proofs.YtiibjgnmdieicaaW.PrintMore
attribute [local go_sem] max2_int min2_int max_two min_two max_three min_three max_four min_four   -- for this text's walks alone
set_option linter.unusedVariables false
set_option linter.unusedSimpArgs false



def errW : Option Int → Value
  | none => .nilIface
  | some c => .iface 0 (.int .i64 c)
theorem errW_none : errW none = .nilIface := rfl
theorem errW_some (c : Int) : errW (some c) = .iface 0 (.int .i64 c) := rfl

theorem info9 : (Try.prog.info? 9).map (fun i => (i.zero, i.size, i.bytes)) = some (some (.string ⟨#[]⟩), 1, 16) := by kernel_rfl
theorem info79 : (Try.prog.info? 79).map (fun i => (i.zero, i.size, i.bytes)) = some (some (.agg #[(.int .u64 0), (.int .u64 0)]), 2, 16) := by kernel_rfl
theorem info86 : (Try.prog.info? 86).map (fun i => (i.zero, i.size, i.bytes)) = some (some (.agg #[(.string ⟨#[]⟩), (.string ⟨#[]⟩)]), 2, 32) := by kernel_rfl
-- the values' own types
/-! #### struct type 86 -/
structure S86 where
  f0 : ByteArray
  f1 : ByteArray
def z86 : S86 := ⟨(⟨#[]⟩ : ByteArray), (⟨#[]⟩ : ByteArray)⟩
def k86 : Kd S86 := Kd.iso (Kd.pair Kd.string Kd.string) (fun x : S86 => (x.f0, x.f1))
theorem k86_open {w : World} {x : S86} {cs : List Value} (h : k86.K w x cs) : cs = [.string x.f0, .string x.f1] := by
  obtain ⟨_, _, rfl, rfl, rfl⟩ := h
  exact rfl
theorem k86_openM {w : World} {base : Nat} {ok : Nat → Prop} {x : S86} {cs : List Value} (h : k86.M w base ok x cs) : cs = [.string x.f0, .string x.f1] := by
  obtain ⟨_, _, rfl, rfl, rfl⟩ := h
  exact rfl
theorem k86_mk (w : World) (x : S86)  : k86.K w x [.string x.f0, .string x.f1] := ⟨[.string x.f0], [.string x.f1], rfl, rfl, rfl⟩
theorem k86_mkM (w : World) (base : Nat) (ok : Nat → Prop) (x : S86)  : k86.M w base ok x [.string x.f0, .string x.f1] := ⟨[.string x.f0], [.string x.f1], rfl, rfl, rfl⟩
theorem k86_mkF (W : World) (ok : Nat → Prop) (x : S86) : Kd.FK k86 W ok x [.string x.f0, .string x.f1] := fun W2 _ => k86_mk W2 x
def rd_T86 (xs : List S86) (i : Int) : S86 := xs.getD i.toNat z86
theorem at_T86 {w : World} {A : Option Addr} {n : Nat} {xs : List S86} (h : Kd.C k86 w A n xs) (i : Int) (h0 : 0 ≤ i) (h1 : i < n) : ∃ ad , A = some ad ∧ w.cell? (ad.add (i.toNat * 2)) = some (.string (rd_T86 xs i).f0) ∧ w.cell? ⟨(ad.add (i.toNat * 2)).block, (ad.add (i.toNat * 2)).off + 1, none⟩ = some (.string (rd_T86 xs i).f1) := by
  obtain ⟨ad, c, e, _, hK, hc0⟩ := Kd.C_get h z86 i h0 h1
  have hc : ∀ j u, c[j]? = some u → w.cell? (ad.add (i.toNat * 2 + j)) = some u := hc0
  obtain rfl := k86_open hK
  exact ⟨ad, e, hc 0 _ rfl, by rw [← add_field _ _ 1 (by omega)]; exact hc 1 _ rfl⟩

def rd_L4 (xs : List (List S86)) (i : Int) : (List S86) := xs.getD i.toNat ([] : List S86)
theorem at_L4 {w : World} {A : Option Addr} {n : Nat} {xs : List (List S86)} (h : Kd.C (Kd.slice 86 k86) w A n xs) (i : Int) (h0 : 0 ≤ i) (h1 : i < n) : ∃ ad A0 c0, A = some ad ∧ w.cell? (ad.add i.toNat) = some (.slice A0 (rd_L4 xs i).length c0) ∧ (rd_L4 xs i).length ≤ c0 ∧ k86.C w A0 (rd_L4 xs i).length (rd_L4 xs i) := by
  obtain ⟨ad, c, e, _, hK, hc0⟩ := Kd.C_get h ([] : List S86) i h0 h1
  have hc : ∀ j u, c[j]? = some u → w.cell? (ad.add (i.toNat * 1 + j)) = some u := hc0
  obtain ⟨A0, c0, rfl, l0, g0⟩ := hK
  exact ⟨ad, A0, c0, e, by have hq := hc 0 _ rfl; rwa [Nat.mul_one, Nat.add_zero] at hq, l0, g0⟩

def rd_L5 (xs : List (List ByteArray)) (i : Int) : (List ByteArray) := xs.getD i.toNat ([] : List ByteArray)
theorem at_L5 {w : World} {A : Option Addr} {n : Nat} {xs : List (List ByteArray)} (h : Kd.C (Kd.slice 9 Kd.string) w A n xs) (i : Int) (h0 : 0 ≤ i) (h1 : i < n) : ∃ ad A0 c0, A = some ad ∧ w.cell? (ad.add i.toNat) = some (.slice A0 (rd_L5 xs i).length c0) ∧ (rd_L5 xs i).length ≤ c0 ∧ Kd.string.C w A0 (rd_L5 xs i).length (rd_L5 xs i) := by
  obtain ⟨ad, c, e, _, hK, hc0⟩ := Kd.C_get h ([] : List ByteArray) i h0 h1
  have hc : ∀ j u, c[j]? = some u → w.cell? (ad.add (i.toNat * 1 + j)) = some u := hc0
  obtain ⟨A0, c0, rfl, l0, g0⟩ := hK
  exact ⟨ad, A0, c0, e, by have hq := hc 0 _ rfl; rwa [Nat.mul_one, Nat.add_zero] at hq, l0, g0⟩

/-! #### struct type 54 -/
structure S54 where
  f0 : ByteArray
  f1 : Int
  f2 : ByteArray
  f3 : (List ByteArray)
def z54 : S54 := ⟨(⟨#[]⟩ : ByteArray), (0 : Int), (⟨#[]⟩ : ByteArray), ([] : List ByteArray)⟩
def k54 : Kd S54 := Kd.iso (Kd.pair Kd.string (Kd.pair (Kd.int .u64) (Kd.pair Kd.string (Kd.slice 9 Kd.string)))) (fun x : S54 => (x.f0, x.f1, x.f2, x.f3))
theorem k54_open {w : World} {x : S54} {cs : List Value} (h : k54.K w x cs) : ∃ A3 c3, cs = [.string x.f0, .int .u64 x.f1, .string x.f2, .slice A3 x.f3.length c3] ∧ x.f3.length ≤ c3 ∧ Kd.string.C w A3 x.f3.length x.f3 := by
  obtain ⟨_, _, rfl, rfl, ⟨_, _, rfl, rfl, ⟨_, _, rfl, rfl, ⟨A3, c3, rfl, l3, g3⟩⟩⟩⟩ := h
  exact ⟨A3, c3, rfl, l3, g3⟩
theorem k54_openM {w : World} {base : Nat} {ok : Nat → Prop} {x : S54} {cs : List Value} (h : k54.M w base ok x cs) : ∃ v3, cs = [.string x.f0, .int .u64 x.f1, .string x.f2, v3] ∧ Kd.string.R 9 w base ok v3 x.f3 := by
  obtain ⟨_, _, rfl, rfl, ⟨_, _, rfl, rfl, ⟨_, _, rfl, rfl, ⟨v3, rfl, g3⟩⟩⟩⟩ := h
  exact ⟨v3, rfl, g3⟩
theorem k54_mk (w : World) (x : S54) {A3 : Option Addr} {c3 : Nat} (l3 : x.f3.length ≤ c3) (g3 : Kd.string.C w A3 x.f3.length x.f3) : k54.K w x [.string x.f0, .int .u64 x.f1, .string x.f2, .slice A3 x.f3.length c3] := ⟨[.string x.f0], [.int .u64 x.f1, .string x.f2, .slice A3 x.f3.length c3], rfl, rfl, ⟨[.int .u64 x.f1], [.string x.f2, .slice A3 x.f3.length c3], rfl, rfl, ⟨[.string x.f2], [.slice A3 x.f3.length c3], rfl, rfl, ⟨A3, c3, rfl, l3, g3⟩⟩⟩⟩
theorem k54_mkM (w : World) (base : Nat) (ok : Nat → Prop) (x : S54) {v3 : Value} (g3 : Kd.string.R 9 w base ok v3 x.f3) : k54.M w base ok x [.string x.f0, .int .u64 x.f1, .string x.f2, v3] := ⟨[.string x.f0], [.int .u64 x.f1, .string x.f2, v3], rfl, rfl, ⟨[.int .u64 x.f1], [.string x.f2, v3], rfl, rfl, ⟨[.string x.f2], [v3], rfl, rfl, ⟨v3, rfl, g3⟩⟩⟩⟩
theorem k54_openF {W : World} {ok : Nat → Prop} {x : S54} {cs : List Value} (h : Kd.FK k54 W ok x cs) : ∃ A3 c3, cs = [.string x.f0, .int .u64 x.f1, .string x.f2, .slice A3 x.f3.length c3] ∧ x.f3.length ≤ c3 ∧ Kd.F Kd.string W ok A3 x.f3.length x.f3 := by
  obtain ⟨A3, c3, rfl, l3, _⟩ := k54_open (Kd.FK_now h)
  exact ⟨A3, c3, rfl, l3, (fun W' hW => by obtain ⟨A3_, c3_, he, l3_, g3_⟩ := k54_open (h W' hW); injection (Option.some.inj (show some (Value.slice A3 x.f3.length c3) = some (Value.slice A3_ x.f3.length c3_) from congrArg (fun l => l[3]?) he)) with ha_ _ _; rw [ha_]; exact g3_)⟩
theorem k54_mkF (W : World) (ok : Nat → Prop) (x : S54) {A3 : Option Addr} {c3 : Nat} (l3 : x.f3.length ≤ c3) (g3 : Kd.F Kd.string W ok A3 x.f3.length x.f3) : Kd.FK k54 W ok x [.string x.f0, .int .u64 x.f1, .string x.f2, .slice A3 x.f3.length c3] := fun W2 hW => k54_mk W2 x l3 (g3 W2 hW)
def rd_T54 (xs : List S54) (i : Int) : S54 := xs.getD i.toNat z54
theorem at_T54 {w : World} {A : Option Addr} {n : Nat} {xs : List S54} (h : Kd.C k54 w A n xs) (i : Int) (h0 : 0 ≤ i) (h1 : i < n) : ∃ ad A3 c3, A = some ad ∧ w.cell? (ad.add (i.toNat * 4)) = some (.string (rd_T54 xs i).f0) ∧ w.cell? ⟨(ad.add (i.toNat * 4)).block, (ad.add (i.toNat * 4)).off + 1, none⟩ = some (.int .u64 (rd_T54 xs i).f1) ∧ w.cell? ⟨(ad.add (i.toNat * 4)).block, (ad.add (i.toNat * 4)).off + 2, none⟩ = some (.string (rd_T54 xs i).f2) ∧ w.cell? ⟨(ad.add (i.toNat * 4)).block, (ad.add (i.toNat * 4)).off + 3, none⟩ = some (.slice A3 (rd_T54 xs i).f3.length c3) ∧ (rd_T54 xs i).f3.length ≤ c3 ∧ Kd.string.C w A3 (rd_T54 xs i).f3.length (rd_T54 xs i).f3 := by
  obtain ⟨ad, c, e, _, hK, hc0⟩ := Kd.C_get h z54 i h0 h1
  have hc : ∀ j u, c[j]? = some u → w.cell? (ad.add (i.toNat * 4 + j)) = some u := hc0
  obtain ⟨A3, c3, rfl, l3, g3⟩ := k54_open hK
  exact ⟨ad, A3, c3, e, hc 0 _ rfl, by rw [← add_field _ _ 1 (by omega)]; exact hc 1 _ rfl, by rw [← add_field _ _ 2 (by omega)]; exact hc 2 _ rfl, by rw [← add_field _ _ 3 (by omega)]; exact hc 3 _ rfl, l3, g3⟩

def rd_L7 (xs : List (List S54)) (i : Int) : (List S54) := xs.getD i.toNat ([] : List S54)
theorem at_L7 {w : World} {A : Option Addr} {n : Nat} {xs : List (List S54)} (h : Kd.C (Kd.slice 54 k54) w A n xs) (i : Int) (h0 : 0 ≤ i) (h1 : i < n) : ∃ ad A0 c0, A = some ad ∧ w.cell? (ad.add i.toNat) = some (.slice A0 (rd_L7 xs i).length c0) ∧ (rd_L7 xs i).length ≤ c0 ∧ k54.C w A0 (rd_L7 xs i).length (rd_L7 xs i) := by
  obtain ⟨ad, c, e, _, hK, hc0⟩ := Kd.C_get h ([] : List S54) i h0 h1
  have hc : ∀ j u, c[j]? = some u → w.cell? (ad.add (i.toNat * 1 + j)) = some u := hc0
  obtain ⟨A0, c0, rfl, l0, g0⟩ := hK
  exact ⟨ad, A0, c0, e, by have hq := hc 0 _ rfl; rwa [Nat.mul_one, Nat.add_zero] at hq, l0, g0⟩

/-! #### struct type 34 -/
structure S34 where
  f0 : Int
  f1 : Int
  f2 : Int
  f3 : (List S54)
def z34 : S34 := ⟨(0 : Int), (0 : Int), (0 : Int), ([] : List S54)⟩
def k34 : Kd S34 := Kd.iso (Kd.pair (Kd.int .i64) (Kd.pair (Kd.int .i64) (Kd.pair (Kd.int .u64) (Kd.slice 54 k54)))) (fun x : S34 => (x.f0, x.f1, x.f2, x.f3))
theorem k34_open {w : World} {x : S34} {cs : List Value} (h : k34.K w x cs) : ∃ A3 c3, cs = [.int .i64 x.f0, .int .i64 x.f1, .int .u64 x.f2, .slice A3 x.f3.length c3] ∧ x.f3.length ≤ c3 ∧ k54.C w A3 x.f3.length x.f3 := by
  obtain ⟨_, _, rfl, rfl, ⟨_, _, rfl, rfl, ⟨_, _, rfl, rfl, ⟨A3, c3, rfl, l3, g3⟩⟩⟩⟩ := h
  exact ⟨A3, c3, rfl, l3, g3⟩
theorem k34_openM {w : World} {base : Nat} {ok : Nat → Prop} {x : S34} {cs : List Value} (h : k34.M w base ok x cs) : ∃ v3, cs = [.int .i64 x.f0, .int .i64 x.f1, .int .u64 x.f2, v3] ∧ k54.R 54 w base ok v3 x.f3 := by
  obtain ⟨_, _, rfl, rfl, ⟨_, _, rfl, rfl, ⟨_, _, rfl, rfl, ⟨v3, rfl, g3⟩⟩⟩⟩ := h
  exact ⟨v3, rfl, g3⟩
theorem k34_mk (w : World) (x : S34) {A3 : Option Addr} {c3 : Nat} (l3 : x.f3.length ≤ c3) (g3 : k54.C w A3 x.f3.length x.f3) : k34.K w x [.int .i64 x.f0, .int .i64 x.f1, .int .u64 x.f2, .slice A3 x.f3.length c3] := ⟨[.int .i64 x.f0], [.int .i64 x.f1, .int .u64 x.f2, .slice A3 x.f3.length c3], rfl, rfl, ⟨[.int .i64 x.f1], [.int .u64 x.f2, .slice A3 x.f3.length c3], rfl, rfl, ⟨[.int .u64 x.f2], [.slice A3 x.f3.length c3], rfl, rfl, ⟨A3, c3, rfl, l3, g3⟩⟩⟩⟩
theorem k34_mkM (w : World) (base : Nat) (ok : Nat → Prop) (x : S34) {v3 : Value} (g3 : k54.R 54 w base ok v3 x.f3) : k34.M w base ok x [.int .i64 x.f0, .int .i64 x.f1, .int .u64 x.f2, v3] := ⟨[.int .i64 x.f0], [.int .i64 x.f1, .int .u64 x.f2, v3], rfl, rfl, ⟨[.int .i64 x.f1], [.int .u64 x.f2, v3], rfl, rfl, ⟨[.int .u64 x.f2], [v3], rfl, rfl, ⟨v3, rfl, g3⟩⟩⟩⟩
theorem k34_openF {W : World} {ok : Nat → Prop} {x : S34} {cs : List Value} (h : Kd.FK k34 W ok x cs) : ∃ A3 c3, cs = [.int .i64 x.f0, .int .i64 x.f1, .int .u64 x.f2, .slice A3 x.f3.length c3] ∧ x.f3.length ≤ c3 ∧ Kd.F k54 W ok A3 x.f3.length x.f3 := by
  obtain ⟨A3, c3, rfl, l3, _⟩ := k34_open (Kd.FK_now h)
  exact ⟨A3, c3, rfl, l3, (fun W' hW => by obtain ⟨A3_, c3_, he, l3_, g3_⟩ := k34_open (h W' hW); injection (Option.some.inj (show some (Value.slice A3 x.f3.length c3) = some (Value.slice A3_ x.f3.length c3_) from congrArg (fun l => l[3]?) he)) with ha_ _ _; rw [ha_]; exact g3_)⟩
theorem k34_mkF (W : World) (ok : Nat → Prop) (x : S34) {A3 : Option Addr} {c3 : Nat} (l3 : x.f3.length ≤ c3) (g3 : Kd.F k54 W ok A3 x.f3.length x.f3) : Kd.FK k34 W ok x [.int .i64 x.f0, .int .i64 x.f1, .int .u64 x.f2, .slice A3 x.f3.length c3] := fun W2 hW => k34_mk W2 x l3 (g3 W2 hW)
def rd_T34 (xs : List S34) (i : Int) : S34 := xs.getD i.toNat z34
theorem at_T34 {w : World} {A : Option Addr} {n : Nat} {xs : List S34} (h : Kd.C k34 w A n xs) (i : Int) (h0 : 0 ≤ i) (h1 : i < n) : ∃ ad A3 c3, A = some ad ∧ w.cell? (ad.add (i.toNat * 4)) = some (.int .i64 (rd_T34 xs i).f0) ∧ w.cell? ⟨(ad.add (i.toNat * 4)).block, (ad.add (i.toNat * 4)).off + 1, none⟩ = some (.int .i64 (rd_T34 xs i).f1) ∧ w.cell? ⟨(ad.add (i.toNat * 4)).block, (ad.add (i.toNat * 4)).off + 2, none⟩ = some (.int .u64 (rd_T34 xs i).f2) ∧ w.cell? ⟨(ad.add (i.toNat * 4)).block, (ad.add (i.toNat * 4)).off + 3, none⟩ = some (.slice A3 (rd_T34 xs i).f3.length c3) ∧ (rd_T34 xs i).f3.length ≤ c3 ∧ k54.C w A3 (rd_T34 xs i).f3.length (rd_T34 xs i).f3 := by
  obtain ⟨ad, c, e, _, hK, hc0⟩ := Kd.C_get h z34 i h0 h1
  have hc : ∀ j u, c[j]? = some u → w.cell? (ad.add (i.toNat * 4 + j)) = some u := hc0
  obtain ⟨A3, c3, rfl, l3, g3⟩ := k34_open hK
  exact ⟨ad, A3, c3, e, hc 0 _ rfl, by rw [← add_field _ _ 1 (by omega)]; exact hc 1 _ rfl, by rw [← add_field _ _ 2 (by omega)]; exact hc 2 _ rfl, by rw [← add_field _ _ 3 (by omega)]; exact hc 3 _ rfl, l3, g3⟩

/-! #### struct type 36 -/
structure S36 where
  f0 : Int
  f1 : Int
  f2 : Int
  f3 : Int
  f4 : (List S86)
  f5 : (List ByteArray)
  f6 : S34
def z36 : S36 := ⟨(0 : Int), (0 : Int), (0 : Int), (0 : Int), ([] : List S86), ([] : List ByteArray), z34⟩
def k36 : Kd S36 := Kd.iso (Kd.pair (Kd.int .i64) (Kd.pair (Kd.int .i64) (Kd.pair (Kd.int .i64) (Kd.pair (Kd.int .u64) (Kd.pair (Kd.slice 86 k86) (Kd.pair (Kd.slice 9 Kd.string) k34)))))) (fun x : S36 => (x.f0, x.f1, x.f2, x.f3, x.f4, x.f5, x.f6))
theorem k36_open {w : World} {x : S36} {cs : List Value} (h : k36.K w x cs) : ∃ A4 c4 A5 c5 A9 c9, cs = [.int .i64 x.f0, .int .i64 x.f1, .int .i64 x.f2, .int .u64 x.f3, .slice A4 x.f4.length c4, .slice A5 x.f5.length c5, .int .i64 x.f6.f0, .int .i64 x.f6.f1, .int .u64 x.f6.f2, .slice A9 x.f6.f3.length c9] ∧ x.f4.length ≤ c4 ∧ k86.C w A4 x.f4.length x.f4 ∧ x.f5.length ≤ c5 ∧ Kd.string.C w A5 x.f5.length x.f5 ∧ x.f6.f3.length ≤ c9 ∧ k54.C w A9 x.f6.f3.length x.f6.f3 := by
  obtain ⟨_, _, rfl, rfl, ⟨_, _, rfl, rfl, ⟨_, _, rfl, rfl, ⟨_, _, rfl, rfl, ⟨_, _, rfl, ⟨A4, c4, rfl, l4, g4⟩, ⟨_, _, rfl, ⟨A5, c5, rfl, l5, g5⟩, s6⟩⟩⟩⟩⟩⟩ := h
  obtain ⟨A9, c9, rfl, l9, g9⟩ := k34_open s6
  exact ⟨A4, c4, A5, c5, A9, c9, rfl, l4, g4, l5, g5, l9, g9⟩
theorem k36_openM {w : World} {base : Nat} {ok : Nat → Prop} {x : S36} {cs : List Value} (h : k36.M w base ok x cs) : ∃ v4 v5 v9, cs = [.int .i64 x.f0, .int .i64 x.f1, .int .i64 x.f2, .int .u64 x.f3, v4, v5, .int .i64 x.f6.f0, .int .i64 x.f6.f1, .int .u64 x.f6.f2, v9] ∧ k86.R 86 w base ok v4 x.f4 ∧ Kd.string.R 9 w base ok v5 x.f5 ∧ k54.R 54 w base ok v9 x.f6.f3 := by
  obtain ⟨_, _, rfl, rfl, ⟨_, _, rfl, rfl, ⟨_, _, rfl, rfl, ⟨_, _, rfl, rfl, ⟨_, _, rfl, ⟨v4, rfl, g4⟩, ⟨_, _, rfl, ⟨v5, rfl, g5⟩, s6⟩⟩⟩⟩⟩⟩ := h
  obtain ⟨v9, rfl, g9⟩ := k34_openM s6
  exact ⟨v4, v5, v9, rfl, g4, g5, g9⟩
theorem k36_mk (w : World) (x : S36) {A4 : Option Addr} {c4 : Nat} (l4 : x.f4.length ≤ c4) (g4 : k86.C w A4 x.f4.length x.f4) {A5 : Option Addr} {c5 : Nat} (l5 : x.f5.length ≤ c5) (g5 : Kd.string.C w A5 x.f5.length x.f5) {A9 : Option Addr} {c9 : Nat} (l9 : x.f6.f3.length ≤ c9) (g9 : k54.C w A9 x.f6.f3.length x.f6.f3) : k36.K w x [.int .i64 x.f0, .int .i64 x.f1, .int .i64 x.f2, .int .u64 x.f3, .slice A4 x.f4.length c4, .slice A5 x.f5.length c5, .int .i64 x.f6.f0, .int .i64 x.f6.f1, .int .u64 x.f6.f2, .slice A9 x.f6.f3.length c9] := ⟨[.int .i64 x.f0], [.int .i64 x.f1, .int .i64 x.f2, .int .u64 x.f3, .slice A4 x.f4.length c4, .slice A5 x.f5.length c5, .int .i64 x.f6.f0, .int .i64 x.f6.f1, .int .u64 x.f6.f2, .slice A9 x.f6.f3.length c9], rfl, rfl, ⟨[.int .i64 x.f1], [.int .i64 x.f2, .int .u64 x.f3, .slice A4 x.f4.length c4, .slice A5 x.f5.length c5, .int .i64 x.f6.f0, .int .i64 x.f6.f1, .int .u64 x.f6.f2, .slice A9 x.f6.f3.length c9], rfl, rfl, ⟨[.int .i64 x.f2], [.int .u64 x.f3, .slice A4 x.f4.length c4, .slice A5 x.f5.length c5, .int .i64 x.f6.f0, .int .i64 x.f6.f1, .int .u64 x.f6.f2, .slice A9 x.f6.f3.length c9], rfl, rfl, ⟨[.int .u64 x.f3], [.slice A4 x.f4.length c4, .slice A5 x.f5.length c5, .int .i64 x.f6.f0, .int .i64 x.f6.f1, .int .u64 x.f6.f2, .slice A9 x.f6.f3.length c9], rfl, rfl, ⟨[.slice A4 x.f4.length c4], [.slice A5 x.f5.length c5, .int .i64 x.f6.f0, .int .i64 x.f6.f1, .int .u64 x.f6.f2, .slice A9 x.f6.f3.length c9], rfl, ⟨A4, c4, rfl, l4, g4⟩, ⟨[.slice A5 x.f5.length c5], [.int .i64 x.f6.f0, .int .i64 x.f6.f1, .int .u64 x.f6.f2, .slice A9 x.f6.f3.length c9], rfl, ⟨A5, c5, rfl, l5, g5⟩, (k34_mk w x.f6 l9 g9)⟩⟩⟩⟩⟩⟩
theorem k36_mkM (w : World) (base : Nat) (ok : Nat → Prop) (x : S36) {v4 : Value} (g4 : k86.R 86 w base ok v4 x.f4) {v5 : Value} (g5 : Kd.string.R 9 w base ok v5 x.f5) {v9 : Value} (g9 : k54.R 54 w base ok v9 x.f6.f3) : k36.M w base ok x [.int .i64 x.f0, .int .i64 x.f1, .int .i64 x.f2, .int .u64 x.f3, v4, v5, .int .i64 x.f6.f0, .int .i64 x.f6.f1, .int .u64 x.f6.f2, v9] := ⟨[.int .i64 x.f0], [.int .i64 x.f1, .int .i64 x.f2, .int .u64 x.f3, v4, v5, .int .i64 x.f6.f0, .int .i64 x.f6.f1, .int .u64 x.f6.f2, v9], rfl, rfl, ⟨[.int .i64 x.f1], [.int .i64 x.f2, .int .u64 x.f3, v4, v5, .int .i64 x.f6.f0, .int .i64 x.f6.f1, .int .u64 x.f6.f2, v9], rfl, rfl, ⟨[.int .i64 x.f2], [.int .u64 x.f3, v4, v5, .int .i64 x.f6.f0, .int .i64 x.f6.f1, .int .u64 x.f6.f2, v9], rfl, rfl, ⟨[.int .u64 x.f3], [v4, v5, .int .i64 x.f6.f0, .int .i64 x.f6.f1, .int .u64 x.f6.f2, v9], rfl, rfl, ⟨[v4], [v5, .int .i64 x.f6.f0, .int .i64 x.f6.f1, .int .u64 x.f6.f2, v9], rfl, ⟨v4, rfl, g4⟩, ⟨[v5], [.int .i64 x.f6.f0, .int .i64 x.f6.f1, .int .u64 x.f6.f2, v9], rfl, ⟨v5, rfl, g5⟩, (k34_mkM w base ok x.f6 g9)⟩⟩⟩⟩⟩⟩
theorem k36_openF {W : World} {ok : Nat → Prop} {x : S36} {cs : List Value} (h : Kd.FK k36 W ok x cs) : ∃ A4 c4 A5 c5 A9 c9, cs = [.int .i64 x.f0, .int .i64 x.f1, .int .i64 x.f2, .int .u64 x.f3, .slice A4 x.f4.length c4, .slice A5 x.f5.length c5, .int .i64 x.f6.f0, .int .i64 x.f6.f1, .int .u64 x.f6.f2, .slice A9 x.f6.f3.length c9] ∧ x.f4.length ≤ c4 ∧ Kd.F k86 W ok A4 x.f4.length x.f4 ∧ x.f5.length ≤ c5 ∧ Kd.F Kd.string W ok A5 x.f5.length x.f5 ∧ x.f6.f3.length ≤ c9 ∧ Kd.F k54 W ok A9 x.f6.f3.length x.f6.f3 := by
  obtain ⟨A4, c4, A5, c5, A9, c9, rfl, l4, _, l5, _, l9, _⟩ := k36_open (Kd.FK_now h)
  exact ⟨A4, c4, A5, c5, A9, c9, rfl, l4, (fun W' hW => by obtain ⟨A4_, c4_, A5_, c5_, A9_, c9_, he, l4_, g4_, l5_, g5_, l9_, g9_⟩ := k36_open (h W' hW); injection (Option.some.inj (show some (Value.slice A4 x.f4.length c4) = some (Value.slice A4_ x.f4.length c4_) from congrArg (fun l => l[4]?) he)) with ha_ _ _; rw [ha_]; exact g4_), l5, (fun W' hW => by obtain ⟨A4_, c4_, A5_, c5_, A9_, c9_, he, l4_, g4_, l5_, g5_, l9_, g9_⟩ := k36_open (h W' hW); injection (Option.some.inj (show some (Value.slice A5 x.f5.length c5) = some (Value.slice A5_ x.f5.length c5_) from congrArg (fun l => l[5]?) he)) with ha_ _ _; rw [ha_]; exact g5_), l9, (fun W' hW => by obtain ⟨A4_, c4_, A5_, c5_, A9_, c9_, he, l4_, g4_, l5_, g5_, l9_, g9_⟩ := k36_open (h W' hW); injection (Option.some.inj (show some (Value.slice A9 x.f6.f3.length c9) = some (Value.slice A9_ x.f6.f3.length c9_) from congrArg (fun l => l[9]?) he)) with ha_ _ _; rw [ha_]; exact g9_)⟩
theorem k36_mkF (W : World) (ok : Nat → Prop) (x : S36) {A4 : Option Addr} {c4 : Nat} (l4 : x.f4.length ≤ c4) (g4 : Kd.F k86 W ok A4 x.f4.length x.f4) {A5 : Option Addr} {c5 : Nat} (l5 : x.f5.length ≤ c5) (g5 : Kd.F Kd.string W ok A5 x.f5.length x.f5) {A9 : Option Addr} {c9 : Nat} (l9 : x.f6.f3.length ≤ c9) (g9 : Kd.F k54 W ok A9 x.f6.f3.length x.f6.f3) : Kd.FK k36 W ok x [.int .i64 x.f0, .int .i64 x.f1, .int .i64 x.f2, .int .u64 x.f3, .slice A4 x.f4.length c4, .slice A5 x.f5.length c5, .int .i64 x.f6.f0, .int .i64 x.f6.f1, .int .u64 x.f6.f2, .slice A9 x.f6.f3.length c9] := fun W2 hW => k36_mk W2 x l4 (g4 W2 hW) l5 (g5 W2 hW) l9 (g9 W2 hW)
def rd_T36 (xs : List S36) (i : Int) : S36 := xs.getD i.toNat z36
theorem at_T36 {w : World} {A : Option Addr} {n : Nat} {xs : List S36} (h : Kd.C k36 w A n xs) (i : Int) (h0 : 0 ≤ i) (h1 : i < n) : ∃ ad A4 c4 A5 c5 A9 c9, A = some ad ∧ w.cell? (ad.add (i.toNat * 10)) = some (.int .i64 (rd_T36 xs i).f0) ∧ w.cell? ⟨(ad.add (i.toNat * 10)).block, (ad.add (i.toNat * 10)).off + 1, none⟩ = some (.int .i64 (rd_T36 xs i).f1) ∧ w.cell? ⟨(ad.add (i.toNat * 10)).block, (ad.add (i.toNat * 10)).off + 2, none⟩ = some (.int .i64 (rd_T36 xs i).f2) ∧ w.cell? ⟨(ad.add (i.toNat * 10)).block, (ad.add (i.toNat * 10)).off + 3, none⟩ = some (.int .u64 (rd_T36 xs i).f3) ∧ w.cell? ⟨(ad.add (i.toNat * 10)).block, (ad.add (i.toNat * 10)).off + 4, none⟩ = some (.slice A4 (rd_T36 xs i).f4.length c4) ∧ w.cell? ⟨(ad.add (i.toNat * 10)).block, (ad.add (i.toNat * 10)).off + 5, none⟩ = some (.slice A5 (rd_T36 xs i).f5.length c5) ∧ w.cell? ⟨(ad.add (i.toNat * 10)).block, (ad.add (i.toNat * 10)).off + 6, none⟩ = some (.int .i64 (rd_T36 xs i).f6.f0) ∧ w.cell? ⟨(ad.add (i.toNat * 10)).block, (ad.add (i.toNat * 10)).off + 7, none⟩ = some (.int .i64 (rd_T36 xs i).f6.f1) ∧ w.cell? ⟨(ad.add (i.toNat * 10)).block, (ad.add (i.toNat * 10)).off + 8, none⟩ = some (.int .u64 (rd_T36 xs i).f6.f2) ∧ w.cell? ⟨(ad.add (i.toNat * 10)).block, (ad.add (i.toNat * 10)).off + 9, none⟩ = some (.slice A9 (rd_T36 xs i).f6.f3.length c9) ∧ (rd_T36 xs i).f4.length ≤ c4 ∧ k86.C w A4 (rd_T36 xs i).f4.length (rd_T36 xs i).f4 ∧ (rd_T36 xs i).f5.length ≤ c5 ∧ Kd.string.C w A5 (rd_T36 xs i).f5.length (rd_T36 xs i).f5 ∧ (rd_T36 xs i).f6.f3.length ≤ c9 ∧ k54.C w A9 (rd_T36 xs i).f6.f3.length (rd_T36 xs i).f6.f3 := by
  obtain ⟨ad, c, e, _, hK, hc0⟩ := Kd.C_get h z36 i h0 h1
  have hc : ∀ j u, c[j]? = some u → w.cell? (ad.add (i.toNat * 10 + j)) = some u := hc0
  obtain ⟨A4, c4, A5, c5, A9, c9, rfl, l4, g4, l5, g5, l9, g9⟩ := k36_open hK
  exact ⟨ad, A4, c4, A5, c5, A9, c9, e, hc 0 _ rfl, by rw [← add_field _ _ 1 (by omega)]; exact hc 1 _ rfl, by rw [← add_field _ _ 2 (by omega)]; exact hc 2 _ rfl, by rw [← add_field _ _ 3 (by omega)]; exact hc 3 _ rfl, by rw [← add_field _ _ 4 (by omega)]; exact hc 4 _ rfl, by rw [← add_field _ _ 5 (by omega)]; exact hc 5 _ rfl, by rw [← add_field _ _ 6 (by omega)]; exact hc 6 _ rfl, by rw [← add_field _ _ 7 (by omega)]; exact hc 7 _ rfl, by rw [← add_field _ _ 8 (by omega)]; exact hc 8 _ rfl, by rw [← add_field _ _ 9 (by omega)]; exact hc 9 _ rfl, l4, g4, l5, g5, l9, g9⟩

/-! #### struct type 109 -/
structure S109 where
  f0 : S36
  f1 : Int
  f2 : Bool
def z109 : S109 := ⟨z36, (0 : Int), false⟩
def k109 : Kd S109 := Kd.iso (Kd.pair k36 (Kd.pair (Kd.int .i64) Kd.bool)) (fun x : S109 => (x.f0, x.f1, x.f2))
theorem k109_open {w : World} {x : S109} {cs : List Value} (h : k109.K w x cs) : ∃ A4 c4 A5 c5 A9 c9, cs = [.int .i64 x.f0.f0, .int .i64 x.f0.f1, .int .i64 x.f0.f2, .int .u64 x.f0.f3, .slice A4 x.f0.f4.length c4, .slice A5 x.f0.f5.length c5, .int .i64 x.f0.f6.f0, .int .i64 x.f0.f6.f1, .int .u64 x.f0.f6.f2, .slice A9 x.f0.f6.f3.length c9, .int .i64 x.f1, .bool x.f2] ∧ x.f0.f4.length ≤ c4 ∧ k86.C w A4 x.f0.f4.length x.f0.f4 ∧ x.f0.f5.length ≤ c5 ∧ Kd.string.C w A5 x.f0.f5.length x.f0.f5 ∧ x.f0.f6.f3.length ≤ c9 ∧ k54.C w A9 x.f0.f6.f3.length x.f0.f6.f3 := by
  obtain ⟨_, _, rfl, s0, ⟨_, _, rfl, rfl, rfl⟩⟩ := h
  obtain ⟨A4, c4, A5, c5, A9, c9, rfl, l4, g4, l5, g5, l9, g9⟩ := k36_open s0
  exact ⟨A4, c4, A5, c5, A9, c9, rfl, l4, g4, l5, g5, l9, g9⟩
theorem k109_openM {w : World} {base : Nat} {ok : Nat → Prop} {x : S109} {cs : List Value} (h : k109.M w base ok x cs) : ∃ v4 v5 v9, cs = [.int .i64 x.f0.f0, .int .i64 x.f0.f1, .int .i64 x.f0.f2, .int .u64 x.f0.f3, v4, v5, .int .i64 x.f0.f6.f0, .int .i64 x.f0.f6.f1, .int .u64 x.f0.f6.f2, v9, .int .i64 x.f1, .bool x.f2] ∧ k86.R 86 w base ok v4 x.f0.f4 ∧ Kd.string.R 9 w base ok v5 x.f0.f5 ∧ k54.R 54 w base ok v9 x.f0.f6.f3 := by
  obtain ⟨_, _, rfl, s0, ⟨_, _, rfl, rfl, rfl⟩⟩ := h
  obtain ⟨v4, v5, v9, rfl, g4, g5, g9⟩ := k36_openM s0
  exact ⟨v4, v5, v9, rfl, g4, g5, g9⟩
theorem k109_mk (w : World) (x : S109) {A4 : Option Addr} {c4 : Nat} (l4 : x.f0.f4.length ≤ c4) (g4 : k86.C w A4 x.f0.f4.length x.f0.f4) {A5 : Option Addr} {c5 : Nat} (l5 : x.f0.f5.length ≤ c5) (g5 : Kd.string.C w A5 x.f0.f5.length x.f0.f5) {A9 : Option Addr} {c9 : Nat} (l9 : x.f0.f6.f3.length ≤ c9) (g9 : k54.C w A9 x.f0.f6.f3.length x.f0.f6.f3) : k109.K w x [.int .i64 x.f0.f0, .int .i64 x.f0.f1, .int .i64 x.f0.f2, .int .u64 x.f0.f3, .slice A4 x.f0.f4.length c4, .slice A5 x.f0.f5.length c5, .int .i64 x.f0.f6.f0, .int .i64 x.f0.f6.f1, .int .u64 x.f0.f6.f2, .slice A9 x.f0.f6.f3.length c9, .int .i64 x.f1, .bool x.f2] := ⟨[.int .i64 x.f0.f0, .int .i64 x.f0.f1, .int .i64 x.f0.f2, .int .u64 x.f0.f3, .slice A4 x.f0.f4.length c4, .slice A5 x.f0.f5.length c5, .int .i64 x.f0.f6.f0, .int .i64 x.f0.f6.f1, .int .u64 x.f0.f6.f2, .slice A9 x.f0.f6.f3.length c9], [.int .i64 x.f1, .bool x.f2], rfl, (k36_mk w x.f0 l4 g4 l5 g5 l9 g9), ⟨[.int .i64 x.f1], [.bool x.f2], rfl, rfl, rfl⟩⟩
theorem k109_mkM (w : World) (base : Nat) (ok : Nat → Prop) (x : S109) {v4 : Value} (g4 : k86.R 86 w base ok v4 x.f0.f4) {v5 : Value} (g5 : Kd.string.R 9 w base ok v5 x.f0.f5) {v9 : Value} (g9 : k54.R 54 w base ok v9 x.f0.f6.f3) : k109.M w base ok x [.int .i64 x.f0.f0, .int .i64 x.f0.f1, .int .i64 x.f0.f2, .int .u64 x.f0.f3, v4, v5, .int .i64 x.f0.f6.f0, .int .i64 x.f0.f6.f1, .int .u64 x.f0.f6.f2, v9, .int .i64 x.f1, .bool x.f2] := ⟨[.int .i64 x.f0.f0, .int .i64 x.f0.f1, .int .i64 x.f0.f2, .int .u64 x.f0.f3, v4, v5, .int .i64 x.f0.f6.f0, .int .i64 x.f0.f6.f1, .int .u64 x.f0.f6.f2, v9], [.int .i64 x.f1, .bool x.f2], rfl, (k36_mkM w base ok x.f0 g4 g5 g9), ⟨[.int .i64 x.f1], [.bool x.f2], rfl, rfl, rfl⟩⟩
theorem k109_openF {W : World} {ok : Nat → Prop} {x : S109} {cs : List Value} (h : Kd.FK k109 W ok x cs) : ∃ A4 c4 A5 c5 A9 c9, cs = [.int .i64 x.f0.f0, .int .i64 x.f0.f1, .int .i64 x.f0.f2, .int .u64 x.f0.f3, .slice A4 x.f0.f4.length c4, .slice A5 x.f0.f5.length c5, .int .i64 x.f0.f6.f0, .int .i64 x.f0.f6.f1, .int .u64 x.f0.f6.f2, .slice A9 x.f0.f6.f3.length c9, .int .i64 x.f1, .bool x.f2] ∧ x.f0.f4.length ≤ c4 ∧ Kd.F k86 W ok A4 x.f0.f4.length x.f0.f4 ∧ x.f0.f5.length ≤ c5 ∧ Kd.F Kd.string W ok A5 x.f0.f5.length x.f0.f5 ∧ x.f0.f6.f3.length ≤ c9 ∧ Kd.F k54 W ok A9 x.f0.f6.f3.length x.f0.f6.f3 := by
  obtain ⟨A4, c4, A5, c5, A9, c9, rfl, l4, _, l5, _, l9, _⟩ := k109_open (Kd.FK_now h)
  exact ⟨A4, c4, A5, c5, A9, c9, rfl, l4, (fun W' hW => by obtain ⟨A4_, c4_, A5_, c5_, A9_, c9_, he, l4_, g4_, l5_, g5_, l9_, g9_⟩ := k109_open (h W' hW); injection (Option.some.inj (show some (Value.slice A4 x.f0.f4.length c4) = some (Value.slice A4_ x.f0.f4.length c4_) from congrArg (fun l => l[4]?) he)) with ha_ _ _; rw [ha_]; exact g4_), l5, (fun W' hW => by obtain ⟨A4_, c4_, A5_, c5_, A9_, c9_, he, l4_, g4_, l5_, g5_, l9_, g9_⟩ := k109_open (h W' hW); injection (Option.some.inj (show some (Value.slice A5 x.f0.f5.length c5) = some (Value.slice A5_ x.f0.f5.length c5_) from congrArg (fun l => l[5]?) he)) with ha_ _ _; rw [ha_]; exact g5_), l9, (fun W' hW => by obtain ⟨A4_, c4_, A5_, c5_, A9_, c9_, he, l4_, g4_, l5_, g5_, l9_, g9_⟩ := k109_open (h W' hW); injection (Option.some.inj (show some (Value.slice A9 x.f0.f6.f3.length c9) = some (Value.slice A9_ x.f0.f6.f3.length c9_) from congrArg (fun l => l[9]?) he)) with ha_ _ _; rw [ha_]; exact g9_)⟩
theorem k109_mkF (W : World) (ok : Nat → Prop) (x : S109) {A4 : Option Addr} {c4 : Nat} (l4 : x.f0.f4.length ≤ c4) (g4 : Kd.F k86 W ok A4 x.f0.f4.length x.f0.f4) {A5 : Option Addr} {c5 : Nat} (l5 : x.f0.f5.length ≤ c5) (g5 : Kd.F Kd.string W ok A5 x.f0.f5.length x.f0.f5) {A9 : Option Addr} {c9 : Nat} (l9 : x.f0.f6.f3.length ≤ c9) (g9 : Kd.F k54 W ok A9 x.f0.f6.f3.length x.f0.f6.f3) : Kd.FK k109 W ok x [.int .i64 x.f0.f0, .int .i64 x.f0.f1, .int .i64 x.f0.f2, .int .u64 x.f0.f3, .slice A4 x.f0.f4.length c4, .slice A5 x.f0.f5.length c5, .int .i64 x.f0.f6.f0, .int .i64 x.f0.f6.f1, .int .u64 x.f0.f6.f2, .slice A9 x.f0.f6.f3.length c9, .int .i64 x.f1, .bool x.f2] := fun W2 hW => k109_mk W2 x l4 (g4 W2 hW) l5 (g5 W2 hW) l9 (g9 W2 hW)
def rd_T109 (xs : List S109) (i : Int) : S109 := xs.getD i.toNat z109
theorem at_T109 {w : World} {A : Option Addr} {n : Nat} {xs : List S109} (h : Kd.C k109 w A n xs) (i : Int) (h0 : 0 ≤ i) (h1 : i < n) : ∃ ad A4 c4 A5 c5 A9 c9, A = some ad ∧ w.cell? (ad.add (i.toNat * 12)) = some (.int .i64 (rd_T109 xs i).f0.f0) ∧ w.cell? ⟨(ad.add (i.toNat * 12)).block, (ad.add (i.toNat * 12)).off + 1, none⟩ = some (.int .i64 (rd_T109 xs i).f0.f1) ∧ w.cell? ⟨(ad.add (i.toNat * 12)).block, (ad.add (i.toNat * 12)).off + 2, none⟩ = some (.int .i64 (rd_T109 xs i).f0.f2) ∧ w.cell? ⟨(ad.add (i.toNat * 12)).block, (ad.add (i.toNat * 12)).off + 3, none⟩ = some (.int .u64 (rd_T109 xs i).f0.f3) ∧ w.cell? ⟨(ad.add (i.toNat * 12)).block, (ad.add (i.toNat * 12)).off + 4, none⟩ = some (.slice A4 (rd_T109 xs i).f0.f4.length c4) ∧ w.cell? ⟨(ad.add (i.toNat * 12)).block, (ad.add (i.toNat * 12)).off + 5, none⟩ = some (.slice A5 (rd_T109 xs i).f0.f5.length c5) ∧ w.cell? ⟨(ad.add (i.toNat * 12)).block, (ad.add (i.toNat * 12)).off + 6, none⟩ = some (.int .i64 (rd_T109 xs i).f0.f6.f0) ∧ w.cell? ⟨(ad.add (i.toNat * 12)).block, (ad.add (i.toNat * 12)).off + 7, none⟩ = some (.int .i64 (rd_T109 xs i).f0.f6.f1) ∧ w.cell? ⟨(ad.add (i.toNat * 12)).block, (ad.add (i.toNat * 12)).off + 8, none⟩ = some (.int .u64 (rd_T109 xs i).f0.f6.f2) ∧ w.cell? ⟨(ad.add (i.toNat * 12)).block, (ad.add (i.toNat * 12)).off + 9, none⟩ = some (.slice A9 (rd_T109 xs i).f0.f6.f3.length c9) ∧ w.cell? ⟨(ad.add (i.toNat * 12)).block, (ad.add (i.toNat * 12)).off + 10, none⟩ = some (.int .i64 (rd_T109 xs i).f1) ∧ w.cell? ⟨(ad.add (i.toNat * 12)).block, (ad.add (i.toNat * 12)).off + 11, none⟩ = some (.bool (rd_T109 xs i).f2) ∧ (rd_T109 xs i).f0.f4.length ≤ c4 ∧ k86.C w A4 (rd_T109 xs i).f0.f4.length (rd_T109 xs i).f0.f4 ∧ (rd_T109 xs i).f0.f5.length ≤ c5 ∧ Kd.string.C w A5 (rd_T109 xs i).f0.f5.length (rd_T109 xs i).f0.f5 ∧ (rd_T109 xs i).f0.f6.f3.length ≤ c9 ∧ k54.C w A9 (rd_T109 xs i).f0.f6.f3.length (rd_T109 xs i).f0.f6.f3 := by
  obtain ⟨ad, c, e, _, hK, hc0⟩ := Kd.C_get h z109 i h0 h1
  have hc : ∀ j u, c[j]? = some u → w.cell? (ad.add (i.toNat * 12 + j)) = some u := hc0
  obtain ⟨A4, c4, A5, c5, A9, c9, rfl, l4, g4, l5, g5, l9, g9⟩ := k109_open hK
  exact ⟨ad, A4, c4, A5, c5, A9, c9, e, hc 0 _ rfl, by rw [← add_field _ _ 1 (by omega)]; exact hc 1 _ rfl, by rw [← add_field _ _ 2 (by omega)]; exact hc 2 _ rfl, by rw [← add_field _ _ 3 (by omega)]; exact hc 3 _ rfl, by rw [← add_field _ _ 4 (by omega)]; exact hc 4 _ rfl, by rw [← add_field _ _ 5 (by omega)]; exact hc 5 _ rfl, by rw [← add_field _ _ 6 (by omega)]; exact hc 6 _ rfl, by rw [← add_field _ _ 7 (by omega)]; exact hc 7 _ rfl, by rw [← add_field _ _ 8 (by omega)]; exact hc 8 _ rfl, by rw [← add_field _ _ 9 (by omega)]; exact hc 9 _ rfl, by rw [← add_field _ _ 10 (by omega)]; exact hc 10 _ rfl, by rw [← add_field _ _ 11 (by omega)]; exact hc 11 _ rfl, l4, g4, l5, g5, l9, g9⟩

/-! #### struct type 79 -/
structure S79 where
  f0 : Int
  f1 : Int
def z79 : S79 := ⟨(0 : Int), (0 : Int)⟩
def k79 : Kd S79 := Kd.iso (Kd.pair (Kd.int .u64) (Kd.int .u64)) (fun x : S79 => (x.f0, x.f1))
theorem k79_open {w : World} {x : S79} {cs : List Value} (h : k79.K w x cs) : cs = [.int .u64 x.f0, .int .u64 x.f1] := by
  obtain ⟨_, _, rfl, rfl, rfl⟩ := h
  exact rfl
theorem k79_openM {w : World} {base : Nat} {ok : Nat → Prop} {x : S79} {cs : List Value} (h : k79.M w base ok x cs) : cs = [.int .u64 x.f0, .int .u64 x.f1] := by
  obtain ⟨_, _, rfl, rfl, rfl⟩ := h
  exact rfl
theorem k79_mk (w : World) (x : S79)  : k79.K w x [.int .u64 x.f0, .int .u64 x.f1] := ⟨[.int .u64 x.f0], [.int .u64 x.f1], rfl, rfl, rfl⟩
theorem k79_mkM (w : World) (base : Nat) (ok : Nat → Prop) (x : S79)  : k79.M w base ok x [.int .u64 x.f0, .int .u64 x.f1] := ⟨[.int .u64 x.f0], [.int .u64 x.f1], rfl, rfl, rfl⟩
theorem k79_mkF (W : World) (ok : Nat → Prop) (x : S79) : Kd.FK k79 W ok x [.int .u64 x.f0, .int .u64 x.f1] := fun W2 _ => k79_mk W2 x
def rd_T79 (xs : List S79) (i : Int) : S79 := xs.getD i.toNat z79
theorem at_T79 {w : World} {A : Option Addr} {n : Nat} {xs : List S79} (h : Kd.C k79 w A n xs) (i : Int) (h0 : 0 ≤ i) (h1 : i < n) : ∃ ad , A = some ad ∧ w.cell? (ad.add (i.toNat * 2)) = some (.int .u64 (rd_T79 xs i).f0) ∧ w.cell? ⟨(ad.add (i.toNat * 2)).block, (ad.add (i.toNat * 2)).off + 1, none⟩ = some (.int .u64 (rd_T79 xs i).f1) := by
  obtain ⟨ad, c, e, _, hK, hc0⟩ := Kd.C_get h z79 i h0 h1
  have hc : ∀ j u, c[j]? = some u → w.cell? (ad.add (i.toNat * 2 + j)) = some u := hc0
  obtain rfl := k79_open hK
  exact ⟨ad, e, hc 0 _ rfl, by rw [← add_field _ _ 1 (by omega)]; exact hc 1 _ rfl⟩

end Go.Proofs.Ytiibjgnmdieicaa.G
