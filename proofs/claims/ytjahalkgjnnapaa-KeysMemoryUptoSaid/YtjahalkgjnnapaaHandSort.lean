/- slices.Sorted over slices.Values, at strings: a new slice that holds the same texts in order; nothing that lay before turns. For every slice of fewer than 2^40 texts, nil and empty too. -/
import Derived.RangeFuncBox
import Derived.RangeFuncLeaves
import Derived.Shelf.Abstract
import Derived.WalkKit
import Derived.OwnWalkIn
import Derived.TacticsInMore
import Derived.LoopNIn
import Derived.LoopIn
import Derived.Maps.AppendAt
import Derived.Lib.Hide
import Derived.Sort.OwnSorted
import Derived.Test.YtjahalkgjnnapaaWWords
import Derived.Test.YtjahalkgjnnapaaShelf
namespace Go.Proofs.Ytjahalkgjnnapaa.Hand
open Go.RowKit Go.Shelf Go.Sort Go.Maps Go.Proofs.YtjahalkgjnnapaaW.PrintWords

attribute [local go_sem] Oper.semAt_some

def upto {α : Type} (f : Nat → α) (k : Nat) : List α := (List.range k).map f
theorem upto_succ {α : Type} (f : Nat → α) (k : Nat) : upto f (k + 1) = upto f k ++ [f k] := by simp [upto, List.range_succ]
theorem upto_length {α : Type} (f : Nat → α) (k : Nat) : (upto f k).length = k := by simp [upto]
theorem upto_all (zs : List ByteArray) : upto (fun j => zs[j]?.getD ByteArray.empty) zs.length = zs := by
  apply List.ext_getElem
  · simp [upto]
  · intro i h1 h2
    simp [upto, h2]
theorem upto_take (zs : List ByteArray) {k : Nat} (hk : k ≤ zs.length) : upto (fun j => zs[j]?.getD ByteArray.empty) k = zs.take k := by
  apply List.ext_getElem
  · simp [upto, hk]
  · intro i h1 h2
    have : i < zs.length := by simp [upto] at h1; omega
    simp [upto, this]

/-- the slice value sv holds the texts zs, in a block below n₀; or there are none. -/
def Strs (n₀ : Nat) (W : World) (sv : Value) (zs : List ByteArray) : Prop :=
  ∃ A cap, sv = .slice A zs.length cap ∧ (0 < zs.length → ∃ ad : Addr, A = some ad ∧ ad.block < n₀ ∧ ∀ j, j < zs.length → W.cell? (ad.add j) = some (.string (zs[j]?.getD ByteArray.empty)))
theorem Strs.below {n₀ : Nat} {A B : World} (h : Below n₀ A B) {sv : Value} {zs : List ByteArray} : Strs n₀ A sv zs → Strs n₀ B sv zs
  | ⟨a, cap, e, hc⟩ => ⟨a, cap, e, fun hp => by
    obtain ⟨ad, ha, hb, hj⟩ := hc hp
    exact ⟨ad, ha, hb, fun j hl => (h.cell (p := ad.add j) (by rw [show (ad.add j).block = ad.block from by unfold Addr.add; split <;> rfl]; exact hb)).trans (hj j hl)⟩⟩

set_option maxRecDepth 100000 in
set_option maxHeartbeats 2000000 in
theorem values1_in (F : Fence) (n : Nat) (h7 : F.fn 52) (hro : F.round = none) (hn : 1 ≤ n) (l Bs n₀ cap : Nat) (A : Option Addr) (zs : List ByteArray) (hreach : zs.length ≤ 9223372036854775807) (J Jx : List ByteArray → World → Prop)
    (hY : ∀ pre x W, J pre W → pre.length < zs.length → YieldAt F (n - 1) Try.prog l #[.string x] W fun e W' =>
      (e = .returned (.bool true) ∧ J (pre ++ [x]) W' ∧ Below n₀ W W') ∨ (e = .returned (.bool false) ∧ Jx (pre ++ [x]) W'))
    (W : World) (hBs : W.cell? ⟨Bs, 0, none⟩ = some (.slice A zs.length cap)) (hc : 0 < zs.length → ∃ ad : Addr, A = some ad ∧ ad.block < n₀ ∧ ∀ j, j < zs.length → W.cell? (ad.add j) = some (.string (zs[j]?.getD ByteArray.empty))) (h0 : J [] W) :
    CallsIn F n Try.prog 52 #[.func (.yield l) #[] #[], .pointer (some ⟨Bs, 0, none⟩)] W fun e W' => (∃ v, e = .returned v) ∧
      ((∃ ys, ys = upto (fun j => zs[j]?.getD ByteArray.empty) zs.length ∧ J ys W') ∨ (∃ pre, (∃ k, k ≤ zs.length ∧ pre = upto (fun j => zs[j]?.getD ByteArray.empty) k) ∧ Jx pre W')) := by
  have hc := Lib.hid hc
  refine callsIn_of_wp Try.func52 rfl h7 ?_ hro
  simp only [Try.ntmps52, List.size_toArray, List.length_cons, List.length_nil, Nat.reduceAdd, Nat.reduceSub, Array.replicate_succ, Array.replicate_zero, List.push_toArray, List.append_toArray, List.nil_append, List.cons_append]
  gi_wp2
  gi_loopw [7] (fun i wr => ∃ k : Nat, k ≤ zs.length ∧ i = .int .i64 k ∧ J (upto (fun j => zs[j]?.getD ByteArray.empty) k) wr ∧ Below n₀ W wr)
    (fun i _ => zs.length - (intOf i).toNat)
  case atStart => exact ⟨0, Nat.zero_le _, rfl, h0, Below.refl _ _⟩
  case round =>
    obtain ⟨k, hk, rfl, hJs, hnx⟩ := hrel
    by_cases hlt : k < zs.length
    · obtain ⟨ad, rfl, hb, hcc⟩ := hc.out (by omega)
      have he : zs[k]?.getD ByteArray.empty = zs[k] := by simp [hlt]
      replace he := Lib.hid he
      obtain ⟨fn, tmps, assign, body, hy, hR⟩ := hY _ zs[k] wr hJs (by rw [upto_length]; exact hlt)
      have hcx' : wr.cell? (ad.add k) = some (.string zs[k]) := by rw [← he.out]; exact (hnx.cell (p := ad.add k) (by rw [show (ad.add k).block = ad.block from by unfold Addr.add; split <;> rfl]; exact hb)).trans (hcc k hlt)
      clear hcc
      gi_wp2
      refine hR.mono ?_
      rintro e W3 (⟨rfl, hJ3, hk3⟩ | ⟨rfl, hJx3⟩)
      · gi_wp2
        go_roundw
        case rel => exact ⟨k + 1, by omega, by simp, by rw [upto_succ, he.out]; exact hJ3, hnx.trans hk3⟩
        case measure => simp [intOf]; omega
      · gi_wp2
        refine bodyPost_ret (results_none rfl _ _ _) rfl ?_
        exact ⟨⟨_, rfl⟩, .inr ⟨_, ⟨k + 1, by omega, by rw [upto_succ, he.out]⟩, hJx3⟩⟩
    · obtain rfl : k = zs.length := by omega
      gi_wp2
      go_end0
      exact ⟨⟨_, rfl⟩, .inl ⟨_, rfl, hJs⟩⟩

set_option maxHeartbeats 1000000 in
theorem values_in (F : Fence) (n : Nat) (h5 : F.fn 36) (hro : F.round = none) (a : Option Addr) (len cap : Nat) (w : World) :
    CallsIn F n Try.prog 36 #[.slice a len cap] w fun e w' => e = .returned (.func (.func 52) #[] #[.pointer (some ⟨w.heap.size, 0, none⟩)]) ∧ w' = w.alloc (.cells #[.slice a len cap] 22) := by
  refine callsIn_of_wp Try.func36 rfl h5 ?_ hro
  simp only [Try.ntmps36, List.size_toArray, List.length_cons, List.length_nil, Nat.reduceAdd, Nat.reduceSub, Array.replicate_succ, Array.replicate_zero, List.push_toArray, List.append_toArray, List.nil_append, List.cons_append]
  gi_wp2
  go_ret
  exact ⟨rfl, rfl⟩

theorem values_stops (F : Fence) (n : Nat) (h7 : F.fn 52) (hro : F.round = none) (hn : 1 ≤ n) (Bs n₀ : Nat) (sv : Value) (zs : List ByteArray) (hreach : zs.length ≤ 9223372036854775807) (w : World) (hBs : Bs < w.heap.size) (hn₀ : n₀ ≤ w.heap.size)
    (hc : w.cell? ⟨Bs, 0, none⟩ = some sv) (hI : Strs n₀ w sv zs) :
    SeqStopsK F n Try.prog 52 #[.pointer (some ⟨Bs, 0, none⟩)] (fun x : ByteArray => #[Value.string x]) (Below n₀) (fun ys => ys = zs) (fun pre => pre <+: zs) zs.length w := fun l J Jx W hW _ _ hY h0 => by
  have hc' := (hW.cell (p := ⟨Bs, 0, none⟩) hBs).trans hc
  obtain ⟨A, cap, rfl, hcs⟩ := hI.below (hW.mono hn₀)
  refine (values1_in F n h7 hro hn l Bs n₀ cap A zs hreach J Jx hY W hc' hcs h0).mono ?_
  rintro e W' ⟨he, ⟨ys, rfl, hj⟩ | ⟨pre, ⟨k, hk, rfl⟩, hj⟩⟩
  · exact ⟨he, .inl ⟨_, upto_all zs, hj⟩⟩
  · exact ⟨he, .inr ⟨_, by rw [upto_take zs hk]; exact List.take_prefix _ _, hj⟩⟩

theorem info9 : (Try.prog.info? 9).map (fun i => (i.zero, i.size, i.bytes)) = some (some (.string ByteArray.empty), 1, 16) := by kernel_rfl

set_option maxRecDepth 100000 in
set_option maxHeartbeats 2000000 in
/-- slices.AppendSeq(nil, slices.Values(zs)) -/
theorem appendSeq_in (F : Fence) (n : Nat) (h58 : F.fn 58) (h52 : F.fn 52) (hro : F.round = none) (hn : 2 ≤ n) (Bs : Nat) (sv : Value) (zs : List ByteArray) (hlen : zs.length ≤ 1099511627776) (w : World) (hBs : Bs < w.heap.size)
    (hc : w.cell? ⟨Bs, 0, none⟩ = some sv) (hI : Strs w.heap.size w sv zs) :
    CallsIn F n Try.prog 58 #[.slice none 0 0, .func (.func 52) #[] #[.pointer (some ⟨Bs, 0, none⟩)]] w fun e W' => ∃ v, e = .returned v ∧ W'.ownsRow w.heap.size 9 1 v zs.length (zs.map Value.string) ∧ (v = .slice none 0 0 ↔ zs = []) ∧ Below w.heap.size w W' := by
  have h1 : 1 ≤ n := by omega
  obtain ⟨i0, hi, hz0, hz1, hz2⟩ := info_parts info9
  refine callsIn_of_wp_marks Try.func58 rfl h58 ?_ hro
  simp only [Try.ntmps58, List.size_toArray, List.length_cons, List.length_nil, Nat.reduceAdd, Nat.reduceSub, Array.replicate_succ, Array.replicate_zero, List.push_toArray, List.append_toArray, List.nil_append, List.cons_append]
  gi_wp2
  have bO := Boxed.new w 22 (.slice none 0 0)
  have hB0 : Below w.heap.size w (w.alloc (.cells #[.slice none 0 0] 22)) := (Below.refl _ w).alloc (Nat.le_refl _) _
  refine wpIn_rangeFunc_ownG hro h1 (gf := 52) (lb := #[.pointer (some ⟨Bs, 0, none⟩)]) rfl h52 (enters_of Try.func52 (by kernel_rfl) rfl)
    (values_stops F (n - 1) h52 hro (by omega) Bs w.heap.size sv zs (by omega) _ (by simp; omega) (by simp) ((hB0.cell (p := ⟨Bs, 0, none⟩) hBs).trans hc) (hI.below hB0)) belowK_t (belowK_b (by simp)) (Below.refl _ _) (fun _ => rfl)
    (fun pre W => (∃ v, Boxed W w.heap.size 22 v ∧ W.ownsRow w.heap.size 9 1 v pre.length (pre.map Value.string) ∧ (v = .slice none 0 0 ↔ pre = [])) ∧ Below w.heap.size w W)
    (fun _ _ _ => False)
    (OwnFrom.and (Own.from (holdsRow_own w.heap.size w.heap.size 22 9 1 (fun pre => pre.length) (fun pre => pre.map Value.string) (fun pre v => v = .slice none 0 0 ↔ pre = [])) _) (ownFrom_below (Nat.le_refl _) (by simp)))
    (fun _ _ _ _ _ hs _ _ => hs)
    ⟨⟨_, bO, World.ownsRow_nil _ _ _ _, by simp⟩, hB0⟩
    (fun x => { tmps := #[.slice none 0 0, .func (.func 52) #[] #[.pointer (some ⟨Bs, 0, none⟩)], .pointer (some ⟨w.heap.size, 0, none⟩), undef, .slice none 0 0, .string x, .func (.func 52) #[] #[.pointer (some ⟨Bs, 0, none⟩)], .string x, undef, undef, undef, undef, undef], defers := [] }) ?assign ?body ?done ?stop
  case assign =>
    intro l x W K hK
    gi_wp2
    exact hK
  case body =>
    rintro l pre x W ⟨⟨v, hv, hrow, hnil⟩, hB⟩ hlt
    have hc := hv.cell
    gi_wp2_with (gi_at_builtin; refine wpListIn_append_own _ rfl _ _ 22 rfl w.heap.size 9 i0 (.string ByteArray.empty) 1 16 Try.underlying22 hi hz0 hz1 hz2 rfl (by decide) _ _ _ rfl (hrow.alloc _) ⟨W.heap.size, 0, none⟩ 1 1 [.string x] rfl rfl (cell_one_new _ _ _) (by simp [Value.oneCell']) (by unfold maxLen; omega) (by omega) (by have := hB.size; simp; omega) ?_; intro v' w1 hown' hgrow _; obtain ⟨g', cap', rfl⟩ := ownsRow_succ hown'; obtain ⟨hv1, hv2, hr2, hk2, hb2⟩ := hv.appended (by decide) hrow hB.size (Nat.le_refl _) hown' hgrow; have hc1 := hv1.cell; have hf1 := hv1.frozen)
    exact ⟨hk2.from _, hb2, ⟨_, hv2, by simpa using hr2, by simp⟩, hB.trans hb2⟩
  case done =>
    rintro D ys W hD rfl ⟨⟨v, hv, hrow, hnil⟩, hB⟩ hK
    have hc := hv.cell
    gi_wp2
    refine ⟨by simp, .inl ⟨_, _, rfl, run_takeDeferred hK, ?_⟩⟩
    exact ⟨_, results_tmp rfl _ _ _, v, rfl, ownsRow_putObj hrow _ hK rfl, hnil, hB.trans (belowK_b (w := w) (Nat.le_refl _) W D _ _ (by simp at hD; omega) hK rfl rfl)⟩
  case stop =>
    rintro D c pre W _ _ h _
    exact h.elim

set_option maxHeartbeats 1000000 in
theorem collect_in (F : Fence) (n : Nat) (h50 : F.fn 50) (h58 : F.fn 58) (h52 : F.fn 52) (hro : F.round = none) (hn : 3 ≤ n) (Bs : Nat) (sv : Value) (zs : List ByteArray) (hlen : zs.length ≤ 1099511627776) (w : World) (hBs : Bs < w.heap.size)
    (hc : w.cell? ⟨Bs, 0, none⟩ = some sv) (hI : Strs w.heap.size w sv zs) :
    CallsIn F n Try.prog 50 #[.func (.func 52) #[] #[.pointer (some ⟨Bs, 0, none⟩)]] w fun e W' => ∃ v, e = .returned v ∧ W'.ownsRow w.heap.size 9 1 v zs.length (zs.map Value.string) ∧ (v = .slice none 0 0 ↔ zs = []) ∧ Below w.heap.size w W' := by
  have h1 : 1 ≤ n := by omega
  refine callsIn_of_wp Try.func50 rfl h50 ?_ hro
  simp only [Try.ntmps50, List.size_toArray, List.length_cons, List.length_nil, Nat.reduceAdd, Nat.reduceSub, Array.replicate_succ, Array.replicate_zero, List.push_toArray, List.append_toArray, List.nil_append, List.cons_append]
  gi_wp2_with (gi_at_call 58; refine (appendSeq_in F (n - 1) h58 h52 hro (by omega) Bs sv zs hlen _ hBs hc hI).mono ?_; rintro e W ⟨v, rfl, hrow, hnil, hb⟩)
  go_ret
  exact ⟨v, rfl, hrow, hnil, hb⟩

/-- the texts in order -/
def strOf (l : List UInt8) : ByteArray := ⟨l.toArray⟩
def txt (x : ByteArray) : List UInt8 := x.data.toList
def sorted (zs : List ByteArray) : List ByteArray := ((zs.map txt).mergeSort fun x y => decide (x ≤ y)).map strOf
theorem strOf_txt (x : ByteArray) : strOf (txt x) = x := by cases x; simp [strOf, txt]
theorem map_enc (zs : List ByteArray) : (zs.map txt).map encStr = zs.map Value.string := by
  rw [List.map_map]
  exact List.map_congr_left fun x _ => by show Value.string (strOf (txt x)) = _; rw [strOf_txt]
theorem map_strOf (l : List (List UInt8)) : (l.map strOf).map Value.string = l.map encStr := by
  rw [List.map_map]; rfl
theorem sorted_length (zs : List ByteArray) : (sorted zs).length = zs.length := by simp [sorted]

/-- what a slice of texts reads as, below the heap's end -/
theorem strs_of_C {w : World} {A : Option Addr} {c : Nat} {zs : List ByteArray} (h : Kd.C Kd.string w A zs.length zs) : Strs w.heap.size w (.slice A zs.length c) zs := by
  have hr := Kd.reads_of_C (d := ByteArray.empty) h
  refine ⟨A, c, rfl, fun hp => ?_⟩
  obtain ⟨ad, ha, hc⟩ := hr.2.2 hp
  have hj : ∀ j, j < zs.length → w.cell? (ad.add j) = some (.string (zs[j]?.getD ByteArray.empty)) := fun j hl => by
    have := hc j hl
    rw [this]
    simp [List.getD_eq_getElem?_getD]
  refine ⟨ad, ha, ?_, hj⟩
  have := World.block_lt_of_cell? w _ (hj 0 hp)
  rwa [show (ad.add 0).block = ad.block from by unfold Addr.add; split <;> rfl] at this

theorem values_any (a : Option Addr) (len cap : Nat) (w : World) :
    Calls Try.prog 36 #[.slice a len cap] w fun e w' => e = .returned (.func (.func 52) #[] #[.pointer (some ⟨w.heap.size, 0, none⟩)]) ∧ w.alloc (.cells #[.slice a len cap] 22) = w' :=
  (callsIn_wide (n := 5)).1 ((values_in Fence.wide 5 trivial rfl a len cap w).mono fun _ _ ⟨h, k⟩ => ⟨h, k.symm⟩)

set_option maxRecDepth 100000 in
set_option maxHeartbeats 2000000 in
/-- slices.Sorted(slices.Values(zs)), the second call -/
theorem sorted_any (Bs : Nat) (sv : Value) (zs : List ByteArray) (hlen : zs.length ≤ 1099511627776) (w : World) (hBs : Bs < w.heap.size)
    (hc : w.cell? ⟨Bs, 0, none⟩ = some sv) (hI : Strs w.heap.size w sv zs) :
    Calls Try.prog 35 #[.func (.func 52) #[] #[.pointer (some ⟨Bs, 0, none⟩)]] w fun e w' => ∃ v, e = .returned v ∧ Kd.R Kd.string 9 w' w.heap.size (fun _ => True) v (sorted zs) ∧ Below w.heap.size w w' := by
  have hcol : ∀ W : World, W = w → Calls Try.prog 50 #[.func (.func 52) #[] #[.pointer (some ⟨Bs, 0, none⟩)]] W fun e W' => ∃ v, e = .returned v ∧ W'.ownsRow w.heap.size 9 1 v zs.length (zs.map Value.string) ∧ (v = .slice none 0 0 ↔ zs = []) ∧ Below w.heap.size w W' := by
    rintro W rfl
    exact (callsIn_wide (n := 6)).1 (collect_in Fence.wide 6 trivial trivial trivial rfl (by omega) Bs sv zs hlen W hBs hc hI)
  have hcol := hcol w rfl
  clear hc hI
  go_enter Try.func35, Try.ntmps35
  go_wp2_with fail
  refine hcol.mono ?_
  rintro e W ⟨v, rfl, hrow, hnil, hb⟩
  rcases hrow.2 with ⟨rfl, hz⟩ | ⟨gb, cap, cur, rfl, hbase, hgb, r1, r2, r3, r4⟩
  · have hss : zs = [] := List.eq_nil_of_length_eq_zero hz
    subst hss
    clear hnil hcol
    go_wp2_with fail
    refine (Try.slices_Sort_string_none none 0 W).mono ?_
    rintro e w' ⟨rfl, rfl⟩
    go_wp2
    go_ret
    exact ⟨.slice none 0 0, rfl, by rw [show sorted [] = [] from by simp [sorted]]; exact Kd.R_nil _ _ _ _ _, hb⟩
  · have hH : Holds encStr W gb 0 (zs.map txt).toArray := holds_of_block hgb (by rw [map_enc]; simpa using r4)
    have hgl : gb < W.heap.size := (Array.getElem?_eq_some_iff.1 hgb).1
    have hsz : (zs.map txt).length < 4611686018427387904 := by simp; omega
    have cS := Try.slices_Sort_string gb 0 cap (zs.map txt) W hH hgl hsz
    rw [List.length_map] at cS
    have hfin := Lib.hid (fun (nn : Nat) (os : Array Obj) => ownsRow_sorted (w := W) (base := w.heap.size) (e := 9) (g := gb) (cap := cap) (cur := cur) (n := nn) (os := os) (ss := zs.map txt) (ts := (zs.map txt).mergeSort fun x y => decide (x ≤ y)) (by simp) hbase hgb (by simpa using r1) r2 (by simpa using r3))
    clear hcol hH
    go_wp2_with fail
    refine cS.mono ?_
    rintro e w' ⟨rfl, nn, os, rfl⟩
    go_wp2
    go_ret
    refine ⟨_, rfl, Kd.R_of_own ?_ (fun _ _ => trivial), hb.grown (grownBy_sorted _) hb.size (fun j hj => by cases hj; exact hbase)⟩
    have := hfin.out nn os
    rw [sorted_length, encs]
    rw [sorted, map_strOf]
    simpa using this
end Go.Proofs.Ytjahalkgjnnapaa.Hand
