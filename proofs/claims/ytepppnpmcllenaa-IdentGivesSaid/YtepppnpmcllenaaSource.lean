/- A source's calls, of package ident and of its reference: what each does to the source's three cells. -/
import Derived.Test.YtepppnpmcllenaaWalks
import Derived.StillTailTactics
import Derived.Deep.RegionHeld3
import Derived.RegionTactic
import Derived.LaidEqlPtr
namespace Go.Proofs.Ytepppnpmcllenaa
open Go.RowKit

theorem quiet_left {P : Program} {f : FuncId} {args : Array Value} {w : World} {n : Nat} {v : Value}
    (h : Calls P f args (w.drewN n) fun e w' => e = .returned v ∧ w.drewN n = w') : Calls P f args (w.drewN n) fun e w'' => e = .returned v ∧ ∃ m, w'' = w.drewN m :=
  h.mono fun _ _ ⟨he, hm⟩ => ⟨he, n, hm.symm⟩

def first1 (n : Int) : Int := if n < 1 then 1 else n
theorem first1_lo {n : Int} (h : n < 1) : first1 n = 1 := if_pos h
theorem first1_hi {n : Int} (h : ¬ n < 1) : first1 n = n := if_neg h
theorem laid_eq {w : World} {c a b l : Int} {t : TypeId} (h : a = b) : w.alloc (.cells #[.int .i64 c, .int .u64 a, .int .u64 l] t) = w.alloc (.cells #[.int .i64 c, .int .u64 b, .int .u64 l] t) := by rw [h]

set_option maxHeartbeats 400000 in
theorem of_ok (c n : Int) (w : World) (h0 : 0 ≤ c) (h1 : c ≤ 65535) (h2 : 0 ≤ n) (h3 : n ≤ 281474976710655) :
    Calls Try.prog 8 #[.int .i64 c, .int .u64 n] w fun e w' => e = .returned (.tuple #[.pointer (some ⟨w.heap.size, 0, none⟩), .int .i64 0]) ∧ w.alloc (.cells #[.int .i64 c, .int .u64 (first1 n), .int .u64 0] 56) = w' := by
  by_cases h : n < 1
  · have hf := Lib.hid (first1_lo h)
    go_enter Try.func8, Try.ntmps8
    go_wp2_with (go_at_call 20; refine (isClient_yes _ _ (by omega) (by omega)).mono ?_; rintro e w' ⟨rfl, rfl⟩)
    go_ret2
    exact ⟨rfl, laid_eq hf.out⟩
  · have hf := Lib.hid (first1_hi h)
    go_enter Try.func8, Try.ntmps8
    go_wp2_with (go_at_call 20; refine (isClient_yes _ _ (by omega) (by omega)).mono ?_; rintro e w' ⟨rfl, rfl⟩)
    go_ret2
    exact ⟨rfl, laid_eq hf.out⟩
set_option maxHeartbeats 400000 in
theorem of_no (c n : Int) (w : World) (h : ¬ (0 ≤ c ∧ c ≤ 65535 ∧ n ≤ 281474976710655)) :
    Calls Try.prog 8 #[.int .i64 c, .int .u64 n] w fun e w' => e = .returned (.tuple #[.pointer none, .int .i64 1]) ∧ w = w' := by
  by_cases hc : c < 0 ∨ 65535 < c
  · have hC := Lib.hid (fun w => isClient_no c w hc)
    clear hc h
    go_enter Try.func8, Try.ntmps8
    go_wp2_with (go_at_call 20; refine (hC.out _).mono ?_; rintro e w' ⟨rfl, rfl⟩)
    go_ret2
    exact ⟨rfl, rfl⟩
  · have hC := Lib.hid (fun w => isClient_yes c w (by omega) (by omega))
    have hn : 281474976710655 < n := by omega
    clear hc h
    go_enter Try.func8, Try.ntmps8
    go_wp2_with (go_at_call 20; refine (hC.out _).mono ?_; rintro e w' ⟨rfl, rfl⟩)
    go_ret2
    exact ⟨rfl, rfl⟩
set_option maxHeartbeats 400000 in
theorem rof_ok (c n : Int) (w : World) (h0 : 0 ≤ c) (h1 : c ≤ 65535) (h2 : 0 ≤ n) (h3 : n ≤ 281474976710655) :
    Calls Try.prog 9 #[.int .i64 c, .int .u64 n] w fun e w' => e = .returned (.tuple #[.pointer (some ⟨w.heap.size, 0, none⟩), .int .i64 0]) ∧ w.alloc (.cells #[.int .i64 c, .int .u64 (first1 n), .int .u64 0] 58) = w' := by
  by_cases h : n < 1
  · obtain rfl : n = 0 := by omega
    have hf := Lib.hid (first1_lo (n := 0) h)
    clear h h2 h3
    go_enter Try.func9, Try.ntmps9
    go_wp2
    go_ret2
    exact ⟨rfl, laid_eq hf.out⟩
  · have hf := Lib.hid (first1_hi h)
    have hn : (n == 0) = false := by simp; omega
    go_enter Try.func9, Try.ntmps9
    go_wp2
    go_ret2
    exact ⟨rfl, laid_eq hf.out⟩
set_option maxHeartbeats 400000 in
theorem rof_no (c n : Int) (w : World) (h : ¬ (0 ≤ c ∧ c ≤ 65535 ∧ n ≤ 281474976710655)) :
    Calls Try.prog 9 #[.int .i64 c, .int .u64 n] w fun e w' => e = .returned (.tuple #[.pointer none, .int .i64 1]) ∧ w = w' := by
  by_cases hc : c < 0
  · clear h
    go_enter Try.func9, Try.ntmps9
    go_wp2
    go_ret2
    exact ⟨rfl, rfl⟩
  by_cases hc1 : 65535 < c
  · clear h
    go_enter Try.func9, Try.ntmps9
    go_wp2
    go_ret2
    exact ⟨rfl, rfl⟩
  · have hn : 281474976710655 < n := by omega
    clear h
    go_enter Try.func9, Try.ntmps9
    go_wp2
    go_ret2
    exact ⟨rfl, rfl⟩

/-- Block g alone has turned, into this source. -/
def Turned (w : World) (g : Nat) (t : TypeId) (c n l : Int) (w' : World) : Prop := Blk w' g t #[.int .i64 c, .int .u64 n, .int .u64 l] ∧ w.grownBy w' (some g) ∧ w'.heap.size = w.heap.size

theorem turned_two {w : World} {g : Nat} {t : TypeId} {c n l a b : Int} (h : Blk w g t #[.int .i64 c, .int .u64 n, .int .u64 l]) (q : Nat) :
    Turned w g t c a b (((w.drewN q).setCell ⟨g, 1, none⟩ (.int .u64 a)).setCell ⟨g, 2, none⟩ (.int .u64 b)) := by
  refine ⟨by simpa using ((h.drewN q).set_ 1 (.int .u64 a)).set_ 2 (.int .u64 b), ?_, by simp [World.setCell]⟩
  exact only_setCell (p := ⟨g, 2, none⟩) (only_setCell (p := ⟨g, 1, none⟩) (only_drewN (World.grownBy.refl w _) q) (.inl rfl) _) (.inl rfl) _
theorem turned_too {w : World} {g : Nat} {t : TypeId} {c n l a b : Int} (h : Blk w g t #[.int .i64 c, .int .u64 n, .int .u64 l]) :
    Turned w g t c a b (((w.setCell ⟨g, 2, none⟩ (.int .u64 b)).setCell ⟨g, 1, none⟩ (.int .u64 a)).drew) := by
  refine ⟨by simpa using ((h.set_ 2 (.int .u64 b)).set_ 1 (.int .u64 a)).drew, ?_, by simp [World.setCell]⟩
  exact only_drew (only_setCell (p := ⟨g, 1, none⟩) (only_setCell (p := ⟨g, 2, none⟩) (World.grownBy.refl w _) (.inl rfl) _) (.inl rfl) _)
set_option maxHeartbeats 400000 in
theorem next_ok (g : Nat) (c n l : Int) (w : World) (hs : Src w g c n l) (h0 : 0 ≤ c) (h1 : c ≤ 65535) (h2 : 1 ≤ n) (h3 : n ≤ 281474976710655) :
    Calls Try.prog 10 #[.pointer (some ⟨g, 0, none⟩)] w fun e w' => e = .returned (.tuple #[.int .u64 (n * 65536 + c), .int .i64 0]) ∧ Turned w g 56 c (n + 1) (n * 65536 + c) w' := by
  have l0 := hs.cell 0
  have l1 := hs.cell 1
  have l2 := hs.cell 2
  have f1 := hs.frozen 1
  have f2 := hs.frozen 2
  have hlt := hs.lt
  have HS := Lib.hid hs
  clear hs
  simp at l0 l1 l2
  go_enter Try.func10, Try.ntmps10
  go_wp2
  go_quiet ((go_at_call 16; exact quiet_left (make_ok _ _ _ (by omega) (by omega) (by omega) (by omega))))
  go_wp2
  go_ret2
  exact ⟨rfl, turned_two HS.out nq⟩
set_option maxHeartbeats 400000 in
theorem next_end (g : Nat) (c n l : Int) (w : World) (hs : Src w g c n l) (h : 281474976710655 < n) :
    Calls Try.prog 10 #[.pointer (some ⟨g, 0, none⟩)] w fun e w' => e = .returned (.tuple #[.int .u64 0, .int .i64 30]) ∧ ∃ q, w' = w.drewN q := by
  have l0 := hs.cell 0
  have l1 := hs.cell 1
  clear hs
  simp at l0 l1
  go_enter Try.func10, Try.ntmps10
  go_wp2
  go_quiet ((go_at_call 16; exact quiet_left (make_seq _ _ _ (Or.inr h))))
  go_wp2
  go_ret2
  exact ⟨rfl, _, rfl⟩
set_option maxHeartbeats 1500000 in
theorem rnext_ok (g : Nat) (c n l : Int) (w : World) (hs : RSrc w g c n l) (h0 : 0 ≤ c) (h1 : c ≤ 65535) (h2 : 1 ≤ n) (h3 : n ≤ 281474976710655) :
    Calls Try.prog 11 #[.pointer (some ⟨g, 0, none⟩)] w fun e w' => e = .returned (.tuple #[.int .u64 (n * 65536 + c), .int .i64 0]) ∧ Turned w g 58 c (n + 1) (n * 65536 + c) w' := by
  have l0 := hs.cell 0
  have l1 := hs.cell 1
  have l2 := hs.cell 2
  have f1 := hs.frozen 1
  have f2 := hs.frozen 2
  have hlt := hs.lt
  have HS := Lib.hid hs
  clear hs
  simp at l0 l1 l2
  go_enter Try.func11, Try.ntmps11
  go_wp2
  go_region_with (go_at_call 17; refine (rmake_ok _ _ _ (by omega) (by omega) (by omega) (by omega)).mono ?_; rintro e w' ⟨rfl, rfl⟩)
  all_goals go_wp2
  all_goals go_ret2
  all_goals exact ⟨rfl, turned_too HS.out⟩
set_option maxHeartbeats 400000 in
theorem rnext_end (g : Nat) (c n l : Int) (w : World) (hs : RSrc w g c n l) (h : 281474976710655 < n) :
    Calls Try.prog 11 #[.pointer (some ⟨g, 0, none⟩)] w fun e w' => e = .returned (.tuple #[.int .u64 0, .int .i64 30]) ∧ w = w' := by
  have l1 := hs.cell 1
  clear hs
  simp at l1
  go_enter Try.func11, Try.ntmps11
  go_wp2
  go_ret2
  exact ⟨rfl, rfl⟩
set_option maxHeartbeats 400000 in
theorem last_any (g : Nat) (c n l : Int) (w : World) (hs : Src w g c n l) :
    Calls Try.prog 12 #[.pointer (some ⟨g, 0, none⟩)] w fun e w' => e = .returned (.int .u64 l) ∧ w = w' := by
  have l2 := hs.cell 2
  clear hs
  simp at l2
  go_enter Try.func12, Try.ntmps12
  go_wp2
  go_ret
  exact ⟨rfl, rfl⟩
set_option maxHeartbeats 400000 in
theorem rlast_any (g : Nat) (c n l : Int) (w : World) (hs : RSrc w g c n l) :
    Calls Try.prog 13 #[.pointer (some ⟨g, 0, none⟩)] w fun e w' => e = .returned (.int .u64 l) ∧ w = w' := by
  have l2 := hs.cell 2
  clear hs
  simp at l2
  go_enter Try.func13, Try.ntmps13
  go_wp2
  go_ret
  exact ⟨rfl, rfl⟩
set_option maxHeartbeats 400000 in
theorem left_any (g : Nat) (c n l : Int) (w : World) (hs : Src w g c n l) (h0 : 0 ≤ n) (h1 : n ≤ 281474976710656) :
    Calls Try.prog 14 #[.pointer (some ⟨g, 0, none⟩)] w fun e w' => e = .returned (.int .u64 (281474976710656 - n)) ∧ w = w' := by
  have l1 := hs.cell 1
  clear hs
  simp at l1
  go_enter Try.func14, Try.ntmps14
  go_wp2
  go_ret
  exact ⟨rfl, rfl⟩
set_option maxHeartbeats 400000 in
theorem rleft_any (g : Nat) (c n l : Int) (w : World) (hs : RSrc w g c n l) (h0 : 0 ≤ n) (h1 : n ≤ 281474976710656) :
    Calls Try.prog 15 #[.pointer (some ⟨g, 0, none⟩)] w fun e w' => e = .returned (.int .u64 (281474976710656 - n)) ∧ w = w' := by
  have l1 := hs.cell 1
  clear hs
  simp at l1
  go_enter Try.func15, Try.ntmps15
  go_wp2
  go_ret
  exact ⟨rfl, rfl⟩

theorem alive_true (w : World) : Calls Try.prog 7 #[] w fun e w' => e = .returned (.bool true) ∧ Below w.heap.size w w' := by
  have hq : ∀ (p : Addr) (W : World), (binOp .eql 27 (.pointer (some p)) (.pointer none)).run Try.prog W = .ok (.bool false) W := fun _ _ => by kernel_rfl
  go_enter Try.func7, Try.ntmps7
  go_wp2_with fail
  refine (make_ok _ _ _ (by omega) (by omega) (by omega) (by omega)).mono ?_
  rintro e w' ⟨rfl, rfl⟩
  go_wp2_with fail
  refine (of_ok _ _ _ (by omega) (by omega) (by omega) (by omega)).mono ?_
  rintro e w1 ⟨rfl, rfl⟩
  have hs : Src (w.alloc (.cells #[.int .i64 2, .int .u64 (first1 0), .int .u64 0] 56)) w.heap.size 2 (first1 0) 0 := Blk.new _ _ _
  rw [show first1 0 = 1 from rfl] at *
  go_wp2_with fail
  refine (next_ok _ _ _ _ _ hs (by omega) (by omega) (by omega) (by omega)).mono ?_
  rintro e w2 ⟨rfl, ht⟩
  have HT := Lib.hid ht
  clear ht
  go_wp2_with fail
  refine (last_any _ _ _ _ _ HT.out.1).mono ?_
  rintro e w3 ⟨rfl, rfl⟩
  go_wp2
  go_ret
  exact ⟨rfl, ((Below.refl _ _).alloc (Nat.le_refl _) _).grown HT.out.2.1 (by simp) (fun k e => by cases e; simp)⟩
end Go.Proofs.Ytepppnpmcllenaa
