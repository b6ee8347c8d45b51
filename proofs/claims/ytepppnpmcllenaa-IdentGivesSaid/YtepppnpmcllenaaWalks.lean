/- What each function of package ident, and of its reference, computes: said of integers and of the cells of a source. No condition but that each number is of its kind. -/
import Derived.Test.YtepppnpmcllenaaWords
import Derived.WalkKit
import Derived.WalkSpells
import Derived.WalkLawsBesides
import Derived.BigQuiet
import Derived.Deep.QuietTactic
import Derived.Outline
import Derived.Lib.Hide
namespace Go.Proofs.Ytepppnpmcllenaa
open Go.RowKit

set_option maxHeartbeats 400000 in
theorem isClient_yes (n : Int) (w : World) (h0 : 0 ≤ n) (h1 : n < 65536) : Calls Try.prog 20 #[.int .i64 n] w fun e w' => e = .returned (.bool true) ∧ w = w' := by
  go_enter Try.func20, Try.ntmps20
  go_wp2
  go_ret
  exact ⟨rfl, rfl⟩
set_option maxHeartbeats 400000 in
theorem isClient_low (n : Int) (w : World) (h0 : n < 0) : Calls Try.prog 20 #[.int .i64 n] w fun e w' => e = .returned (.bool false) ∧ w = w' := by
  have h : ¬ 0 ≤ n := by omega
  go_enter Try.func20, Try.ntmps20
  go_wp2
  go_ret
  exact ⟨rfl, rfl⟩
set_option maxHeartbeats 400000 in
theorem isClient_high (n : Int) (w : World) (h0 : 65535 < n) : Calls Try.prog 20 #[.int .i64 n] w fun e w' => e = .returned (.bool false) ∧ w = w' := by
  have h : 0 ≤ n := by omega
  have h1 : ¬ n < 65536 := by omega
  go_enter Try.func20, Try.ntmps20
  go_wp2
  go_ret
  exact ⟨rfl, rfl⟩
theorem isClient_no (n : Int) (w : World) (h0 : n < 0 ∨ 65535 < n) : Calls Try.prog 20 #[.int .i64 n] w fun e w' => e = .returned (.bool false) ∧ w = w' := by
  rcases h0 with h | h
  · exact isClient_low n w h
  · exact isClient_high n w h

theorem ret2 {a b c d : Value} (h : a = c) (k : b = d) : Ending.returned (.tuple #[a, b]) = .returned (.tuple #[c, d]) := by rw [h, k]
theorem int_eq {k : IntKind} {a b : Int} (h : a = b) : Value.int k a = .int k b := by rw [h]

set_option maxHeartbeats 400000 in
theorem make_ok (s c : Int) (w : World) (h0 : 1 ≤ s) (h1 : s ≤ 281474976710655) (h2 : 0 ≤ c) (h3 : c ≤ 65535) :
    Calls Try.prog 16 #[.int .u64 s, .int .i64 c] w fun e w' => e = .returned (.tuple #[.int .u64 (s * 65536 + c), .int .i64 0]) ∧ w = w' := by
  have ho := Lib.hid (or_add s c (by omega) h1 h2 h3)
  go_enter Try.func16, Try.ntmps16
  go_wp2_with (go_at_call 20; refine (isClient_yes _ _ (by omega) (by omega)).mono ?_; rintro e w' ⟨rfl, rfl⟩)
  go_ret2
  exact ⟨ret2 (int_eq ho.out) rfl, rfl⟩
set_option maxHeartbeats 400000 in
theorem make_seq (s c : Int) (w : World) (h0 : s < 1 ∨ 281474976710655 < s) :
    Calls Try.prog 16 #[.int .u64 s, .int .i64 c] w fun e w' => e = .returned (.tuple #[.int .u64 0, .int .i64 1]) ∧ w = w' := by
  rcases h0 with h | h
  · go_enter Try.func16, Try.ntmps16
    go_wp2
    go_ret2
    exact ⟨rfl, rfl⟩
  · have h' : ¬ s < 1 := by omega
    go_enter Try.func16, Try.ntmps16
    go_wp2
    go_ret2
    exact ⟨rfl, rfl⟩
set_option maxHeartbeats 400000 in
theorem make_cli (s c : Int) (w : World) (h0 : 1 ≤ s) (h1 : s ≤ 281474976710655) (h2 : c < 0 ∨ 65535 < c) :
    Calls Try.prog 16 #[.int .u64 s, .int .i64 c] w fun e w' => e = .returned (.tuple #[.int .u64 0, .int .i64 1]) ∧ w = w' := by
  have hc := fun w => isClient_no c w h2
  have hC := Lib.hid hc
  clear hc h2
  go_enter Try.func16, Try.ntmps16
  go_wp2_with (go_at_call 20; refine (hC.out _).mono ?_; rintro e w' ⟨rfl, rfl⟩)
  go_ret2
  exact ⟨rfl, rfl⟩
theorem make_no (s c : Int) (w : World) (h : ¬ (1 ≤ s ∧ s ≤ 281474976710655 ∧ 0 ≤ c ∧ c ≤ 65535)) :
    Calls Try.prog 16 #[.int .u64 s, .int .i64 c] w fun e w' => e = .returned (.tuple #[.int .u64 0, .int .i64 1]) ∧ w = w' := by
  by_cases h0 : s < 1 ∨ 281474976710655 < s
  · exact make_seq s c w h0
  · exact make_cli s c w (by omega) (by omega) (by omega)

set_option maxHeartbeats 400000 in
theorem rmake_ok (s c : Int) (w : World) (h0 : 1 ≤ s) (h1 : s ≤ 281474976710655) (h2 : 0 ≤ c) (h3 : c ≤ 65535) :
    Calls Try.prog 17 #[.int .u64 s, .int .i64 c] w fun e w' => e = .returned (.tuple #[.int .u64 (s * 65536 + c), .int .i64 0]) ∧ w = w' := by
  have hs : (s == 0) = false := by simp; omega
  go_enter Try.func17, Try.ntmps17
  go_wp2
  go_ret2
  exact ⟨rfl, rfl⟩
set_option maxHeartbeats 400000 in
theorem rmake_no (s c : Int) (w : World) (hs0 : 0 ≤ s) (h : ¬ (1 ≤ s ∧ s ≤ 281474976710655 ∧ 0 ≤ c ∧ c ≤ 65535)) :
    Calls Try.prog 17 #[.int .u64 s, .int .i64 c] w fun e w' => e = .returned (.tuple #[.int .u64 0, .int .i64 1]) ∧ w = w' := by
  by_cases h0 : s < 1
  · obtain rfl : s = 0 := by omega
    clear h h0 hs0
    go_enter Try.func17, Try.ntmps17
    go_wp2
    go_ret2
    exact ⟨rfl, rfl⟩
  have hs : (s == 0) = false := by simp; omega
  by_cases h1 : 281474976710655 < s
  · clear h
    go_enter Try.func17, Try.ntmps17
    go_wp2
    go_ret2
    exact ⟨rfl, rfl⟩
  by_cases h2 : c < 0
  · clear h
    go_enter Try.func17, Try.ntmps17
    go_wp2
    go_ret2
    exact ⟨rfl, rfl⟩
  · have h3 : 65535 < c := by omega
    clear h
    go_enter Try.func17, Try.ntmps17
    go_wp2
    go_ret2
    exact ⟨rfl, rfl⟩

def splN (x : Int) : Int := if x < 65536 then 0 else x / 65536
def splC (x : Int) : Int := if x < 65536 then 0 else x % 65536
def splE (x : Int) : Int := if x < 65536 then 1 else 0
theorem ret3 {a b c d e f : Value} (h : a = d) (k : b = e) (l : c = f) : Ending.returned (.tuple #[a, b, c]) = .returned (.tuple #[d, e, f]) := by rw [h, k, l]
set_option maxHeartbeats 400000 in
theorem split_any (x : Int) (w : World) (h0 : 0 ≤ x) (h1 : x ≤ 18446744073709551615) :
    Calls Try.prog 18 #[.int .u64 x] w fun e w' => e = .returned (.tuple #[.int .u64 (splN x), .int .i64 (splC x), .int .i64 (splE x)]) ∧ w = w' := by
  by_cases h : x < 65536
  · have e1 := Lib.hid (show splN x = 0 from if_pos h)
    have e2 := Lib.hid (show splC x = 0 from if_pos h)
    have e3 := Lib.hid (show splE x = 1 from if_pos h)
    go_enter Try.func18, Try.ntmps18
    go_wp2
    go_ret3
    exact ⟨ret3 (int_eq e1.out.symm) (int_eq e2.out.symm) (int_eq e3.out.symm), rfl⟩
  · have e1 := Lib.hid (show splN x = x / 65536 from if_neg h)
    have e2 := Lib.hid (show splC x = x % 65536 from if_neg h)
    have e3 := Lib.hid (show splE x = 0 from if_neg h)
    go_enter Try.func18, Try.ntmps18
    go_wp2
    go_ret3
    exact ⟨ret3 (int_eq e1.out.symm) (int_eq e2.out.symm) (int_eq e3.out.symm), rfl⟩
set_option maxHeartbeats 400000 in
theorem rsplit_any (x : Int) (w : World) (h0 : 0 ≤ x) (h1 : x ≤ 18446744073709551615) :
    Calls Try.prog 19 #[.int .u64 x] w fun e w' => e = .returned (.tuple #[.int .u64 (splN x), .int .i64 (splC x), .int .i64 (splE x)]) ∧ w = w' := by
  by_cases h : x < 65536
  · have e1 := Lib.hid (show splN x = 0 from if_pos h)
    have e2 := Lib.hid (show splC x = 0 from if_pos h)
    have e3 := Lib.hid (show splE x = 1 from if_pos h)
    go_enter Try.func19, Try.ntmps19
    go_wp2
    go_ret3
    exact ⟨ret3 (int_eq e1.out.symm) (int_eq e2.out.symm) (int_eq e3.out.symm), rfl⟩
  · have e1 := Lib.hid (show splN x = x / 65536 from if_neg h)
    have e2 := Lib.hid (show splC x = x % 65536 from if_neg h)
    have e3 := Lib.hid (show splE x = 0 from if_neg h)
    go_enter Try.func19, Try.ntmps19
    go_wp2
    go_ret3
    exact ⟨ret3 (int_eq e1.out.symm) (int_eq e2.out.symm) (int_eq e3.out.symm), rfl⟩
end Go.Proofs.Ytepppnpmcllenaa
