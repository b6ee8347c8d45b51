/- history: what an event may be: bare, may, read, walked. -/
import Derived.Test.YtiibjgnmdieicaaGreatPg
import Derived.Lib.Hide
import Derived.Outline
import Derived.BigRegion
import Derived.WalkLawsBesides
import Derived.Deep.RegionLaw
namespace Go.Proofs.YtiibjgnmdieicaaGreat.Hist
open Go.RowKit Go.Proofs.YtiibjgnmdieicaaGreatW.PrintWords
abbrev Pai := G.S75
abbrev Ver := G.S49
abbrev Ans := G.S36
abbrev Evt := G.S38
abbrev kVer : Kd Ver := G.k49
abbrev kPai : Kd Pai := G.k75
abbrev kEvt : Kd Evt := G.k38
def emptyS (s : ByteArray) : Bool := s.toList.isEmpty
def bareB (x : Ver) : Bool := x.f1 != 0 || (emptyS x.f2 && ((x.f3.length : Int) == 0))
set_option maxHeartbeats 1000000 in
theorem bare_any (x : Ver) (A : Option Addr) (c : Nat) (w : World) :
    Calls Tryz.prog 62 #[.agg #[.string x.f0, .int .u64 x.f1, .string x.f2, .slice A x.f3.length c]] w fun e w' => e = .returned (.bool (bareB x)) ∧ Below w.heap.size w w' := by
  obtain ⟨r, hr⟩ : ∃ r, r = bareB x := ⟨_, rfl⟩
  rw [← hr]
  unfold bareB emptyS at hr
  cases d1 : (x.f1 != 0) <;> cases d2 : x.f2.toList.isEmpty <;> rw [d1] at hr <;> (try rw [d2] at hr) <;> replace hr := Lib.hid hr
  all_goals
    go_enter Tryz.func62, Tryz.ntmps62
    go_wp2
    go_ret
    exact ⟨by rw [hr.out]; first | rfl | simp, (Below.refl _ _).alloc (Nat.le_refl _) _⟩
set_option maxHeartbeats 1000000 in
theorem mayc_any (x : Ver) (A : Option Addr) (c : Nat) (w : World) :
    Calls Tryz.prog 61 #[.agg #[.string x.f0, .int .u64 x.f1, .string x.f2, .slice A x.f3.length c]] w fun e w' => e = .returned (.bool (!bareB x)) ∧ Below w.heap.size w w' := by
  have h := fun W => bare_any x A c W
  generalize bareB x = r at h ⊢
  replace h := Lib.hid h
  go_enter Tryz.func61, Tryz.ntmps61
  go_wp2_with fail
  refine (h.out _).mono ?_
  rintro e W ⟨rfl, hb⟩
  replace hb := Lib.hid hb
  go_wp2
  go_ret
  have hal : Below w.heap.size w (w.alloc (.cells #[.string x.f0, .int .u64 x.f1, .string x.f2, .slice A x.f3.length c] 49)) := (Below.refl _ _).alloc (Nat.le_refl _) _
  exact ⟨rfl, hal.trans (hb.out.mono hal.size)⟩
/-- the place of the first that p says yes of; -1 -/
def fidx {α : Type} (p : α → Bool) (l : List α) : Int := if l.any p then ((l.findIdx p : Nat) : Int) else -1
theorem fidx_none {α : Type} {p : α → Bool} {l : List α} (h : ∀ t, (ht : t < l.length) → p l[t] = false) : fidx p l = -1 := by
  unfold fidx
  rw [if_neg]
  rw [List.any_eq_true]
  rintro ⟨x, hx, hp⟩
  obtain ⟨t, ht, rfl⟩ := List.getElem_of_mem hx
  rw [h t ht] at hp
  cases hp
theorem fidx_at {α : Type} {p : α → Bool} {l : List α} {j : Nat} (hj : j < l.length) (h : ∀ t, (ht : t < l.length) → t < j → p l[t] = false) (hp : p l[j] = true) : fidx p l = (j : Int) := by
  unfold fidx
  rw [if_pos (List.any_eq_true.2 ⟨l[j], List.getElem_mem hj, hp⟩)]
  congr 1
  rw [List.findIdx_eq hj]
  exact ⟨hp, fun t ht => h t (by omega) ht⟩
theorem fidx_any {α : Type} (p : α → Bool) (l : List α) : decide (0 ≤ fidx p l) = l.any p := by
  unfold fidx
  cases l.any p <;> simp
/-- an element of a row of versions -/
theorem ver_at {W : World} {A : Option Addr} {l : List Ver} (h : Kd.C kVer W A l.length l) {j : Nat} (hj : j < l.length) : ∃ ad A3 c3, A = some ad ∧ W.cell? (ad.add (j * 4)) = some (.string l[j].f0) ∧ W.cell? ⟨(ad.add (j * 4)).block, (ad.add (j * 4)).off + 1, none⟩ = some (.int .u64 l[j].f1) ∧ W.cell? ⟨(ad.add (j * 4)).block, (ad.add (j * 4)).off + 2, none⟩ = some (.string l[j].f2) ∧ W.cell? ⟨(ad.add (j * 4)).block, (ad.add (j * 4)).off + 3, none⟩ = some (.slice A3 l[j].f3.length c3) ∧ l[j].f3.length ≤ c3 ∧ Kd.string.C W A3 l[j].f3.length l[j].f3 := by
  have h2 := G.at_T49 h (j : Int) (by omega) (by omega)
  rw [Int.toNat_natCast, show G.rd_T49 l (j : Int) = l[j] from by simp [G.rd_T49, hj]] at h2
  exact h2
def RelI (w : World) {α : Type} (p : α → Bool) (l : List α) (s : Value) (wr : World) : Prop := ∃ j, j ≤ l.length ∧ s = .int .i64 j ∧ (∀ t, (ht : t < l.length) → t < j → p l[t] = false) ∧ Below w.heap.size w wr
set_option maxHeartbeats 2000000 in
theorem indexMay_any (A : Option Addr) (c : Nat) (l : List Ver) (w : World) (hC : Kd.C kVer w A l.length l) :
    Calls Tryz.prog 75 #[.slice A l.length c, .func (.func 61) #[] #[]] w fun e w' => e = .returned (.int .i64 (fidx (fun x => !bareB x) l)) ∧ Below w.heap.size w w' := by
  have hm : l.length ≤ 9223372036854775807 := hC.2.1
  obtain ⟨r, hr⟩ : ∃ r, r = fidx (fun x => !bareB x) l := ⟨_, rfl⟩
  rw [← hr]
  replace hr := Lib.hid hr
  replace hC := Lib.hid hC
  go_enter Tryz.func75, Tryz.ntmps75
  go_wp2
  go_loopw [8] (fun s wr => RelI w (fun x => !bareB x) l s wr) (fun s _ => l.length - (intOf s).toNat)
  case atStart => exact ⟨0, Nat.zero_le _, rfl, (fun t _ h => absurd h (Nat.not_lt_zero t)), Below.refl _ _⟩
  case round =>
    obtain ⟨j, hj, rfl, hp, hB⟩ := hrel
    replace hp := Lib.hid hp
    replace hB := Lib.hid hB
    by_cases hlt : j < l.length
    · obtain ⟨ad, A3, c3, rfl, q0, q1, q2, q3, _, _⟩ := ver_at (Kd.C_below hC.out hB.out) hlt
      have hcall := fun W => mayc_any l[j] A3 c3 W
      have hat := @fidx_at _ (fun x => !bareB x) l j hlt hp.out
      have hnx : (!bareB l[j]) = false → ∀ t, (ht : t < l.length) → t < j + 1 → (!bareB l[t]) = false := fun h t ht h1 => by
        by_cases e : t = j
        · subst e; exact h
        · exact hp.out t ht (by omega)
      generalize hb0 : (!bareB l[j]) = b0 at *
      replace hcall := Lib.hid hcall
      replace hat := Lib.hid hat
      replace hnx := Lib.hid hnx
      replace hb0 := Lib.hid hb0
      cases b0
      · go_wp2_with fail
        refine (hcall.out _).mono ?_
        rintro e W ⟨rfl, hb⟩
        replace hb := Lib.hid hb
        go_wp2
        go_roundw
        case rel => exact ⟨j + 1, by omega, by go_num, hnx.out (by first | trivial | rfl), hB.out.trans (hb.out.mono hB.out.size)⟩
        case measure => simp [intOf]; omega
      · go_wp2_with fail
        refine (hcall.out _).mono ?_
        rintro e W ⟨rfl, hb⟩
        replace hb := Lib.hid hb
        go_wp2
        go_ret
        exact ⟨by rw [hr.out, hat.out (by first | trivial | exact hb0.out)]; rfl, hB.out.trans (hb.out.mono hB.out.size)⟩
    · have hno := Lib.hid (fidx_none (p := fun x => !bareB x) (l := l) (fun t ht => hp.out t ht (by omega)))
      go_wp2
      go_ret
      exact ⟨by rw [hr.out, hno.out]; rfl, hB.out⟩
set_option maxHeartbeats 1000000 in
theorem containsMay_any (A : Option Addr) (c : Nat) (l : List Ver) (w : World) (hC : Kd.C kVer w A l.length l) :
    Calls Tryz.prog 53 #[.slice A l.length c, .func (.func 61) #[] #[]] w fun e w' => e = .returned (.bool (l.any fun x => !bareB x)) ∧ Below w.heap.size w w' := by
  have h := fun W hW => indexMay_any A c l W hW
  have hd := fidx_any (fun x => !bareB x) l
  generalize fidx (fun x => !bareB x) l = i at h hd
  rw [← hd]
  replace hC := Lib.hid hC
  replace h := Lib.hid h
  clear hd
  go_enter Tryz.func53, Tryz.ntmps53
  go_wp2_with fail
  refine (h.out _ hC.out).mono ?_
  rintro e W ⟨rfl, hb⟩
  replace hb := Lib.hid hb
  go_wp2
  go_ret
  exact ⟨rfl, hb.out⟩
end Go.Proofs.YtiibjgnmdieicaaGreat.Hist
/- history: may, walked. -/
namespace Go.Proofs.YtiibjgnmdieicaaGreat.Hist
open Go.RowKit Go.Proofs.YtiibjgnmdieicaaGreatW.PrintWords
def emptyB (a : Ans) : Bool := a.f0 == 0 && a.f1 == 0 && a.f2 == 0 && ((a.f3.length : Int) == 0)
theorem empty_is (a : Ans) : G.history_empty.f a.f0 a.f1 a.f2 a.f3 = some (emptyB a) := by
  unfold G.history_empty.f emptyB
  by_cases h0 : a.f0 = 0 <;> by_cases h1 : a.f1 = 0 <;> by_cases h2 : a.f2 = 0 <;> simp [h0, h1, h2]
/-- the ten cells of an event -/
def cE (x : Evt) (A4 : Option Addr) (c4 : Nat) (A5 : Option Addr) (c5 : Nat) (A9 : Option Addr) (c9 : Nat) : Array Value :=
  #[.int .i64 x.f0, .int .i64 x.f1, .int .i64 x.f2, .int .u64 x.f3, .slice A4 x.f4.length c4, .slice A5 x.f5.length c5, .int .i64 x.f6.f0, .int .i64 x.f6.f1, .int .u64 x.f6.f2, .slice A9 x.f6.f3.length c9]
theorem empty_any (a : Ans) (A9 : Option Addr) (c9 : Nat) (w : World) (hC : Kd.C kVer w A9 a.f3.length a.f3) (hc : a.f3.length ≤ c9) :
    Calls Tryz.prog 60 #[.agg #[.int .i64 a.f0, .int .i64 a.f1, .int .u64 a.f2, .slice A9 a.f3.length c9]] w fun e w' => e = .returned (.bool (emptyB a)) ∧ Below w.heap.size w w' :=
  G.history_empty.calls a.f0 a.f1 a.f2 A9 c9 a.f3 (emptyB a) w hC hc (empty_is a)
def may3 (x : Evt) : Bool := if x.f3 ≠ 0 ∨ 0 < x.f4.length ∨ 0 < x.f5.length ∨ x.f6.f0 ≠ x.f2 ∨ x.f6.f1 < 1 ∨ 6 < x.f6.f1 then false else !(x.f6.f3.any fun v => !bareB v)
def mayB (x : Evt) : Bool :=
  if x.f1 < 0 ∨ 16 ≤ x.f1 ∨ x.f2 < 1 then false
  else if x.f0 = 1 then ((x.f5.length : Int) == 0) && emptyB x.f6
  else if x.f0 = 2 then (x.f3 == 0) && ((x.f4.length : Int) == 0) && emptyB x.f6
  else if x.f0 = 3 then may3 x
  else false
theorem below2 (w : World) (o o' : Obj) : Below w.heap.size w ((w.alloc o).alloc o') := ((Below.refl _ _).alloc (Nat.le_refl _) _).alloc (by simp) _
set_option maxHeartbeats 8000000 in
set_option maxRecDepth 100000 in
theorem may_any (x : Evt) (A4 : Option Addr) (c4 : Nat) (A5 : Option Addr) (c5 : Nat) (A9 : Option Addr) (c9 : Nat) (w : World) (hC : Kd.C kVer w A9 x.f6.f3.length x.f6.f3) (hc : x.f6.f3.length ≤ c9) :
    Calls Tryz.prog 38 #[.agg #[.int .i64 x.f0, .int .i64 x.f1, .int .i64 x.f2, .int .u64 x.f3, .slice A4 x.f4.length c4, .slice A5 x.f5.length c5, .int .i64 x.f6.f0, .int .i64 x.f6.f1, .int .u64 x.f6.f2, .slice A9 x.f6.f3.length c9]] w fun e w' => e = .returned (.bool (mayB x)) ∧ Below w.heap.size w w' := by
  have hE := fun (o o' : Obj) => empty_any x.f6 A9 c9 ((w.alloc o).alloc o') (Kd.C_below hC (below2 w o o')) hc
  have hF := fun (o o' : Obj) => containsMay_any A9 c9 x.f6.f3 ((w.alloc o).alloc o') (Kd.C_below hC (below2 w o o'))
  obtain ⟨r, hr⟩ : ∃ r, r = mayB x := ⟨_, rfl⟩
  rw [← hr]
  unfold mayB may3 at hr
  generalize x.f4.length = n4 at *
  generalize x.f5.length = n5 at *
  generalize hem : emptyB x.f6 = em at *
  replace hE := Lib.hid hE
  by_cases h1 : x.f1 < 0 ∨ 16 ≤ x.f1 ∨ x.f2 < 1
  · rw [if_pos h1] at hr
    replace hr := Lib.hid hr
    clear hC hF hem
    rcases Decidable.em (x.f1 < 0) with g1 | g1
    · clear h1
      go_enter Tryz.func38, Tryz.ntmps38
      go_wp2
      go_ret
      exact ⟨by rw [hr.out]; rfl, (Below.refl _ _).alloc (Nat.le_refl _) _⟩
    · rcases Decidable.em (16 ≤ x.f1) with g2 | g2
      · clear h1
        go_enter Tryz.func38, Tryz.ntmps38
        go_wp2
        go_ret
        exact ⟨by rw [hr.out]; rfl, (Below.refl _ _).alloc (Nat.le_refl _) _⟩
      · have g3 : x.f2 < 1 := by omega
        clear h1
        go_enter Tryz.func38, Tryz.ntmps38
        go_wp2
        go_ret
        exact ⟨by rw [hr.out]; rfl, (Below.refl _ _).alloc (Nat.le_refl _) _⟩
  · rw [if_neg h1] at hr
    have g1 : ¬ x.f1 < 0 := by omega
    have g2 : ¬ 16 ≤ x.f1 := by omega
    have g3 : ¬ x.f2 < 1 := by omega
    clear h1
    by_cases k1 : x.f0 = 1
    · rw [if_pos k1] at hr
      have b1 : (x.f0 == 1) = true := beq_iff_eq.2 k1
      replace k1 := Lib.hid k1
      clear hC hF hem
      cases d1 : ((n5 : Int) == 0) <;> rw [d1] at hr <;> replace hr := Lib.hid hr
      · go_enter Tryz.func38, Tryz.ntmps38
        go_wp2
        go_ret
        exact ⟨by rw [hr.out]; rfl, below2 _ _ _⟩
      · go_enter Tryz.func38, Tryz.ntmps38
        go_wp2_with fail
        refine (hE.out _ _).mono ?_
        rintro e W ⟨rfl, hb⟩
        replace hb := Lib.hid hb
        go_wp2
        go_ret
        exact ⟨by rw [hr.out]; simp, (below2 _ _ _).trans (hb.out.mono (below2 _ _ _).size)⟩
    · rw [if_neg k1] at hr
      have b1 : (x.f0 == 1) = false := beq_eq_false_iff_ne.2 k1
      replace k1 := Lib.hid k1
      by_cases k2 : x.f0 = 2
      · rw [if_pos k2] at hr
        have b2 : (x.f0 == 2) = true := beq_iff_eq.2 k2
        replace k2 := Lib.hid k2
        clear hC hF hem
        cases d1 : (x.f3 == 0) <;> rw [d1] at hr
        · replace hr := Lib.hid hr
          go_enter Tryz.func38, Tryz.ntmps38
          go_wp2
          go_ret
          exact ⟨by rw [hr.out]; rfl, below2 _ _ _⟩
        · cases d2 : ((n4 : Int) == 0) <;> rw [d2] at hr <;> replace hr := Lib.hid hr
          · go_enter Tryz.func38, Tryz.ntmps38
            go_wp2
            go_ret
            exact ⟨by rw [hr.out]; rfl, below2 _ _ _⟩
          · go_enter Tryz.func38, Tryz.ntmps38
            go_wp2_with fail
            refine (hE.out _ _).mono ?_
            rintro e W ⟨rfl, hb⟩
            replace hb := Lib.hid hb
            go_wp2
            go_ret
            exact ⟨by rw [hr.out]; simp, (below2 _ _ _).trans (hb.out.mono (below2 _ _ _).size)⟩
      · rw [if_neg k2] at hr
        have b2 : (x.f0 == 2) = false := beq_eq_false_iff_ne.2 k2
        replace k2 := Lib.hid k2
        clear hE hem
        by_cases k3 : x.f0 = 3
        · rw [if_pos k3] at hr
          have b3 : (x.f0 == 3) = true := beq_iff_eq.2 k3
          replace k3 := Lib.hid k3
          by_cases p0 : x.f3 ≠ 0
          · rw [if_pos (by simp [p0])] at hr
            have d0 : (x.f3 != 0) = true := by simpa using p0
            replace p0 := Lib.hid p0
            replace hr := Lib.hid hr
            clear hC hF
            go_enter Tryz.func38, Tryz.ntmps38
            go_wp2
            go_ret
            exact ⟨by rw [hr.out]; rfl, below2 _ _ _⟩
          · have d0 : (x.f3 != 0) = false := by simpa using p0
            by_cases p1 : 0 < n4
            · rw [if_pos (by simp [p1])] at hr
              have d1 : decide ((0 : Int) < (n4 : Int)) = true := decide_eq_true (by omega)
              have e1 : (0 : Int) < (n4 : Int) := by omega
              replace p1 := Lib.hid p1
              replace hr := Lib.hid hr
              clear hC hF
              go_enter Tryz.func38, Tryz.ntmps38
              go_wp2
              go_ret
              exact ⟨by rw [hr.out]; rfl, below2 _ _ _⟩
            · have d1 : decide ((0 : Int) < (n4 : Int)) = false := decide_eq_false (by omega)
              have e1 : ¬ (0 : Int) < (n4 : Int) := by omega
              by_cases p2 : 0 < n5
              · rw [if_pos (by simp [p2])] at hr
                have d2 : decide ((0 : Int) < (n5 : Int)) = true := decide_eq_true (by omega)
                have e2 : (0 : Int) < (n5 : Int) := by omega
                replace p2 := Lib.hid p2
                replace hr := Lib.hid hr
                clear hC hF
                go_enter Tryz.func38, Tryz.ntmps38
                go_wp2
                go_ret
                exact ⟨by rw [hr.out]; rfl, below2 _ _ _⟩
              · have d2 : decide ((0 : Int) < (n5 : Int)) = false := decide_eq_false (by omega)
                have e2 : ¬ (0 : Int) < (n5 : Int) := by omega
                by_cases p3 : x.f6.f0 ≠ x.f2
                · rw [if_pos (by simp [p3])] at hr
                  have d3 : (x.f6.f0 != x.f2) = true := by simpa using p3
                  replace p3 := Lib.hid p3
                  replace hr := Lib.hid hr
                  clear hC hF
                  go_enter Tryz.func38, Tryz.ntmps38
                  go_wp2
                  go_ret
                  exact ⟨by rw [hr.out]; rfl, below2 _ _ _⟩
                · have d3 : (x.f6.f0 != x.f2) = false := by simpa using p3
                  by_cases p4 : x.f6.f1 < 1
                  · rw [if_pos (by simp [p4])] at hr
                    replace hr := Lib.hid hr
                    clear hC hF
                    go_enter Tryz.func38, Tryz.ntmps38
                    go_wp2
                    go_ret
                    exact ⟨by rw [hr.out]; rfl, below2 _ _ _⟩
                  · skip
                    by_cases p5 : 6 < x.f6.f1
                    · rw [if_pos (by simp [p5])] at hr
                      replace hr := Lib.hid hr
                      clear hC hF
                      go_enter Tryz.func38, Tryz.ntmps38
                      go_wp2
                      go_ret
                      exact ⟨by rw [hr.out]; rfl, below2 _ _ _⟩
                    · skip
                      rw [if_neg (by simp only [not_or]; exact ⟨p0, p1, p2, p3, p4, p5⟩)] at hr
                      replace p0 := Lib.hid p0
                      replace p1 := Lib.hid p1
                      replace p2 := Lib.hid p2
                      replace p3 := Lib.hid p3
                      generalize (x.f6.f3.any fun v => !bareB v) = an at *
                      replace hr := Lib.hid hr
                      replace hF := Lib.hid hF
                      clear hC
                      go_enter Tryz.func38, Tryz.ntmps38
                      go_wp2_with fail
                      refine (hF.out _ _).mono ?_
                      rintro e W ⟨rfl, hb⟩
                      replace hb := Lib.hid hb
                      go_wp2
                      go_ret
                      exact ⟨by rw [hr.out]; rfl, (below2 _ _ _).trans (hb.out.mono (below2 _ _ _).size)⟩
        · rw [if_neg k3] at hr
          have b3 : (x.f0 == 3) = false := beq_eq_false_iff_ne.2 k3
          replace k3 := Lib.hid k3
          replace hr := Lib.hid hr
          clear hC hF
          go_enter Tryz.func38, Tryz.ntmps38
          go_wp2
          go_ret
          exact ⟨by rw [hr.out]; rfl, below2 _ _ _⟩
end Go.Proofs.YtiibjgnmdieicaaGreat.Hist
/- history: read, walked; written, as the print has it. -/
namespace Go.Proofs.YtiibjgnmdieicaaGreat.Hist
open Go.RowKit Go.Proofs.YtiibjgnmdieicaaGreatW.PrintWords
def keq (x : Ver) (k : ByteArray) : Bool := x.f0.toList == k.toList
set_option maxHeartbeats 1000000 in
theorem readc_any (x : Ver) (A : Option Addr) (c : Nat) (k : ByteArray) (w : World) :
    Calls Tryz.prog 82 #[.agg #[.string x.f0, .int .u64 x.f1, .string x.f2, .slice A x.f3.length c], .string k] w fun e w' => e = .returned (.bool (keq x k)) ∧ Below w.heap.size w w' := by
  unfold keq
  go_enter Tryz.func82, Tryz.ntmps82
  go_wp2
  go_ret
  exact ⟨rfl, (Below.refl _ _).alloc (Nat.le_refl _) _⟩
/-- a text of a row -/
theorem text_at {W : World} {A : Option Addr} {l : List ByteArray} (h : Kd.C Kd.string W A l.length l) {j : Nat} (hj : j < l.length) : ∃ ad, A = some ad ∧ W.cell? (ad.add j) = some (.string l[j]) := by
  obtain ⟨ad, c, e, _, hK, hc0⟩ := Kd.C_get h ByteArray.empty (j : Int) (by omega) (by omega)
  have hc : ∀ i u, c[i]? = some u → W.cell? (ad.add ((j : Int).toNat * 1 + i)) = some u := hc0
  have hK : c = [.string (l.getD (j : Int).toNat ByteArray.empty)] := hK
  subst hK
  have h2 := hc 0 _ rfl
  rw [Int.toNat_natCast, Nat.mul_one, Nat.add_zero] at h2
  refine ⟨ad, e, ?_⟩
  rw [h2]
  simp [hj]
/-- the versions tell these keys -/
def keysB (l : List Ver) (ks : List ByteArray) : Bool := l.length == ks.length && (l.zip ks).all fun p => keq p.1 p.2
theorem keysB_no {l : List Ver} {ks : List ByteArray} {j : Nat} (h1 : j < l.length) (h2 : j < ks.length) (h : keq l[j] ks[j] = false) : keysB l ks = false := by
  unfold keysB
  rw [Bool.and_eq_false_iff]
  refine .inr ?_
  rw [List.all_eq_false]
  exact ⟨(l[j], ks[j]), List.mem_iff_getElem.2 ⟨j, by simp; omega, by simp⟩, by simp [h]⟩
theorem keysB_yes {l : List Ver} {ks : List ByteArray} (hl : l.length = ks.length) (h : ∀ t, (h1 : t < l.length) → (h2 : t < ks.length) → keq l[t] ks[t] = true) : keysB l ks = true := by
  unfold keysB
  rw [Bool.and_eq_true]
  refine ⟨by simpa using hl, ?_⟩
  rw [List.all_eq_true]
  intro p hp
  obtain ⟨t, ht, rfl⟩ := List.getElem_of_mem hp
  simp at ht
  simpa using h t (by omega) (by omega)
def RelE (w : World) (l : List Ver) (ks : List ByteArray) (s : Value) (wr : World) : Prop := ∃ j, j ≤ l.length ∧ s = .int .i64 j ∧ (∀ t, (h1 : t < l.length) → (h2 : t < ks.length) → t < j → keq l[t] ks[t] = true) ∧ Below w.heap.size w wr
set_option maxHeartbeats 2000000 in
theorem equalKeys_any (A : Option Addr) (c : Nat) (l : List Ver) (B : Option Addr) (d : Nat) (ks : List ByteArray) (w : World) (hC : Kd.C kVer w A l.length l) (hK : Kd.C Kd.string w B ks.length ks) :
    Calls Tryz.prog 81 #[.slice A l.length c, .slice B ks.length d, .func (.func 82) #[] #[]] w fun e w' => e = .returned (.bool (keysB l ks)) ∧ Below w.heap.size w w' := by
  have hm : l.length ≤ 9223372036854775807 := hC.2.1
  obtain ⟨r, hr⟩ : ∃ r, r = keysB l ks := ⟨_, rfl⟩
  rw [← hr]
  replace hr := Lib.hid hr
  replace hC := Lib.hid hC
  replace hK := Lib.hid hK
  by_cases hl : l.length = ks.length
  · have dl : ((l.length : Int) != (ks.length : Int)) = false := by rw [bne_eq_false_iff_eq]; omega
    replace hl := Lib.hid hl
    go_enter Tryz.func81, Tryz.ntmps81
    go_wp2
    go_loopw [17] (fun s wr => RelE w l ks s wr) (fun s _ => l.length - (intOf s).toNat)
    case atStart => exact ⟨0, Nat.zero_le _, rfl, (fun t _ _ h => absurd h (Nat.not_lt_zero t)), Below.refl _ _⟩
    case round =>
      obtain ⟨j, hj, rfl, hp, hB⟩ := hrel
      replace hp := Lib.hid hp
      replace hB := Lib.hid hB
      by_cases hlt : j < l.length
      · have hlk : j < ks.length := by have := hl.out; omega
        obtain ⟨ad, A3, c3, rfl, q0, q1, q2, q3, _, _⟩ := ver_at (Kd.C_below hC.out hB.out) hlt
        obtain ⟨bd, rfl, q4⟩ := text_at (Kd.C_below hK.out hB.out) hlk
        have hcall := fun W => readc_any l[j] A3 c3 ks[j] W
        have hno := @keysB_no l ks j hlt hlk
        have hnx : keq l[j] ks[j] = true → ∀ t, (h1 : t < l.length) → (h2 : t < ks.length) → t < j + 1 → keq l[t] ks[t] = true := fun h t h1 h2 h3 => by
          by_cases e : t = j
          · subst e; exact h
          · exact hp.out t h1 h2 (by omega)
        generalize hb0 : keq l[j] ks[j] = b0 at *
        have hbd : bd.block < wr.heap.size := by
          have := World.block_lt_of_cell? wr _ q4
          unfold Addr.add at this
          split at this <;> exact this
        replace hcall := Lib.hid hcall
        replace hno := Lib.hid hno
        replace hnx := Lib.hid hnx
        replace hb0 := Lib.hid hb0
        have q5 : ∀ o, (wr.alloc o).cell? (bd.add j) = some (.string ks[j]) := fun o => pw_cell_below (below_alloc (Below.refl _ _) o) q4
        cases b0
        · go_wp2_with fail
          refine (hcall.out _).mono ?_
          rintro e W ⟨rfl, hb⟩
          replace hb := Lib.hid hb
          go_wp2
          go_ret
          exact ⟨by rw [hr.out, hno.out (by first | trivial | exact hb0.out)]; rfl, hB.out.trans (((below_alloc (Below.refl _ _) _).trans (hb.out.mono (below_alloc (Below.refl _ _) _).size)).mono hB.out.size)⟩
        · go_wp2_with fail
          refine (hcall.out _).mono ?_
          rintro e W ⟨rfl, hb⟩
          replace hb := Lib.hid hb
          go_wp2
          go_roundw
          case rel => exact ⟨j + 1, by omega, by go_num, hnx.out (by first | trivial | exact hb0.out), hB.out.trans (((below_alloc (Below.refl _ _) _).trans (hb.out.mono (below_alloc (Below.refl _ _) _).size)).mono hB.out.size)⟩
          case measure => simp [intOf]; omega
      · have hyes := Lib.hid (keysB_yes hl.out (fun t h1 h2 => hp.out t h1 h2 (by omega)))
        go_wp2
        go_ret
        exact ⟨by rw [hr.out, hyes.out]; rfl, hB.out⟩
  · have dl : ((l.length : Int) != (ks.length : Int)) = true := by rw [bne_iff_ne]; omega
    have hno : keysB l ks = false := by unfold keysB; rw [Bool.and_eq_false_iff]; exact .inl (by simpa using hl)
    replace hno := Lib.hid hno
    replace hl := Lib.hid hl
    go_enter Tryz.func81, Tryz.ntmps81
    go_wp2
    go_ret
    exact ⟨by rw [hr.out, hno.out]; rfl, Below.refl _ _⟩
end Go.Proofs.YtiibjgnmdieicaaGreat.Hist
/- history: read and written, walked. -/
namespace Go.Proofs.YtiibjgnmdieicaaGreat.Hist
open Go.RowKit Go.Proofs.YtiibjgnmdieicaaGreatW.PrintWords
def writtenB (q : Evt) (a : Ans) : Bool :=
  if 0 < a.f3.length then false else if a.f2 ≠ q.f3 then false
  else if a.f1 = 5 ∨ a.f1 = 6 then q.f3 == 0 else if a.f1 = 1 ∨ a.f1 = 3 ∨ a.f1 = 4 then q.f3 != 0 else false
theorem written_is (q : Evt) (a : Ans) : G.history_written.f 2 q.f0 q.f1 q.f2 q.f3 q.f4 q.f5 q.f6.f0 q.f6.f1 q.f6.f2 q.f6.f3 a.f0 a.f1 a.f2 a.f3 = some (writtenB q a) := by
  unfold G.history_written.f writtenB
  by_cases h : 0 < a.f3.length
  · rw [if_pos (by omega), if_pos h]
    simp only [G.history_written.j0, if_true]
  · rw [if_neg (by omega), if_neg h]
    by_cases h2 : a.f2 = q.f3
    · rw [if_neg (by simp [h2])]
      have e : (a.f2 != q.f3) = false := by simp [h2]
      simp only [G.history_written.j0, G.history_written.j1, e]
      by_cases g5 : a.f1 = 5
      · simp [g5]
      · by_cases g6 : a.f1 = 6
        · simp [g6]
        · have b5 : (a.f1 == 5) = false := by simp [g5]
          have b6 : (a.f1 == 6) = false := by simp [g6]
          by_cases g1 : a.f1 = 1
          · simp [g1]
          · by_cases g3 : a.f1 = 3
            · simp [g3]
            · by_cases g4 : a.f1 = 4
              · simp [g4]
              · simp [g1, g3, g4, g5, g6]
    · rw [if_pos h2]
      have e : (a.f2 != q.f3) = true := by simp [h2]
      simp only [G.history_written.j0, e, if_true]
def readB (q : Evt) (a : Ans) (behind : Bool) : Bool :=
  if a.f2 ≠ 0 then false else if a.f1 = 1 then keysB a.f3 q.f5
  else if a.f1 = 5 then behind && ((a.f3.length : Int) == 0) else if a.f1 = 2 ∨ a.f1 = 3 then (a.f3.length : Int) == 0 else false
set_option maxHeartbeats 4000000 in
set_option maxRecDepth 100000 in
theorem read_any (q : Evt) (A4 : Option Addr) (c4 : Nat) (A5 : Option Addr) (c5 : Nat) (A9 : Option Addr) (c9 : Nat) (a : Ans) (B : Option Addr) (d : Nat) (bh : Bool) (w : World) (hK : Kd.C Kd.string w A5 q.f5.length q.f5) (hC : Kd.C kVer w B a.f3.length a.f3) :
    Calls Tryz.prog 64 #[.agg #[.int .i64 q.f0, .int .i64 q.f1, .int .i64 q.f2, .int .u64 q.f3, .slice A4 q.f4.length c4, .slice A5 q.f5.length c5, .int .i64 q.f6.f0, .int .i64 q.f6.f1, .int .u64 q.f6.f2, .slice A9 q.f6.f3.length c9], .agg #[.int .i64 a.f0, .int .i64 a.f1, .int .u64 a.f2, .slice B a.f3.length d], .bool bh] w fun e w' => e = .returned (.bool (readB q a bh)) ∧ Below w.heap.size w w' := by
  have hE := fun (o o' : Obj) => equalKeys_any B d a.f3 A5 c5 q.f5 ((w.alloc o).alloc o') (Kd.C_below hC (below2 w o o')) (Kd.C_below hK (below2 w o o'))
  obtain ⟨r, hr⟩ : ∃ r, r = readB q a bh := ⟨_, rfl⟩
  rw [← hr]
  unfold readB at hr
  generalize keysB a.f3 q.f5 = kb at *
  clear hC hK
  generalize a.f3.length = n at *
  generalize q.f5.length = n5 at *
  replace hE := Lib.hid hE
  by_cases h2 : a.f2 = 0
  · rw [if_neg (by simp [h2])] at hr
    have d2 : (a.f2 != 0) = false := by simp [h2]
    replace h2 := Lib.hid h2
    by_cases g1 : a.f1 = 1
    · rw [if_pos g1] at hr
      have b1 : (a.f1 == 1) = true := beq_iff_eq.2 g1
      replace g1 := Lib.hid g1
      replace hr := Lib.hid hr
      go_enter Tryz.func64, Tryz.ntmps64
      go_wp2_with fail
      refine (hE.out _ _).mono ?_
      rintro e W ⟨rfl, hb⟩
      replace hb := Lib.hid hb
      go_wp2
      go_ret
      exact ⟨by rw [hr.out]; rfl, (below2 _ _ _).trans (hb.out.mono (below2 _ _ _).size)⟩
    · rw [if_neg g1] at hr
      have b1 : (a.f1 == 1) = false := beq_eq_false_iff_ne.2 g1
      replace g1 := Lib.hid g1
      clear hE
      by_cases g5 : a.f1 = 5
      · rw [if_pos g5] at hr
        have b5 : (a.f1 == 5) = true := beq_iff_eq.2 g5
        replace g5 := Lib.hid g5
        cases bh <;> replace hr := Lib.hid hr
        all_goals
          go_enter Tryz.func64, Tryz.ntmps64
          go_wp2
          go_ret
          exact ⟨by rw [hr.out]; first | rfl | simp, below2 _ _ _⟩
      · rw [if_neg g5] at hr
        have b5 : (a.f1 == 5) = false := beq_eq_false_iff_ne.2 g5
        replace g5 := Lib.hid g5
        by_cases g2 : a.f1 = 2
        · rw [if_pos (.inl g2)] at hr
          have b2 : (a.f1 == 2) = true := beq_iff_eq.2 g2
          replace g2 := Lib.hid g2
          replace hr := Lib.hid hr
          go_enter Tryz.func64, Tryz.ntmps64
          go_wp2
          go_ret
          exact ⟨by rw [hr.out]; rfl, below2 _ _ _⟩
        · have b2 : (a.f1 == 2) = false := beq_eq_false_iff_ne.2 g2
          by_cases g3 : a.f1 = 3
          · rw [if_pos (.inr g3)] at hr
            have b3 : (a.f1 == 3) = true := beq_iff_eq.2 g3
            replace g2 := Lib.hid g2
            replace g3 := Lib.hid g3
            replace hr := Lib.hid hr
            go_enter Tryz.func64, Tryz.ntmps64
            go_wp2
            go_ret
            exact ⟨by rw [hr.out]; rfl, below2 _ _ _⟩
          · rw [if_neg (by simp [g2, g3])] at hr
            have b3 : (a.f1 == 3) = false := beq_eq_false_iff_ne.2 g3
            replace g2 := Lib.hid g2
            replace g3 := Lib.hid g3
            replace hr := Lib.hid hr
            go_enter Tryz.func64, Tryz.ntmps64
            go_wp2
            go_ret
            exact ⟨by rw [hr.out]; rfl, below2 _ _ _⟩
  · rw [if_pos h2] at hr
    have d2 : (a.f2 != 0) = true := by simp [h2]
    replace h2 := Lib.hid h2
    replace hr := Lib.hid hr
    clear hE
    go_enter Tryz.func64, Tryz.ntmps64
    go_wp2
    go_ret
    exact ⟨by rw [hr.out]; rfl, below2 _ _ _⟩
end Go.Proofs.YtiibjgnmdieicaaGreat.Hist
/- history: what is known of the clients, in memory; asks, walked. -/
namespace Go.Proofs.YtiibjgnmdieicaaGreat.Hist
open Go.RowKit Go.Proofs.YtiibjgnmdieicaaGreatW.PrintWords
structure Rq where
  ev : Evt
  place : Int
  ans : Bool
structure Cl where
  rqs : List Rq
  last : Int
def RqR (w0 : World) (q : Rq) (cs : List Value) : Prop := ∃ c10, kEvt.K w0 q.ev c10 ∧ cs = c10 ++ [.int .i64 q.place, .bool q.ans]
def upd {α : Type} (f : Nat → α) (j : Nat) (x : α) : Nat → α := fun i => if i = j then x else f i
theorem upd_same {α : Type} (f : Nat → α) (j : Nat) (x : α) : upd f j x j = x := if_pos rfl
theorem upd_ne {α : Type} (f : Nat → α) {j i : Nat} (x : α) (h : i ≠ j) : upd f j x i = f i := if_neg h
/-- the clients, in a block of their own; each one's requests in a row of its own -/
structure StV (w0 W : World) (B0 : Nat) (vs : Nat → Value) (cl : Nat → Cl) : Prop where
  blk : ∃ cells, W.heap[B0]? = some (.cells cells 82 (0, 0))
  base : w0.heap.size ≤ B0
  val : ∀ i, i < 16 → W.cell? ⟨B0, i * 2, none⟩ = some (vs i)
  num : ∀ i, i < 16 → W.cell? ⟨B0, i * 2 + 1, none⟩ = some (.int .u64 (cl i).last)
  row : ∀ i, i < 16 → OwnRow (RqR w0) 114 12 W w0.heap.size (vs i) (cl i).rqs
  far : ∀ i j, i < 16 → j < 16 → i ≠ j → (vs i).ownBlock = none ∨ (vs i).ownBlock ≠ (vs j).ownBlock
  bel : Below w0.heap.size w0 W
def St (w0 W : World) (B0 : Nat) (cl : Nat → Cl) : Prop := ∃ vs, StV w0 W B0 vs cl
theorem StV.below {w0 W W1 : World} {B0 : Nat} {vs : Nat → Value} {cl : Nat → Cl} (h : StV w0 W B0 vs cl) (hb : Below W.heap.size W W1) : StV w0 W1 B0 vs cl where
  blk := by
    obtain ⟨cells, hB⟩ := h.blk
    exact ⟨cells, (hb.block B0 (blk_lt hB)).trans hB⟩
  base := h.base
  val i hi := pw_cell_below hb (h.val i hi)
  num i hi := pw_cell_below hb (h.num i hi)
  row i hi := (h.row i hi).below hb
  far := h.far
  bel := below_then h.bel h.bel.size hb
theorem StV.frozen {w0 W : World} {B0 : Nat} {vs : Nat → Value} {cl : Nat → Cl} (h : StV w0 W B0 vs cl) (k : Nat) : W.frozen? ⟨B0, k, none⟩ = false := by
  obtain ⟨cells, hB⟩ := h.blk
  exact blk_frozen hB k
theorem below_set_ {w W : World} {p : Addr} (hB : Below w.heap.size w W) (hp : w.heap.size ≤ p.block) (u : Value) : Below w.heap.size w (W.setCell p u) :=
  ⟨hB.os, hB.tape, hB.output, by simpa [World.setCell] using hB.size, fun i hi => (Below.heap_setCell W p u i (by omega)).trans (hB.block i hi)⟩
theorem cell_set_ne {W : World} {B0 j k : Nat} {u v : Value} (h : W.cell? ⟨B0, k, none⟩ = some v) (hne : k ≠ j) : (W.setCell ⟨B0, j, none⟩ u).cell? ⟨B0, k, none⟩ = some v := by
  rw [World.cell?_setCell_other]
  · exact h
  · intro e
    injection e with _ e
    exact hne e.symm
/-- a client's last name is written -/
theorem StV.setLast {w0 W : World} {B0 : Nat} {vs : Nat → Value} {cl : Nat → Cl} (h : StV w0 W B0 vs cl) {j : Nat} (hj : j < 16) (x : Int) : StV w0 (W.setCell ⟨B0, j * 2 + 1, none⟩ (.int .u64 x)) B0 vs (upd cl j ⟨(cl j).rqs, x⟩) where
  blk := by
    obtain ⟨cells, hB⟩ := h.blk
    exact ⟨_, blk_set hB _ _⟩
  base := h.base
  val i hi := cell_set_ne (h.val i hi) (by omega)
  num i hi := by
    by_cases e : i = j
    · subst e
      rw [upd_same]
      exact World.cell?_setCell_same' _ _ _ (by rw [h.num i hi]; rfl)
    · rw [upd_ne _ _ e]
      exact cell_set_ne (h.num i hi) (by omega)
  row i hi := by
    obtain ⟨cells, hB⟩ := h.blk
    have h1 := (h.row i hi).set_ hB (by decide) (j * 2 + 1) (.int .u64 x)
    by_cases e : i = j
    · subst e
      rw [upd_same]
      exact h1
    · rw [upd_ne _ _ e]
      exact h1
  far := h.far
  bel := below_set_ h.bel h.base _
/-- a client's row is written, or is another; its value is stored -/
theorem StV.setRow {w0 W W1 : World} {B0 : Nat} {vs : Nat → Value} {cl : Nat → Cl} (h : StV w0 W B0 vs cl) {j : Nat} (hj : j < 16) {v1 : Value} {l1 : List Rq} (hg : W.grownBy W1 (vs j).ownBlock) (hr : OwnRow (RqR w0) 114 12 W1 w0.heap.size v1 l1)
    (hat : v1.ownBlock = (vs j).ownBlock ∨ ∃ b, v1.ownBlock = some b ∧ W.heap.size ≤ b) : StV w0 (W1.setCell ⟨B0, j * 2, none⟩ v1) B0 (upd vs j v1) (upd cl j ⟨l1, (cl j).last⟩) := by
  obtain ⟨cells, hB⟩ := h.blk
  have hlt : B0 < W.heap.size := blk_lt hB
  have hneB : some B0 ≠ (vs j).ownBlock := (h.row j hj).ne_block hB (by decide)
  have hB1 : W1.heap[B0]? = some (.cells cells 82 (0, 0)) := (hg.block B0 hlt hneB).trans hB
  have hcell : ∀ (k : Nat) (u : Value), W.cell? ⟨B0, k, none⟩ = some u → W1.cell? ⟨B0, k, none⟩ = some u := fun k u hu => (World.cell?_of_block (hg.block B0 hlt hneB)).trans hu
  have far' : ∀ i, i < 16 → i ≠ j → (vs i).ownBlock = none ∨ (vs i).ownBlock ≠ v1.ownBlock := fun i hi hne => by
    rcases hat with hat | ⟨b, hb, hle⟩
    · have := h.far i j hi hj hne
      rw [hat]; exact this
    · rcases he : (vs i).ownBlock with _ | k
      · exact .inl rfl
      · refine .inr fun hq => ?_
        obtain ⟨inner, ho, _⟩ := h.row i hi
        have := own_lt ho k he
        rw [hb] at hq
        injection hq with hq
        omega
  have hB' : Below w0.heap.size w0 W1 := pw_below_grown h.bel _ h.bel.size hg (fun k hk => by
    obtain ⟨inner, ho, _⟩ := h.row j hj
    exact own_base ho k hk)
  refine ⟨⟨_, blk_set hB1 _ _⟩, h.base, fun i hi => ?_, fun i hi => ?_, fun i hi => ?_, fun i k hi hk hne => ?_, below_set_ hB' h.base _⟩
  · by_cases e : i = j
    · subst e
      rw [upd_same]
      exact World.cell?_setCell_same' _ _ _ (by rw [hcell _ _ (h.val i hi)]; rfl)
    · rw [upd_ne _ _ e]
      exact cell_set_ne (hcell _ _ (h.val i hi)) (by omega)
  · have hn := cell_set_ne (j := j * 2) (u := v1) (hcell _ _ (h.num i hi)) (by omega)
    by_cases e : i = j
    · subst e
      rw [upd_same]
      exact hn
    · rw [upd_ne _ _ e]
      exact hn
  · by_cases e : i = j
    · subst e
      rw [upd_same, upd_same]
      exact hr.set_ hB1 (by decide) _ _
    · rw [upd_ne _ _ e, upd_ne _ _ e]
      exact ((h.row i hi).other hg (h.far i j hi hj e)).set_ hB1 (by decide) _ _
  · by_cases e : i = j
    · subst e
      rw [upd_same, upd_ne _ _ (Ne.symm hne)]
      have := far' k hk (Ne.symm hne)
      rcases this with this | this
      · rcases hv : v1.ownBlock with _ | b
        · exact .inl rfl
        · exact .inr (by rw [this]; simp)
      · exact .inr (Ne.symm this)
    · by_cases e' : k = j
      · subst e'
        rw [upd_same, upd_ne _ _ e]
        exact far' i hi e
      · rw [upd_ne _ _ e, upd_ne _ _ e']
        exact h.far i k hi hk hne
end Go.Proofs.YtiibjgnmdieicaaGreat.Hist
