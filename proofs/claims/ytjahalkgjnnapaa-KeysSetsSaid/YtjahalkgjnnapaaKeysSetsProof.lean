/- KeysSets: walked call by call; each callee by its printed contract and what the plain law says that it answers. -/
import Derived.Test.YtjahalkgjnnapaaRows
import Derived.WalkKit
import Derived.ProofKit
import Derived.OpenShut
import Derived.ChangeMaps5
import Derived.Test.YtjahalkgjnnapaaOpen
import Derived.Test.YtjahalkgjnnapaaPSa
namespace Go.Proofs.Ytjahalkgjnnapaa.keysSets
open Go.RowKit Go.Proofs.YtjahalkgjnnapaaW.PrintWords
/-- Rows of texts that stand in a world. -/
def Lv (W : World) (rows : List (Option Addr × List ByteArray)) : Prop := ∀ r ∈ rows, Kd.C Kd.string W r.1 r.2.length r.2
theorem Lv.below {W W' : World} {rows : List (Option Addr × List ByteArray)} (h : Lv W rows) (hb : Below W.heap.size W W') : Lv W' rows := fun r hr => Kd.C_below (h r hr) hb
theorem Lv.cons {W : World} {A : Option Addr} {l : List ByteArray} {rows : List (Option Addr × List ByteArray)} (hC : Kd.C Kd.string W A l.length l) (h : Lv W rows) : Lv W ((A, l) :: rows) := fun r hr => by
  rcases List.mem_cons.1 hr with rfl | hr
  · exact hC
  · exact h r hr
theorem Lv.at {W : World} {ad : Addr} {l : List ByteArray} {rows : List (Option Addr × List ByteArray)} (h : Lv W rows) (hm : (some ad, l) ∈ rows) {j : Nat} (hj : j < l.length) : W.cell? (ad.add j) = some (.string l[j]) := by
  obtain ⟨ad', e, hx⟩ := Kd.at_string (h _ hm) (j : Int) (by omega) (by show (j : Int) < (l.length : Int); omega)
  injection e with e
  subst e
  rw [Int.toNat_natCast] at hx
  rw [hx, G.rd_nat hj]
def Turn (w : World) (al : List ByteArray) (rows : List (Option Addr × List ByteArray)) (i : Value) (wr : World) : Prop := ∃ j : Nat, j ≤ al.length ∧ i = .int .i64 j ∧ Lv wr rows ∧ Below w.heap.size w wr
theorem get_hid {α : Type} {f : Nat → Option α} {v v' : α} (h : G.Ev f v) (e : v = v') : ∃ k, Hid (f k = some v') := by
  obtain ⟨k, hk⟩ := h.get
  exact ⟨k, (hk.trans (by rw [e]) : f k = some v')⟩
set_option maxHeartbeats 16000000 in
set_option maxRecDepth 100000 in
theorem walk0 (A_p : Option Addr) (c_p : Nat) (p : List ByteArray) (A_q : Option Addr) (c_q : Nat) (q : List ByteArray) (key : ByteArray) (w : World) (hp : Kd.C Kd.string w A_p p.length p) (hc_p : p.length ≤ c_p) (hq : Kd.C Kd.string w A_q q.length q) (hc_q : q.length ≤ c_q) :
    Calls Try.prog 5 #[.slice A_p p.length c_p, .slice A_q q.length c_q, .string key] w fun e w' => e = .returned (.bool true) ∧ Below w.heap.size w w' := by
  obtain ⟨a, ea, ra, na⟩ := G.once_ev p
  obtain ⟨b, eb, rb, nb⟩ := G.once_ev q
  have n1 := G.length_uni a b ra rb
  have n2 := G.length_mns a b
  have ru := G.rising_uni ra rb
  have rc := G.rising_com b ra
  have rm := G.rising_mns b ra
  obtain ⟨_, hal⟩ := get_hid G.alive_ev rfl
  obtain ⟨_, ha⟩ := get_hid ea rfl
  obtain ⟨_, hb⟩ := get_hid eb rfl
  obtain ⟨_, hU1⟩ := get_hid (G.keys_Union_ev a b (by omega) (by omega)) (G.union_is ra rb)
  obtain ⟨_, hU2⟩ := get_hid (G.keys_Union_ev b a (by omega) (by omega)) (show _ = (G.uni a b, (0 : Int)) by rw [G.union_is rb ra, G.uni_comm rb ra])
  obtain ⟨_, hC1⟩ := get_hid (G.keys_Common_ev a b (by omega) (by omega)) (G.common_is ra rb)
  obtain ⟨_, hC2⟩ := get_hid (G.keys_Common_ev b a (by omega) (by omega)) (show _ = (G.com a b, (0 : Int)) by rw [G.common_is rb ra, G.com_comm rb ra])
  obtain ⟨_, hM1⟩ := get_hid (G.keys_Minus_ev a b (by omega) (by omega)) (G.minus_is ra rb)
  obtain ⟨_, hU3⟩ := get_hid (G.keys_Union_ev (G.mns a b) (G.com a b) (by omega) (by omega)) (show _ = (a, (0 : Int)) by rw [G.union_is rm rc, G.uni_parts b ra])
  obtain ⟨_, hC3⟩ := get_hid (G.keys_Common_ev (G.mns a b) b (by omega) (by omega)) (show _ = (([] : List ByteArray), (0 : Int)) by rw [G.common_is rm rb, G.com_none])
  obtain ⟨_, hS1⟩ := get_hid (G.same_ev (G.uni a b) (by omega)) rfl
  obtain ⟨_, hS2⟩ := get_hid (G.same_ev (G.com a b) (by omega)) rfl
  obtain ⟨_, hS3⟩ := get_hid (G.same_ev a (by omega)) rfl
  obtain ⟨_, hRu⟩ := get_hid (G.keys_Rising_ev (G.uni a b) (by omega)) ru
  obtain ⟨_, hRc⟩ := get_hid (G.keys_Rising_ev (G.com a b) (by omega)) rc
  obtain ⟨_, hRm⟩ := get_hid (G.keys_Rising_ev (G.mns a b) (by omega)) rm
  have HL : Hid (Lv w [(A_p, p), (A_q, q)]) := Lv.cons hp (Lv.cons hq (fun r hr => by simp at hr))
  have HB : Hid (Below w.heap.size w w) := Below.refl _ _
  replace ru := Lib.hid ru
  replace rc := Lib.hid rc
  replace rm := Lib.hid rm
  replace ra := Lib.hid ra
  replace rb := Lib.hid rb
  clear hp hq ea eb
  go_enter Try.func5, Try.ntmps5
  go_wp2_with fail
  refine (G.rampartlaw04_alive.calls _ _ _ hal.out).mono ?_
  rintro e Wn ⟨rfl, hb⟩
  replace HL := Lib.hid (HL.out.below hb)
  replace HB := Lib.hid (HB.out.trans (hb.mono HB.out.size))
  clear hb
  go_wp2_with fail
  refine (G.rampartlaw04_once.calls _ _ _ p a _ (HL.out (A_p, p) (by simp)) hc_p ha.out).mono ?_
  rintro e Wn ⟨v, rfl, hV, hb⟩
  obtain ⟨A_a, c_a, rfl, hc_a, hC⟩ := Kd.R_reads hV
  replace HL := Lib.hid (Lv.cons hC (HL.out.below hb))
  replace HB := Lib.hid (HB.out.trans (hb.mono HB.out.size))
  clear hV hb hC
  go_wp2_with fail
  refine (G.rampartlaw04_once.calls _ _ _ q b _ (HL.out (A_q, q) (by simp)) hc_q hb.out).mono ?_
  rintro e Wn ⟨v, rfl, hV, hb⟩
  obtain ⟨A_b, c_b, rfl, hc_b, hC⟩ := Kd.R_reads hV
  replace HL := Lib.hid (Lv.cons hC (HL.out.below hb))
  replace HB := Lib.hid (HB.out.trans (hb.mono HB.out.size))
  clear hV hb hC
  go_wp2_with fail
  refine (G.rampartlaw04_own.calls _ _ a a _ (HL.out (A_a, a) (by simp)) hc_a (G.own_some a (by omega))).mono ?_
  rintro e Wn ⟨v, rfl, hV, hb⟩
  obtain ⟨A_o1, c_o1, rfl, hc_o1, hC⟩ := Kd.R_reads hV
  replace HL := Lib.hid (Lv.cons hC (HL.out.below hb))
  replace HB := Lib.hid (HB.out.trans (hb.mono HB.out.size))
  clear hV hb hC
  go_wp2_with fail
  refine (G.rampartlaw04_own.calls _ _ b b _ (HL.out (A_b, b) (by simp)) hc_b (G.own_some b (by omega))).mono ?_
  rintro e Wn ⟨v, rfl, hV, hb⟩
  obtain ⟨A_o2, c_o2, rfl, hc_o2, hC⟩ := Kd.R_reads hV
  replace HL := Lib.hid (Lv.cons hC (HL.out.below hb))
  replace HB := Lib.hid (HB.out.trans (hb.mono HB.out.size))
  clear hV hb hC
  go_wp2_with fail
  refine (G.keys_Union.calls _ _ _ a _ _ b (G.uni a b) 0 _ (HL.out (A_o1, a) (by simp)) hc_o1 (HL.out (A_o2, b) (by simp)) hc_o2 hU1.out).mono ?_
  rintro e Wn ⟨v, rfl, hV, hb⟩
  obtain ⟨A_u, c_u, rfl, hc_u, hC⟩ := Kd.R_reads hV
  replace HL := Lib.hid (Lv.cons hC (HL.out.below hb))
  replace HB := Lib.hid (HB.out.trans (hb.mono HB.out.size))
  clear hV hb hC
  go_wp2_with fail
  refine (G.rampartlaw04_own.calls _ _ b b _ (HL.out (A_b, b) (by simp)) hc_b (G.own_some b (by omega))).mono ?_
  rintro e Wn ⟨v, rfl, hV, hb⟩
  obtain ⟨A_o3, c_o3, rfl, hc_o3, hC⟩ := Kd.R_reads hV
  replace HL := Lib.hid (Lv.cons hC (HL.out.below hb))
  replace HB := Lib.hid (HB.out.trans (hb.mono HB.out.size))
  clear hV hb hC
  go_wp2_with fail
  refine (G.rampartlaw04_own.calls _ _ a a _ (HL.out (A_a, a) (by simp)) hc_a (G.own_some a (by omega))).mono ?_
  rintro e Wn ⟨v, rfl, hV, hb⟩
  obtain ⟨A_o4, c_o4, rfl, hc_o4, hC⟩ := Kd.R_reads hV
  replace HL := Lib.hid (Lv.cons hC (HL.out.below hb))
  replace HB := Lib.hid (HB.out.trans (hb.mono HB.out.size))
  clear hV hb hC
  go_wp2_with fail
  refine (G.keys_Union.calls _ _ _ b _ _ a (G.uni a b) 0 _ (HL.out (A_o3, b) (by simp)) hc_o3 (HL.out (A_o4, a) (by simp)) hc_o4 hU2.out).mono ?_
  rintro e Wn ⟨v, rfl, hV, hb⟩
  obtain ⟨A_v, c_v, rfl, hc_v, hC⟩ := Kd.R_reads hV
  replace HL := Lib.hid (Lv.cons hC (HL.out.below hb))
  replace HB := Lib.hid (HB.out.trans (hb.mono HB.out.size))
  clear hV hb hC
  go_wp2_with fail
  refine (G.rampartlaw04_own.calls _ _ a a _ (HL.out (A_a, a) (by simp)) hc_a (G.own_some a (by omega))).mono ?_
  rintro e Wn ⟨v, rfl, hV, hb⟩
  obtain ⟨A_o5, c_o5, rfl, hc_o5, hC⟩ := Kd.R_reads hV
  replace HL := Lib.hid (Lv.cons hC (HL.out.below hb))
  replace HB := Lib.hid (HB.out.trans (hb.mono HB.out.size))
  clear hV hb hC
  go_wp2_with fail
  refine (G.rampartlaw04_own.calls _ _ b b _ (HL.out (A_b, b) (by simp)) hc_b (G.own_some b (by omega))).mono ?_
  rintro e Wn ⟨v, rfl, hV, hb⟩
  obtain ⟨A_o6, c_o6, rfl, hc_o6, hC⟩ := Kd.R_reads hV
  replace HL := Lib.hid (Lv.cons hC (HL.out.below hb))
  replace HB := Lib.hid (HB.out.trans (hb.mono HB.out.size))
  clear hV hb hC
  go_wp2_with fail
  refine (G.keys_Common.calls _ _ _ a _ _ b (G.com a b) 0 _ (HL.out (A_o5, a) (by simp)) hc_o5 (HL.out (A_o6, b) (by simp)) hc_o6 hC1.out).mono ?_
  rintro e Wn ⟨v, rfl, hV, hb⟩
  obtain ⟨A_c, c_c, rfl, hc_c, hC⟩ := Kd.R_reads hV
  replace HL := Lib.hid (Lv.cons hC (HL.out.below hb))
  replace HB := Lib.hid (HB.out.trans (hb.mono HB.out.size))
  clear hV hb hC
  go_wp2_with fail
  refine (G.rampartlaw04_own.calls _ _ b b _ (HL.out (A_b, b) (by simp)) hc_b (G.own_some b (by omega))).mono ?_
  rintro e Wn ⟨v, rfl, hV, hb⟩
  obtain ⟨A_o7, c_o7, rfl, hc_o7, hC⟩ := Kd.R_reads hV
  replace HL := Lib.hid (Lv.cons hC (HL.out.below hb))
  replace HB := Lib.hid (HB.out.trans (hb.mono HB.out.size))
  clear hV hb hC
  go_wp2_with fail
  refine (G.rampartlaw04_own.calls _ _ a a _ (HL.out (A_a, a) (by simp)) hc_a (G.own_some a (by omega))).mono ?_
  rintro e Wn ⟨v, rfl, hV, hb⟩
  obtain ⟨A_o8, c_o8, rfl, hc_o8, hC⟩ := Kd.R_reads hV
  replace HL := Lib.hid (Lv.cons hC (HL.out.below hb))
  replace HB := Lib.hid (HB.out.trans (hb.mono HB.out.size))
  clear hV hb hC
  go_wp2_with fail
  refine (G.keys_Common.calls _ _ _ b _ _ a (G.com a b) 0 _ (HL.out (A_o7, b) (by simp)) hc_o7 (HL.out (A_o8, a) (by simp)) hc_o8 hC2.out).mono ?_
  rintro e Wn ⟨v, rfl, hV, hb⟩
  obtain ⟨A_d, c_d, rfl, hc_d, hC⟩ := Kd.R_reads hV
  replace HL := Lib.hid (Lv.cons hC (HL.out.below hb))
  replace HB := Lib.hid (HB.out.trans (hb.mono HB.out.size))
  clear hV hb hC
  go_wp2_with fail
  refine (G.rampartlaw04_own.calls _ _ a a _ (HL.out (A_a, a) (by simp)) hc_a (G.own_some a (by omega))).mono ?_
  rintro e Wn ⟨v, rfl, hV, hb⟩
  obtain ⟨A_o9, c_o9, rfl, hc_o9, hC⟩ := Kd.R_reads hV
  replace HL := Lib.hid (Lv.cons hC (HL.out.below hb))
  replace HB := Lib.hid (HB.out.trans (hb.mono HB.out.size))
  clear hV hb hC
  go_wp2_with fail
  refine (G.rampartlaw04_own.calls _ _ b b _ (HL.out (A_b, b) (by simp)) hc_b (G.own_some b (by omega))).mono ?_
  rintro e Wn ⟨v, rfl, hV, hb⟩
  obtain ⟨A_o10, c_o10, rfl, hc_o10, hC⟩ := Kd.R_reads hV
  replace HL := Lib.hid (Lv.cons hC (HL.out.below hb))
  replace HB := Lib.hid (HB.out.trans (hb.mono HB.out.size))
  clear hV hb hC
  go_wp2_with fail
  refine (G.keys_Minus.calls _ _ _ a _ _ b (G.mns a b) 0 _ (HL.out (A_o9, a) (by simp)) hc_o9 (HL.out (A_o10, b) (by simp)) hc_o10 hM1.out).mono ?_
  rintro e Wn ⟨v, rfl, hV, hb⟩
  obtain ⟨A_m, c_m, rfl, hc_m, hC⟩ := Kd.R_reads hV
  replace HL := Lib.hid (Lv.cons hC (HL.out.below hb))
  replace HB := Lib.hid (HB.out.trans (hb.mono HB.out.size))
  clear hV hb hC
  go_wp2_with fail
  refine (G.rampartlaw04_own.calls _ _ (G.mns a b) (G.mns a b) _ (HL.out (A_m, (G.mns a b)) (by simp)) hc_m (G.own_some (G.mns a b) (by omega))).mono ?_
  rintro e Wn ⟨v, rfl, hV, hb⟩
  obtain ⟨A_o11, c_o11, rfl, hc_o11, hC⟩ := Kd.R_reads hV
  replace HL := Lib.hid (Lv.cons hC (HL.out.below hb))
  replace HB := Lib.hid (HB.out.trans (hb.mono HB.out.size))
  clear hV hb hC
  go_wp2_with fail
  refine (G.rampartlaw04_own.calls _ _ (G.com a b) (G.com a b) _ (HL.out (A_c, (G.com a b)) (by simp)) hc_c (G.own_some (G.com a b) (by omega))).mono ?_
  rintro e Wn ⟨v, rfl, hV, hb⟩
  obtain ⟨A_o12, c_o12, rfl, hc_o12, hC⟩ := Kd.R_reads hV
  replace HL := Lib.hid (Lv.cons hC (HL.out.below hb))
  replace HB := Lib.hid (HB.out.trans (hb.mono HB.out.size))
  clear hV hb hC
  go_wp2_with fail
  refine (G.keys_Union.calls _ _ _ (G.mns a b) _ _ (G.com a b) a 0 _ (HL.out (A_o11, (G.mns a b)) (by simp)) hc_o11 (HL.out (A_o12, (G.com a b)) (by simp)) hc_o12 hU3.out).mono ?_
  rintro e Wn ⟨v, rfl, hV, hb⟩
  obtain ⟨A_w, c_w, rfl, hc_w, hC⟩ := Kd.R_reads hV
  replace HL := Lib.hid (Lv.cons hC (HL.out.below hb))
  replace HB := Lib.hid (HB.out.trans (hb.mono HB.out.size))
  clear hV hb hC
  go_wp2_with fail
  refine (G.rampartlaw04_own.calls _ _ (G.mns a b) (G.mns a b) _ (HL.out (A_m, (G.mns a b)) (by simp)) hc_m (G.own_some (G.mns a b) (by omega))).mono ?_
  rintro e Wn ⟨v, rfl, hV, hb⟩
  obtain ⟨A_o13, c_o13, rfl, hc_o13, hC⟩ := Kd.R_reads hV
  replace HL := Lib.hid (Lv.cons hC (HL.out.below hb))
  replace HB := Lib.hid (HB.out.trans (hb.mono HB.out.size))
  clear hV hb hC
  go_wp2_with fail
  refine (G.rampartlaw04_own.calls _ _ b b _ (HL.out (A_b, b) (by simp)) hc_b (G.own_some b (by omega))).mono ?_
  rintro e Wn ⟨v, rfl, hV, hb⟩
  obtain ⟨A_o14, c_o14, rfl, hc_o14, hC⟩ := Kd.R_reads hV
  replace HL := Lib.hid (Lv.cons hC (HL.out.below hb))
  replace HB := Lib.hid (HB.out.trans (hb.mono HB.out.size))
  clear hV hb hC
  go_wp2_with fail
  refine (G.keys_Common.calls _ _ _ (G.mns a b) _ _ b [] 0 _ (HL.out (A_o13, (G.mns a b)) (by simp)) hc_o13 (HL.out (A_o14, b) (by simp)) hc_o14 hC3.out).mono ?_
  rintro e Wn ⟨v, rfl, hV, hb⟩
  obtain ⟨A_z, c_z, rfl, hc_z, hC⟩ := Kd.R_reads hV
  replace HL := Lib.hid (Lv.cons hC (HL.out.below hb))
  replace HB := Lib.hid (HB.out.trans (hb.mono HB.out.size))
  clear hV hb hC
  go_wp2_with fail
  refine (G.rampartlaw04_same.calls _ _ _ (G.uni a b) _ _ (G.uni a b) true _ (HL.out (A_u, (G.uni a b)) (by simp)) hc_u (HL.out (A_v, (G.uni a b)) (by simp)) hc_v hS1.out).mono ?_
  rintro e Wn ⟨rfl, hd⟩
  have hb := hd.below
  replace HL := Lib.hid (HL.out.below hb)
  replace HB := Lib.hid (HB.out.trans (hb.mono HB.out.size))
  clear hb hd
  go_wp2_with fail
  refine (G.rampartlaw04_same.calls _ _ _ (G.com a b) _ _ (G.com a b) true _ (HL.out (A_c, (G.com a b)) (by simp)) hc_c (HL.out (A_d, (G.com a b)) (by simp)) hc_d hS2.out).mono ?_
  rintro e Wn ⟨rfl, hd⟩
  have hb := hd.below
  replace HL := Lib.hid (HL.out.below hb)
  replace HB := Lib.hid (HB.out.trans (hb.mono HB.out.size))
  clear hb hd
  go_wp2_with fail
  refine (G.rampartlaw04_same.calls _ _ _ a _ _ a true _ (HL.out (A_w, a) (by simp)) hc_w (HL.out (A_a, a) (by simp)) hc_a hS3.out).mono ?_
  rintro e Wn ⟨rfl, hd⟩
  have hb := hd.below
  replace HL := Lib.hid (HL.out.below hb)
  replace HB := Lib.hid (HB.out.trans (hb.mono HB.out.size))
  clear hb hd
  go_wp2_with fail
  refine (G.rampartlaw04_own.calls _ _ (G.uni a b) (G.uni a b) _ (HL.out (A_u, (G.uni a b)) (by simp)) hc_u (G.own_some (G.uni a b) (by omega))).mono ?_
  rintro e Wn ⟨v, rfl, hV, hb⟩
  obtain ⟨A_o15, c_o15, rfl, hc_o15, hC⟩ := Kd.R_reads hV
  replace HL := Lib.hid (Lv.cons hC (HL.out.below hb))
  replace HB := Lib.hid (HB.out.trans (hb.mono HB.out.size))
  clear hV hb hC
  go_wp2_with fail
  refine (G.keys_Rising.calls _ _ _ (G.uni a b) true _ (HL.out (A_o15, (G.uni a b)) (by simp)) hc_o15 hRu.out).mono ?_
  rintro e Wn ⟨rfl, hd⟩
  have hb := hd.below
  replace HL := Lib.hid (HL.out.below hb)
  replace HB := Lib.hid (HB.out.trans (hb.mono HB.out.size))
  clear hb hd
  go_wp2_with fail
  refine (G.rampartlaw04_own.calls _ _ (G.com a b) (G.com a b) _ (HL.out (A_c, (G.com a b)) (by simp)) hc_c (G.own_some (G.com a b) (by omega))).mono ?_
  rintro e Wn ⟨v, rfl, hV, hb⟩
  obtain ⟨A_o16, c_o16, rfl, hc_o16, hC⟩ := Kd.R_reads hV
  replace HL := Lib.hid (Lv.cons hC (HL.out.below hb))
  replace HB := Lib.hid (HB.out.trans (hb.mono HB.out.size))
  clear hV hb hC
  go_wp2_with fail
  refine (G.keys_Rising.calls _ _ _ (G.com a b) true _ (HL.out (A_o16, (G.com a b)) (by simp)) hc_o16 hRc.out).mono ?_
  rintro e Wn ⟨rfl, hd⟩
  have hb := hd.below
  replace HL := Lib.hid (HL.out.below hb)
  replace HB := Lib.hid (HB.out.trans (hb.mono HB.out.size))
  clear hb hd
  go_wp2_with fail
  refine (G.rampartlaw04_own.calls _ _ (G.mns a b) (G.mns a b) _ (HL.out (A_m, (G.mns a b)) (by simp)) hc_m (G.own_some (G.mns a b) (by omega))).mono ?_
  rintro e Wn ⟨v, rfl, hV, hb⟩
  obtain ⟨A_o17, c_o17, rfl, hc_o17, hC⟩ := Kd.R_reads hV
  replace HL := Lib.hid (Lv.cons hC (HL.out.below hb))
  replace HB := Lib.hid (HB.out.trans (hb.mono HB.out.size))
  clear hV hb hC
  go_wp2_with fail
  refine (G.keys_Rising.calls _ _ _ (G.mns a b) true _ (HL.out (A_o17, (G.mns a b)) (by simp)) hc_o17 hRm.out).mono ?_
  rintro e Wn ⟨rfl, hd⟩
  have hb := hd.below
  replace HL := Lib.hid (HL.out.below hb)
  replace HB := Lib.hid (HB.out.trans (hb.mono HB.out.size))
  clear hb hd
  go_wp2_with fail
  refine (G.rampartlaw04_own.calls _ _ a a _ (HL.out (A_a, a) (by simp)) hc_a (G.own_some a (by omega))).mono ?_
  rintro e Wo ⟨v2, rfl, hV, hb⟩
  have hCb : Hid (Kd.C Kd.string Wo A_b b.length b) := (HL.out.below hb) (A_b, b) (by simp)
  replace hV := Lib.hid hV
  replace hb := Lib.hid hb
  go_wp2_with (first | (at_builtin; refine Kd.R_append_row (P := Try.prog) Value.string ByteArray.empty (w0 := Wo) Wn.heap.size rfl (.tmp 159) (.tmp 160) 22 9 (.string ByteArray.empty) 16 rfl Try.underlying22 Hand.info9 rfl (by omega) v2 a b A_b b.length c_b (fun _ => True) rfl rfl (fun _ _ => trivial) hV.out hCb.out (Below.refl _ _) hb.out.size (by omega) ?_; intro v3 W3 hR3 hb3 _ _; replace hR3 := Lib.hid hR3; replace hb3 := Lib.hid hb3) | (at_builtin; refine Kd.R_append (P := Try.prog) Kd.string (w0 := W3) Wn.heap.size rfl (.tmp 161) (.tmp 163) 22 9 (.string ByteArray.empty) 16 rfl Try.underlying22 Hand.info9 rfl (by decide) (by omega) v3 (a ++ b) key [.string key] (fun _ => True) (fun _ => False) rfl rfl rfl (fun _ hk => hk.elim) (fun _ _ => trivial) hR3.out (Below.refl _ _) (Nat.le_trans hb.out.size hb3.out.size) (by rw [List.length_append]; omega) ?_; intro v4 W4 hR4 hb4 _ _; obtain ⟨al, hal⟩ : ∃ al, al = a ++ b ++ [key] := ⟨_, rfl⟩; rw [← hal] at hR4; obtain ⟨A_l, c_l, rfl, hc_l, hCl⟩ := Kd.R_reads hR4; replace hal := Lib.hid hal; replace hCl := Lib.hid hCl; replace hb4 := Lib.hid hb4; clear hR4))
  have hbT : Below Wn.heap.size Wn W4 := hb.out.trans (hb3.out.trans hb4.out)
  have nl : al.length = a.length + b.length + 1 := by rw [hal.out]; simp; omega
  obtain ⟨ad_l, rfl⟩ : ∃ ad, A_l = some ad := by
    obtain ⟨ad, e, _⟩ := Kd.at_string hCl.out 0 (by omega) (by omega)
    exact ⟨ad, e⟩
  replace HL : Hid (Lv W4 ((some ad_l, al) :: [(A_o17, (G.mns a b)), (A_o16, (G.com a b)), (A_o15, (G.uni a b)), (A_z, []), (A_o14, b), (A_o13, (G.mns a b)), (A_w, a), (A_o12, (G.com a b)), (A_o11, (G.mns a b)), (A_m, (G.mns a b)), (A_o10, b), (A_o9, a), (A_d, (G.com a b)), (A_o8, a), (A_o7, b), (A_c, (G.com a b)), (A_o6, b), (A_o5, a), (A_v, (G.uni a b)), (A_o4, a), (A_o3, b), (A_u, (G.uni a b)), (A_o2, b), (A_o1, a), (A_b, b), (A_a, a), (A_p, p), (A_q, q)])) := Lv.cons hCl.out (HL.out.below hbT)
  replace HB : Hid (Below w.heap.size w W4) := HB.out.trans (hbT.mono HB.out.size)
  clear hbT hb hb3 hb4 hCl hCb hV hR3 hal
  replace HL : Hid (Lv W4 ((some ad_l, al) :: [(A_m, (G.mns a b)), (A_c, (G.com a b)), (A_u, (G.uni a b)), (A_b, b), (A_a, a)])) := fun r hr => HL.out r (by simp at hr ⊢; rcases hr with h | h | h | h | h | h <;> simp [h])
  clear hc_o1  hc_o2  hc_o3  hc_o4  hc_v  hc_o5  hc_o6  hc_o7  hc_o8  hc_d  hc_o9  hc_o10  hc_o11  hc_o12  hc_w  hc_o13  hc_o14  hc_z  hc_o15  hc_o16  hc_o17  hc_p hc_q hU1 hU2 hU3 hC1 hC2 hC3 hM1 hS1 hS2 hS3 hRu hRc hRm ha
  have nu : (G.uni a b).length ≤ 600 := by omega
  have nc : (G.com a b).length ≤ 300 := by omega
  have nm : (G.mns a b).length ≤ 300 := by omega
  have nx : al.length ≤ 601 := by omega
  replace n1 := Lib.hid n1
  replace n2 := Lib.hid n2
  replace nl := Lib.hid nl
  go_loopw [25] (fun i wr => Turn w al ((some ad_l, al) :: [(A_m, (G.mns a b)), (A_c, (G.com a b)), (A_u, (G.uni a b)), (A_b, b), (A_a, a)]) i wr) (fun i _ => al.length - (intOf i).toNat)
  case atStart => exact ⟨0, Nat.zero_le _, rfl, HL.out, HB.out⟩
  case round =>
    clear HL HB
    obtain ⟨j, hj, rfl, HL, HB⟩ := hrel
    replace HL := Lib.hid HL
    replace HB := Lib.hid HB
    by_cases hlt : j < al.length
    · have hcell := HL.out.at (ad := ad_l) (l := al) (by simp) hlt
      obtain ⟨t, ht⟩ : ∃ t, t = al[j] := ⟨_, rfl⟩
      rw [← ht] at hcell
      replace ht := Lib.hid ht
      obtain ⟨ba, hba⟩ : ∃ x, x = decide (t ∈ a) := ⟨_, rfl⟩
      obtain ⟨bb, hbb⟩ : ∃ x, x = decide (t ∈ b) := ⟨_, rfl⟩
      obtain ⟨_, hHa⟩ := get_hid (G.keys_Has_ev a t (by omega)) (show _ = ba by rw [G.has_is t ra.out, hba])
      obtain ⟨_, hHb⟩ := get_hid (G.keys_Has_ev b t (by omega)) (show _ = bb by rw [G.has_is t rb.out, hbb])
      obtain ⟨_, hHu⟩ := get_hid (G.keys_Has_ev (G.uni a b) t (by omega)) (show _ = (ba || bb) by rw [G.has_is t ru.out, hba, hbb, ← Bool.decide_or]; exact decide_eq_decide.2 G.mem_uni)
      obtain ⟨_, hHc⟩ := get_hid (G.keys_Has_ev (G.com a b) t (by omega)) (show _ = (ba && bb) by rw [G.has_is t rc.out, hba, hbb, ← Bool.decide_and]; exact decide_eq_decide.2 G.mem_com)
      obtain ⟨_, hHm⟩ := get_hid (G.keys_Has_ev (G.mns a b) t (by omega)) (show _ = (ba && !bb) by rw [G.has_is t rm.out, hba, hbb, ← decide_not, ← Bool.decide_and]; exact decide_eq_decide.2 G.mem_mns)
      clear hba hbb
      cases ba <;> cases bb
      all_goals
        go_wp2_with fail
        refine (G.keys_Has.calls _ _ _ a t _ _ (HL.out (A_a, a) (by simp)) hc_a hHa.out).mono ?_
        rintro e Wn ⟨rfl, hd⟩
        have hb := hd.below
        replace HL := Lib.hid (HL.out.below hb)
        replace HB := Lib.hid (HB.out.trans (hb.mono HB.out.size))
        clear hcell
        have hcell := HL.out.at (ad := ad_l) (l := al) (by simp) hlt
        rw [← ht.out] at hcell
        clear hb hd
        go_wp2_with fail
        refine (G.keys_Has.calls _ _ _ b t _ _ (HL.out (A_b, b) (by simp)) hc_b hHb.out).mono ?_
        rintro e Wn ⟨rfl, hd⟩
        have hb := hd.below
        replace HL := Lib.hid (HL.out.below hb)
        replace HB := Lib.hid (HB.out.trans (hb.mono HB.out.size))
        clear hcell
        have hcell := HL.out.at (ad := ad_l) (l := al) (by simp) hlt
        rw [← ht.out] at hcell
        clear hb hd
        go_wp2_with fail
        refine (G.keys_Has.calls _ _ _ (G.uni a b) t _ _ (HL.out (A_u, (G.uni a b)) (by simp)) hc_u hHu.out).mono ?_
        rintro e Wn ⟨rfl, hd⟩
        have hb := hd.below
        replace HL := Lib.hid (HL.out.below hb)
        replace HB := Lib.hid (HB.out.trans (hb.mono HB.out.size))
        clear hcell
        have hcell := HL.out.at (ad := ad_l) (l := al) (by simp) hlt
        rw [← ht.out] at hcell
        clear hb hd
        go_wp2_with fail
        refine (G.keys_Has.calls _ _ _ (G.com a b) t _ _ (HL.out (A_c, (G.com a b)) (by simp)) hc_c hHc.out).mono ?_
        rintro e Wn ⟨rfl, hd⟩
        have hb := hd.below
        replace HL := Lib.hid (HL.out.below hb)
        replace HB := Lib.hid (HB.out.trans (hb.mono HB.out.size))
        clear hcell
        have hcell := HL.out.at (ad := ad_l) (l := al) (by simp) hlt
        rw [← ht.out] at hcell
        clear hb hd
        go_wp2_with fail
        refine (G.keys_Has.calls _ _ _ (G.mns a b) t _ _ (HL.out (A_m, (G.mns a b)) (by simp)) hc_m hHm.out).mono ?_
        rintro e Wn ⟨rfl, hd⟩
        have hb := hd.below
        replace HL := Lib.hid (HL.out.below hb)
        replace HB := Lib.hid (HB.out.trans (hb.mono HB.out.size))
        clear hcell
        have hcell := HL.out.at (ad := ad_l) (l := al) (by simp) hlt
        rw [← ht.out] at hcell
        clear hb hd
        go_wp2
        go_round
        case rel => exact ⟨j + 1, by omega, by go_num, HL.out, HB.out⟩
        case measure => simp [intOf]; omega
    · obtain rfl : j = al.length := by omega
      have n1 := n1.out
      have n2 := n2.out
      have m1 : (G.uni a b).length = a.length + b.length - (G.com a b).length := by omega
      have m2 : (G.mns a b).length = a.length - (G.com a b).length := by omega
      go_wp2
      go_ret
      have z : ((((a.length - (G.com a b).length : Nat) : Int) == (a.length : Int) - ((G.com a b).length : Int))) = true := by rw [beq_iff_eq]; omega
      exact ⟨by show Ending.returned (Value.bool (((a.length - (G.com a b).length : Nat) : Int) == (a.length : Int) - ((G.com a b).length : Int))) = _; rw [z], HB.out⟩
end Go.Proofs.Ytjahalkgjnnapaa.keysSets
namespace Go.Proofs.Ytjahalkgjnnapaa.keysSets
open Go.ChangeShapes Go.WideShapes Go.ChangeAt Go.RowKit
set_option linter.unusedVariables false

theorem walk {H : Type} {enc : TypeId × Value → H} {base : Nat} {ts : List Nat} {dd : List (DataW H)}
    (v0 : Value) (d0 : DataW H) (p0 : List MemPlace) {w : World} (hv0 : Value.okWide Try.prog w .any base 22 v0) (h0 : DataW.Trod enc Try.prog w 0 (fun _ => true) true 22 v0 d0 p0) (hl0 : ∀ y ∈ p0, y.block < w.heap.size)
    (v1 : Value) (d1 : DataW H) (p1 : List MemPlace) (hv1 : Value.okWide Try.prog w .any base 22 v1) (h1 : DataW.Trod enc Try.prog w 0 (fun _ => true) true 22 v1 d1 p1) (hl1 : ∀ y ∈ p1, y.block < w.heap.size)
    (a2 : ByteArray) (w2 : a2.size ≤ maxLen) (hsz : (DataW.weightsEach Try.prog ts dd).all (· ≤ reachBytes) = true) :
    Calls Try.prog 5 #[v0, v1, .string a2] w fun e w' => e = .returned (.bool true) ∧ Below w.heap.size w w' := by
  obtain ⟨A0, l0, c0, rfl, hr0, hc0⟩ := G.open_texts hv0 h0
  obtain ⟨A1, l1, c1, rfl, hr1, hc1⟩ := G.open_texts hv1 h1
  exact walk0 A0 c0 l0 A1 c1 l1 a2 w hr0 hc0 hr1 hc1

/-! ### the row's step -/
theorem own : ownKnob Try.prog.godebug = none := by kernel_rfl
theorem laidOut : laidOutB Try.prog = true := by kernel_rfl
set_option maxHeartbeats 800000 in
set_option maxRecDepth 100000 in
theorem lifted (os : Os) (started : os.Started) (H : Type) (enc : TypeId × Value → H) :
    ReturnsInHanded {} Try.checked os 5 .any (Rows.keysSetsSpec.pre6 enc Try.prog Try.f5 Rows.keysSetsRow.domain false) (Rows.keysSetsSpec.post enc Try.prog Try.f5 false true false false) := by
  refine returnsInHanded_of_change_sized (C := Try.checked) own started (by kernel_rfl) Try.func5
    (ChangeSpec.witness6 (enc := enc) (C := Try.checked) false ⟨#[], #[.slice none 0 0, .slice none 0 0, .string ⟨#[]⟩], []⟩ 8 (by kernel_rfl) (by kernel_rfl) (by kernel_rfl) (by kernel_rfl)) ?_
  intro W base args ds gs before hval0 hW _ hsz0 _
  have hsz : (DataW.weightsEach Try.prog (Try.f5.params.toList ++ Rows.keysSetsSpec.plain.varTypes Try.prog) (ds ++ gs)).all (· ≤ reachBytes) = true := hsz0
  clear hsz0
  have hval : ∀ (j : Nat) t v, Try.f5.params[j]? = some t → args[j]? = some v → Value.okWide Try.prog W .any base t v := hval0
  have hW' := hW
  obtain ⟨p, q, hA0, hV, rfl, _, _⟩ := hW
  have hA : DataW.TrodAll enc Try.prog W 0 (fun _ => true) true Try.f5.params.toList args.toList ds p := hA0
  rw [Try.params5] at hA hval hsz
  obtain ⟨v0, vs0, d0, ds0, p0, q0, hargs, rfl, rfl, h0, r0⟩ := trodAll_cons hA
  obtain ⟨v1, vs1, d1, ds1, p1, q1, rfl, rfl, rfl, h1, r1⟩ := trodAll_cons r0
  obtain ⟨v2, vs2, d2, ds2, p2, q2, rfl, rfl, rfl, h2, r2⟩ := trodAll_cons r1
  obtain ⟨rfl, rfl, rfl⟩ := trodAll_nil r2
  obtain rfl : args = #[v0, v1, v2] := by cases args; simp_all
  obtain ⟨rfl, rfl⟩ := trodVars_none hV
  clear hA0 hval0
  simp only [List.append_nil] at hW'
  have hlt : ∀ y ∈ p0 ++ (p1 ++ (p2)), y.block < W.heap.size := fun y hy => by simpa using hW'.lt y (by simpa using hy)
  have l0 : ∀ y ∈ p0, y.block < W.heap.size := fun y hy => hlt y (by simp [hy])
  have l1 : ∀ y ∈ p1, y.block < W.heap.size := fun y hy => hlt y (by simp [hy])
  have l2 : ∀ y ∈ p2, y.block < W.heap.size := fun y hy => hlt y (by simp [hy])
  have k0 := h0
  have k1 := h1
  have k2 := h2
  obtain ⟨a2, rfl, rfl, rfl, w2⟩ := Go.ChangeMaps.open_string Try.underlying9 (hval 2 9 v2 rfl rfl) h2
  refine (walk v0 d0 p0 (hval 0 22 v0 rfl rfl) k0 l0 v1 d1 p1 (hval 1 22 v1 rfl rfl) k1 l1 a2 w2 hsz).mono fun e W' ⟨he, hn⟩ => ?_
  subst he
  have g0 := Below.trod laidOut (by kernel_rfl) (of_decide_eq_true (by kernel_rfl)) k0 hn l0
  have g1 := Below.trod laidOut (by kernel_rfl) (of_decide_eq_true (by kernel_rfl)) k1 hn l1
  have g2 := Below.trod laidOut (by kernel_rfl) (of_decide_eq_true (by kernel_rfl)) k2 hn l2
  exact ⟨_, rfl, _, _, _, [], _, [], hW', trodAll_cons_mk (shut_bool Try.underlying4 _) trodAll_mk0, (trodAll_cons_mk g0 (trodAll_cons_mk g1 (trodAll_cons_mk g2 trodAll_mk0))), rfl, hn.frame _, fun h => by cases h⟩

theorem over : Rows.keysSetsRow.holds Try.pinned (OpenSpec.ofChange Rows.keysSetsSpec) :=
  OpenClaim.holds_of_wide 5 Try.f5 rfl rfl rfl rfl rfl rfl rfl ⟨rfl, rfl, rfl, rfl, rfl⟩ rfl rfl rfl rfl rfl (by kernel_rfl) Try.func5 (by kernel_rfl)
    (of_decide_eq_true (by kernel_rfl)) (by unfold Func.isWrapper; first | (rw [if_pos (by decide +kernel)]; kernel_rfl) | (rw [if_neg (by decide +kernel)]; exact ⟨rfl, rfl⟩))
    (fun os started H enc _ => lifted os started H enc)

/-- the statement -/
theorem proved : Rows.KeysSetsSaid :=
  over
#print axioms proved
end Go.Proofs.Ytjahalkgjnnapaa.keysSets
