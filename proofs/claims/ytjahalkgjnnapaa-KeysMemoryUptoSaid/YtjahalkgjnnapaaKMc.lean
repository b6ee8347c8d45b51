/- KeysMemory: the words of its second half, in which the lists that were handed in are written over. -/
import Derived.Test.YtjahalkgjnnapaaKMb
namespace Go.Proofs.Ytjahalkgjnnapaa.keysMemory
open Go.RowKit Go.Proofs.YtjahalkgjnnapaaW.PrintWords
def wl (a : List ByteArray) (j : Nat) : List ByteArray := (a.take j).map G.wS ++ (a.drop j ++ [t1, t2])
def gx (l : List G.S41) (j : Nat) : List G.S41 := (l.take j).map (fun p => (⟨p.f0, sx⟩ : G.S41)) ++ (l.drop j ++ [⟨t3, ⟨#[]⟩⟩])
theorem set_mid {α : Type} (a b : List α) (x y : α) (j : Nat) (h : a.length = j) : (a ++ x :: b).set j y = a ++ y :: b := by
  subst h
  simp
theorem wl_len (a : List ByteArray) (j : Nat) (h : j ≤ a.length) : (wl a j).length = a.length + 2 := by simp [wl]; omega
theorem gx_len (l : List G.S41) (j : Nat) (h : j ≤ l.length) : (gx l j).length = l.length + 1 := by simp [gx]; omega
theorem wl_step (a : List ByteArray) {j : Nat} (h : j < a.length) : (wl a j).set j (G.wS a[j]) = wl a (j + 1) := by
  unfold wl
  rw [List.drop_eq_getElem_cons h, List.cons_append, set_mid _ _ _ _ _ (by simp; omega), List.take_succ_eq_append_getElem h, List.map_append, List.append_assoc]
  rfl
theorem gx_step (l : List G.S41) {j : Nat} (h : j < l.length) : (gx l j).set j ⟨l[j].f0, sx⟩ = gx l (j + 1) := by
  unfold gx
  rw [List.drop_eq_getElem_cons h, List.cons_append, set_mid _ _ _ _ _ (by simp; omega), List.take_succ_eq_append_getElem h, List.map_append, List.append_assoc]
  rfl
theorem gx_at (l : List G.S41) {j : Nat} (h : j < l.length) (h' : j < (gx l j).length) : (gx l j)[j] = l[j] := by
  have hl : ((l.take j).map (fun p => (⟨p.f0, sx⟩ : G.S41))).length = j := by simp; omega
  have : (gx l j)[j]? = some l[j] := by
    unfold gx
    rw [List.getElem?_append_right (by omega), hl, Nat.sub_self, List.drop_eq_getElem_cons h]
    rfl
  rw [List.getElem?_eq_getElem h'] at this
  exact Option.some.inj this
theorem wl_end (a : List ByteArray) : wl a a.length = a.map G.wS ++ [t1, t2] := by simp [wl]
theorem gx_end (l : List G.S41) : gx l l.length = l.map (fun p => (⟨p.f0, sx⟩ : G.S41)) ++ [⟨t3, ⟨#[]⟩⟩] := by simp [gx]
theorem wl_none (a : List ByteArray) : wl a 0 = a ++ [t1, t2] := by simp [wl]
theorem gx_none (l : List G.S41) : gx l 0 = l ++ [⟨t3, ⟨#[]⟩⟩] := by simp [gx]
theorem flat_set (v : ByteArray) : ∀ (l : List Hand.Pr) (i : Nat) (h : i < l.length), (Hand.flat l).set (i * 2 + 1) (.string v) = Hand.flat (l.set i (l[i].1, v))
  | p :: r, 0, _ => by simp [Hand.flat, Hand.enc2]
  | p :: r, i + 1, h => by
    have ih := flat_set v r i (by simpa using h)
    rw [show (i + 1) * 2 + 1 = (i * 2 + 1) + 1 + 1 from by omega]
    simpa [Hand.flat, Hand.enc2] using ih
/-- a row of pairs -/
def Prs (W : World) (base : Nat) (v : Value) (l : List G.S41) : Prop := W.ownsRow base 41 2 v l.length (Hand.flat (l.map G.pr41))
theorem Prs.of {W : World} {base : Nat} {ok : Nat → Prop} {v : Value} {l : List G.S41} (h : Kd.R G.k41 41 W base ok v l) : Prs W base v l := by
  obtain ⟨_, inner, ho, hr⟩ := h
  have e : inner = Hand.flat (l.map G.pr41) := Hand.reps_eq (R := fun p c => c = Hand.enc2 p) (fun _ _ h => h) ⟨by rw [List.length_map]; exact hr.1, fun j p hj => by
    rw [List.getElem?_map] at hj
    obtain ⟨q, hq, rfl⟩ := Option.map_eq_some_iff.1 hj
    exact G.k41_openM (hr.2 j q hq)⟩
  subst e
  exact ho
theorem Prs.R {W : World} {base : Nat} {v : Value} {l : List G.S41} (h : Prs W base v l) : Kd.R G.k41 41 W base (fun _ => True) v l := by
  have h2 : W.ownsRow base 41 2 v l.length (Hand.flat (l.map G.pr41)) := h
  exact G.R41 h2
theorem Prs.store {W : World} {base g n c : Nat} {l : List G.S41} (h : Prs W base (.slice (some ⟨g, 0, none⟩) n c) l) (hn : n = l.length) {i : Nat} (hi : i < l.length) (v : ByteArray) :
    Prs (W.setCell ⟨g, i * 2 + 1, none⟩ (.string v)) base (.slice (some ⟨g, 0, none⟩) n c) (l.set i ⟨l[i].f0, v⟩) ∧ W.grownBy (W.setCell ⟨g, i * 2 + 1, none⟩ (.string v)) (some g) := by
  subst hn
  obtain ⟨h1, h2⟩ := World.ownsRow.stored (g := g) h (i * 2 + 1) (.string v)
  refine ⟨?_, h2⟩
  unfold Prs
  rw [List.length_set]
  rw [flat_set v _ _ (by simpa using hi)] at h1
  have e : (l.map G.pr41).set i (((l.map G.pr41)[i]'(by simpa using hi)).1, v) = (l.set i ⟨l[i].f0, v⟩).map G.pr41 := by
    rw [List.map_set]
    simp [G.pr41]
  rw [e] at h1
  exact h1
theorem Prs.at {W : World} {base g n c : Nat} {l : List G.S41} (h : Prs W base (.slice (some ⟨g, 0, none⟩) n c) l) {i : Nat} (hi : i < l.length) : W.cell? ⟨g, i * 2 + 1, none⟩ = some (.string l[i].f1) ∧ W.frozen? ⟨g, i * 2 + 1, none⟩ = false ∧ g < W.heap.size := by
  obtain ⟨A, c', e, _, hC⟩ := Kd.R_reads h.R
  obtain rfl : (some ⟨g, 0, none⟩ : Option Addr) = A := by injection e
  have hc := (pairs_at hC rfl hi).2
  refine ⟨hc, ?_, World.block_lt_of_cell? W _ hc⟩
  rcases h.2 with ⟨h', _⟩ | ⟨g', cap', cur, h', _, hh, _⟩
  · cases h'
  · have : g = g' := by injection h' with h'; injection h' with h'; injection h' with h'
    subst this
    simp [World.frozen?, hh]
/-- nothing but two blocks, and what is new, has turned -/
def Sm (W4 wr : World) (F G0 : Nat) : Prop := W4.heap.size ≤ wr.heap.size ∧ ∀ k, k < W4.heap.size → k ≠ F → k ≠ G0 → wr.heap[k]? = W4.heap[k]?
theorem Sm.refl (W : World) (F G0 : Nat) : Sm W W F G0 := ⟨Nat.le_refl _, fun _ _ _ _ => rfl⟩
theorem Sm.set {W4 wr : World} {F G0 : Nat} (h : Sm W4 wr F G0) {p : Addr} (hp : p.block = F ∨ p.block = G0) (u : Value) : Sm W4 (wr.setCell p u) F G0 :=
  ⟨by simpa [World.setCell] using h.1, fun k hk h1 h2 => by
    rw [Below.heap_setCell wr p u k (by rintro rfl; rcases hp with hp | hp <;> omega)]
    exact h.2 k hk h1 h2⟩
theorem Sm.all {W4 wr : World} {F G0 B : Nat} (h : Sm W4 wr F G0) (h1 : F < B) (h2 : G0 < B) {rs : List Rws.Rw} (hA : Rws.All W4 B rs) : Rws.All wr B rs :=
  ⟨fun i hi => own_move (hA.1 i hi) (fun k hk => h.2 k (own_lt (hA.1 i hi) k hk) (by have := own_base (hA.1 i hi) k hk; omega) (by have := own_base (hA.1 i hi) k hk; omega)), hA.2⟩
theorem Sm.own {W4 wr : World} {F G0 B e size n : Nat} (h : Sm W4 wr F G0) (h1 : F < B) (h2 : G0 < B) {v : Value} {xs : List Value} (ho : W4.ownsRow B e size v n xs) : wr.ownsRow B e size v n xs :=
  own_move ho (fun k hk => h.2 k (own_lt ho k hk) (by have := own_base ho k hk; omega) (by have := own_base ho k hk; omega))
theorem Sm.nrm {W4 wr : World} {F G0 B : Nat} (h : Sm W4 wr F G0) (h1 : F < B) (h2 : G0 < B) {v : Value} {hs : List Value} {nl : List G.S41} (hN : Nrm W4 B v hs nl) : Nrm wr B v hs nl :=
  ⟨h.own h1 h2 hN.1, fun x hx => Kd.R_step (hN.2 x hx) (fun k hk hlt => h.2 k hlt (by omega) (by omega))⟩
theorem Sm.was {W4 wr : World} {F G0 B : Nat} (h : Sm W4 wr F G0) (h1 : F < B) (h2 : G0 < B) {rs : List Rws.Rw} {v : Value} {vs : List Value} (hW : Was W4 B rs v vs) : Was wr B rs v vs :=
  ⟨h.own h1 h2 hW.1, fun t ht => by
    obtain ⟨A, c, e, hl, hC⟩ := hW.2 t ht
    exact ⟨A, c, e, hl, h.own h1 h2 hC⟩⟩
theorem Sm.cell {W4 wr : World} {F G0 : Nat} (h : Sm W4 wr F G0) {a : Addr} {v : Value} (hc : W4.cell? a = some v) (h1 : a.block ≠ F) (h2 : a.block ≠ G0) : wr.cell? a = some v :=
  (World.cell?_of_block (h.2 a.block (World.block_lt_of_cell? W4 a hc) h1 h2)).trans hc
theorem add_block (a : Addr) (j : Nat) : (a.add j).block = a.block := by unfold Addr.add; split <;> rfl
def RelL (w wc Wf W4 : World) (a1 : List ByteArray) (gl : List G.S41) (F cF G0 c6 : Nat) (s31 : Value) (wr : World) : Prop :=
  ∃ j, j ≤ a1.length ∧ s31 = .int .i64 j ∧ Rws.Own wr wc.heap.size (.slice (some ⟨F, 0, none⟩) (a1.length + 2) cF, wl a1 j) ∧ Prs wr Wf.heap.size (.slice (some ⟨G0, 0, none⟩) (a1.length + 1) c6) (gx gl j) ∧ Sm W4 wr F G0 ∧ Below w.heap.size w wr
theorem below_set_ {w W : World} {p : Addr} (hB : Below w.heap.size w W) (hp : w.heap.size ≤ p.block) (u : Value) : Below w.heap.size w (W.setCell p u) := by
  exact ⟨hB.os, hB.tape, hB.output, by simpa [World.setCell] using hB.size, fun i hi => (Below.heap_setCell W p u i (by omega)).trans (hB.block i hi)⟩
/-- one round: a text and a pair are written over -/
theorem relL_step {w wc Wf W4 wr : World} {a1 : List ByteArray} {gl : List G.S41} {F cF G0 c6 j : Nat} (hgl : gl.length = a1.length) (hj : j < a1.length) (hwF : w.heap.size ≤ F) (hwG : w.heap.size ≤ G0)
    (hO : Rws.Own wr wc.heap.size (.slice (some ⟨F, 0, none⟩) (a1.length + 2) cF, wl a1 j)) (hP : Prs wr Wf.heap.size (.slice (some ⟨G0, 0, none⟩) (a1.length + 1) c6) (gx gl j)) (hS : Sm W4 wr F G0) (hB : Below w.heap.size w wr) :
    RelL w wc Wf W4 a1 gl F cF G0 c6 (.int .i64 ((j + 1 : Nat) : Int)) ((wr.setCell ⟨F, j, none⟩ (.string (G.wS a1[j]))).setCell ⟨G0, j * 2 + 1, none⟩ (.string sx)) := by
  have e1 : Value.slice (some ⟨F, 0, none⟩) (a1.length + 2) cF = .slice (some ⟨F, 0, none⟩) (wl a1 j).length cF := by rw [wl_len _ _ (by omega)]
  obtain ⟨h1, h2⟩ := hO.store e1 j (G.wS a1[j])
  rw [wl_step a1 hj] at h1
  have hP2 : Prs (wr.setCell ⟨F, j, none⟩ (.string (G.wS a1[j]))) Wf.heap.size (.slice (some ⟨G0, 0, none⟩) (a1.length + 1) c6) (gx gl j) := own_other hP h2 (own_type_ne hP hO (by decide))
  obtain ⟨h3, h4⟩ := hP2.store (by rw [gx_len _ _ (by omega), hgl]) (i := j) (by rw [gx_len _ _ (by omega)]; omega) sx
  rw [gx_at gl (by omega), gx_step gl (by omega)] at h3
  exact ⟨j + 1, by omega, rfl, own_other h1 h4 (own_type_ne h1 hP2 (by decide)), h3, (hS.set (.inl rfl) _).set (.inr rfl) _, below_set_ (below_set_ hB hwF _) hwG _⟩
theorem wl_at (a : List ByteArray) {j : Nat} (h : j < a.length) (h' : j < (wl a j).length) : (wl a j)[j] = a[j] := by
  have hl : ((a.take j).map G.wS).length = j := by simp; omega
  have : (wl a j)[j]? = some a[j] := by
    unfold wl
    rw [List.getElem?_append_right (by omega), hl, Nat.sub_self, List.drop_eq_getElem_cons h]
    rfl
  rw [List.getElem?_eq_getElem h'] at this
  exact Option.some.inj this
theorem own_low {W : World} {b b' e size n : Nat} {v : Value} {xs : List Value} (h : W.ownsRow b e size v n xs) (hb : b' ≤ b) : W.ownsRow b' e size v n xs :=
  ⟨h.1, h.2.imp id (fun ⟨g, cap, cur, e, h1, r⟩ => ⟨g, cap, cur, e, Nat.le_trans hb h1, r⟩)⟩
theorem all_low {W : World} {b b' : Nat} {rs : List Rws.Rw} (h : Rws.All W b rs) (hb : b' ≤ b) : Rws.All W b' rs := ⟨fun i hi => own_low (h.1 i hi) hb, h.2⟩
theorem tx_le {rs : List Rws.Rw} {N : Nat} (h : ∀ r, r ∈ rs → r.2.length ≤ N) (t : Nat) : (Rws.tx rs t).length ≤ N := by
  rcases Nat.lt_or_ge t rs.length with h1 | h1
  · rw [← Rws.tx_get rs h1]
    exact h _ (List.getElem_mem _)
  · simp [Rws.tx, List.getD_eq_getElem?_getD, List.getElem?_eq_none h1]
/-- the last append, and apart -/
theorem last_call {w wr Wm : World} {B g14 c14 : Nat} {rs : List Rws.Rw} {x v31 : Value} {aw : List ByteArray} (hB : w.heap.size ≤ B) (hA : Rws.All wr B (rs ++ [(x, aw)])) (hO : Rws.Outer wr w.heap.size (.slice (some ⟨g14, 0, none⟩) rs.length c14) (Rws.vals rs)) (hr : rs.length ≤ 12) (hle : ∀ r, r ∈ rs → r.2.length ≤ 1000) (haw : aw.length ≤ 1000)
    (ho : Wm.ownsRow w.heap.size 22 1 v31 (Rws.vals rs ++ [x]).length (Rws.vals rs ++ [x])) (hb : Below w.heap.size w Wm) (hg : wr.grownBy Wm (Value.slice (some ⟨g14, 0, none⟩) rs.length c14).ownBlock) :
    ∃ g c, v31 = .slice (some ⟨g, 0, none⟩) (rs.length + 1) c ∧ Calls Try.prog 34 #[.slice (some ⟨g, 0, none⟩) (rs.length + 1) c] Wm fun e w' => e = .returned (.bool true) ∧ Below w.heap.size w w' := by
  obtain ⟨g, c, e, _⟩ := own_form ho (by simp)
  have hl : (Rws.vals rs ++ [x]).length = rs.length + 1 := by rw [List.length_append, Rws.vals_len]; rfl
  rw [hl] at e
  subst e
  have hA2 : Rws.All Wm w.heap.size (rs ++ [(x, aw)]) := all_low (hA.other hg (fun i hi => own_type_ne (hA.1 i hi) hO (by decide))) hB
  have h := Rws.apart_any w Wm g c (rs ++ [(x, aw)]) hb (by
    rw [List.length_append, List.length_singleton, vals_append]
    exact ho) hA2 (by simp; omega) (fun t => Nat.le_trans (tx_le (N := 1000) (fun r hr => by
      rcases List.mem_append.1 hr with hr | hr
      · exact hle r hr
      · rw [List.mem_singleton] at hr
        subst hr
        exact haw) t) (by decide))
  rw [List.length_append, List.length_singleton] at h
  exact ⟨g, c, rfl, h⟩
end Go.Proofs.Ytjahalkgjnnapaa.keysMemory
