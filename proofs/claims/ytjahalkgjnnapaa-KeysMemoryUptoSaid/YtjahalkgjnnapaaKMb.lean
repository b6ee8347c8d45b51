/- KeysMemory: the words of its walk. -/
import Derived.WalkKit
import Derived.ProofKit
import Derived.OpenShut
import Derived.ChangeMaps5
import Derived.Test.YtjahalkgjnnapaaOpen
import Derived.Test.YtjahalkgjnnapaaPMa
import Derived.Test.YtjahalkgjnnapaaApa
namespace Go.Proofs.Ytjahalkgjnnapaa.keysMemory
open Go.RowKit Go.Proofs.YtjahalkgjnnapaaW.PrintWords
theorem get_hid {α : Type} {f : Nat → Option α} {v v' : α} (h : G.Ev f v) (e : v = v') : ∃ k, Hid (f k = some v') := by
  obtain ⟨k, hk⟩ := h.get
  exact ⟨k, (hk.trans (by rw [e]) : f k = some v')⟩
def sk : ByteArray := ⟨#[107]⟩
def t1 : ByteArray := ⟨#[126, 49]⟩
def t2 : ByteArray := ⟨#[126, 50]⟩
def t3 : ByteArray := ⟨#[126, 51]⟩
def sv : ByteArray := ⟨#[118]⟩
def sx : ByteArray := ⟨#[120]⟩
def sz : ByteArray := ⟨#[122]⟩
/-- a row of texts that stands in a world -/
abbrev Ct (W : World) (A : Option Addr) (l : List ByteArray) : Prop := Kd.C Kd.string W A l.length l
theorem C_new (W : World) (l : List ByteArray) (hl : l.length ≤ 1000) : Ct (W.alloc (.cells (Rws.strs l).toArray 9)) (some ⟨W.heap.size, 0, none⟩) l := by
  refine ⟨rfl, by omega, fun _ => ⟨_, rfl, fun j q hj => ⟨[.string q], rfl, rfl, fun i u hu => ?_⟩⟩⟩
  match i, hu with
  | 0, hu =>
    obtain rfl : Value.string q = u := by simpa using hu
    show (W.alloc (.cells (Rws.strs l).toArray 9)).cell? ((⟨W.heap.size, 0, none⟩ : Addr).add (j * 1 + 0)) = _
    rw [add_plain]
    have h1 : (W.alloc (.cells (Rws.strs l).toArray 9)).heap[W.heap.size]? = some (.cells (Rws.strs l).toArray 9 (0, 0)) := heap_alloc_new W _
    rw [blk_cell h1]
    simp [Rws.strs, encs, hj]
  | i + 1, hu => simp at hu
def Cut6 (w W : World) (a1 : List ByteArray) (A_b : Option Addr) (b : List ByteArray) (s6 : Value) (wx : World) : Prop :=
  ∃ A c, s6 = .slice A a1.length c ∧ a1.length ≤ c ∧ Ct wx A a1 ∧ Ct wx A_b b ∧ Below w.heap.size w wx ∧ Below W.heap.size W wx
theorem a1_of (a : List ByteArray) (hr : Hand.rising a = true) (ha : a.length ≤ 300) : ∃ a1, (a1 = if a.length = 0 then [sk] else a) ∧ Hand.rising a1 = true ∧ 0 < a1.length ∧ a1.length ≤ 300 ∧ ∀ x, x ∈ a1 → x ∈ a ∨ x = sk := by
  refine ⟨_, rfl, ?_⟩
  split
  · exact ⟨rfl, by simp, by simp, fun x hx => .inr (by simpa using hx)⟩
  · exact ⟨hr, by omega, ha, fun x hx => .inl hx⟩
def pls (a : List ByteArray) (v : ByteArray) (j : Nat) : List G.S41 := (a.reverse.take j).map fun x => ⟨x, v⟩
theorem pls_len (a : List ByteArray) (v : ByteArray) {j : Nat} (h : j ≤ a.length) : (pls a v j).length = j := by simp [pls]; omega
theorem pls_snoc (a : List ByteArray) (v : ByteArray) {i j : Nat} (h : i + 1 + j = a.length) : pls a v j ++ [⟨a[i]'(by omega), v⟩] = pls a v (j + 1) := by
  unfold pls
  rw [List.take_succ_eq_append_getElem (by simp; omega), List.map_append]
  congr 1
  simp only [List.map_cons, List.map_nil, List.getElem_reverse]
  congr 2
  · congr 1
    omega
def RelP (wc Wf : World) (a1 : List ByteArray) (s11 s12 : Value) (wr : World) : Prop :=
  ∃ (vp : Value) (i j : Nat), vp = s11 ∧ i + j = a1.length ∧ s12 = .int .i64 ((i : Int) - 1) ∧ Kd.R G.k41 41 wr Wf.heap.size (fun _ => True) vp (pls a1 sv j) ∧ Below Wf.heap.size Wf wr ∧ wc.heap.size ≤ Wf.heap.size
theorem at_text {W : World} {A : Option Addr} {l : List ByteArray} (h : Ct W A l) {j : Nat} (hj : j < l.length) : ∃ ad, A = some ad ∧ W.cell? (ad.add j) = some (.string l[j]) := by
  obtain ⟨ad, e, hx⟩ := Kd.at_string h (j : Int) (by omega) (by omega)
  rw [Int.toNat_natCast, G.rd_nat hj] at hx
  exact ⟨ad, e, hx⟩

theorem C_pre {α : Type} {d : Kd α} {W : World} {A : Option Addr} {xs ys : List α} (h : d.C W A (xs ++ ys).length (xs ++ ys)) : d.C W A xs.length xs := by
  obtain ⟨_, h2, h3⟩ := h
  rw [List.length_append] at h2 h3
  refine ⟨rfl, by omega, fun hn => ?_⟩
  obtain ⟨ad, e, hx⟩ := h3 (by omega)
  refine ⟨ad, e, fun j q hj => hx j q ?_⟩
  have hlt := (List.getElem?_eq_some_iff.1 hj).1
  rw [List.getElem?_append_left hlt]
  exact hj
theorem own_C {W : World} {base : Nat} {A : Option Addr} {n c : Nat} {l : List ByteArray} (h : Rws.Own W base (.slice A n c, l)) : n = l.length ∧ Ct W A l := by
  have hr : Kd.R Kd.string 9 W base (fun _ => True) (.slice A n c) l := Kd.R_of_own h (fun _ _ => trivial)
  obtain ⟨A', c', e, _, hC⟩ := Kd.R_reads hr
  injection e with e1 e2 e3
  subst e1
  exact ⟨e2, hC⟩
section
variable {P : Program} {ops : Array Oper} {rest : List Oper} {o : Oper} {a : Act} {Q : Exit → Act → World → Prop}
/-- append(v, y..) of values that are one cell each, laid in a new block -/
theorem append_vals {w0 W : World} (base : Nat) (hgd : o.guard = none) (s x : Operand) (t e : TypeId) (z : Value) (bytes : Nat)
    (ho : o.op = .call { callee := .builtin .append, args := #[s, x], argTypes := #[t, t] })
    (ht : P.underlying t = some (.slice e)) (hinfo : (P.info? e).map (fun i => (i.zero, i.size, i.bytes)) = some (some z, 1, bytes)) (hz : z.cells.size = 1) (hb0 : 0 < bytes)
    (v : Value) (xs news : List Value) (m : Nat) (hm : m = news.length) (hs : a.eval s = v) (hx : a.eval x = .slice (some ⟨W.heap.size, 0, none⟩) m m) (h1 : ∀ u ∈ news, u.oneCell' = true)
    (HO : W.ownsRow base e 1 v xs.length xs) (HB : Below base w0 W) (hbase : base ≤ W.heap.size) (hl : (xs.length + m) * bytes ≤ 140737488355328)
    (h : ∀ v1 w1, w1.ownsRow base e 1 v1 (xs ++ news).length (xs ++ news) → Below base w0 w1 → W.grownBy w1 v.ownBlock → wpList P ops Q rest (a.put o.dst v1) w1) :
    wpList P ops Q (o :: rest) a (W.alloc (.cells news.toArray e)) := by
  obtain ⟨i0, hi, hzz⟩ := Option.map_eq_some_iff.1 hinfo
  simp only [Prod.mk.injEq] at hzz
  obtain ⟨hz0, hz1, hz2⟩ := hzz
  have hlen : xs.length + m ≤ 140737488355328 := Nat.le_trans (Nat.le_mul_of_pos_right _ hb0) hl
  have hal : Below W.heap.size W (W.alloc (.cells news.toArray e)) := (Below.refl _ _).alloc (Nat.le_refl _) _
  have hbl : (W.alloc (.cells news.toArray e)).heap[W.heap.size]? = some (.cells news.toArray e (0, 0)) := heap_alloc_new W _
  refine wpList_append_own _ hgd s x t ho base e i0 z 1 bytes ht hi hz0 hz1 hz2 hz (by decide) v xs.length xs hs (HO.alloc _) ⟨W.heap.size, 0, none⟩ m m news hx (by rw [hm, Nat.mul_one]) (fun j u hj => ?_) h1 (by unfold maxLen; omega) hl (Nat.le_trans hbase hal.size) ?_
  · rw [add_plain, blk_cell hbl]
    simpa using hj
  · intro v1 w1 hown hg _
    have hg0 : W.grownBy w1 v.ownBlock := ⟨hg.os.trans hal.os, hg.tape.trans hal.tape, hg.output.trans hal.output, Nat.le_trans hal.size hg.size, fun i hi hne => (hg.block i (Nat.lt_of_lt_of_le hi hal.size) hne).trans (hal.block i hi)⟩
    exact h v1 w1 (by rw [List.length_append, ← hm]; exact hown) (pw_below_grown HB _ hbase hg0 (fun k hk => own_base HO k hk)) hg0
end
/-- a call has told a list in new memory -/
theorem call_all {W W1 : World} {base : Nat} {rs : List Rws.Rw} {v : Value} {l : List ByteArray} (h : Rws.All W base rs) (hV : Kd.R Kd.string 9 W1 W.heap.size (fun _ => True) v l) (hb : Below W.heap.size W W1) (hbase : base ≤ W.heap.size) : Rws.All W1 base (rs ++ [(v, l)]) := by
  have h0 : W1.ownsRow W.heap.size 9 1 v l.length (encs Value.string l) := Kd.own_of_R hV
  have h1 : Rws.Own W1 base (v, l) := Kd.own_of_R (Kd.R_lower hV hbase)
  exact (h.below hb).snoc h1 (Rws.apart_new h (Nat.le_refl _) (own_base h0))
theorem call_slice {W W1 : World} {v : Value} {l : List ByteArray} (hV : Kd.R Kd.string 9 W1 W.heap.size (fun _ => True) v l) : ∃ A c, v = .slice A l.length c := by
  obtain ⟨A, c, e, _⟩ := Kd.R_reads hV
  exact ⟨A, c, e⟩
/-- rows of pairs, each in new memory -/
def Nrm (W : World) (B : Nat) (v : Value) (hs : List Value) (nl : List G.S41) : Prop := W.ownsRow B 33 1 v hs.length hs ∧ ∀ h, h ∈ hs → Kd.R G.k41 41 W B (fun k => B ≤ k) h nl
def RelK (Wl : World) (nl : List G.S41) (s14 s15 s16 : Value) (wr : World) : Prop :=
  ∃ (v14 v15 : Value) (m : Nat) (rs : List Rws.Rw) (hs : List Value), v14 = s14 ∧ v15 = s15 ∧ m ≤ 2 ∧ s16 = .int .i64 m ∧ rs.length = 6 * m ∧ hs.length = m ∧ (∀ r, r ∈ rs → r.2.length ≤ 1000) ∧
    Rws.All wr Wl.heap.size rs ∧ Rws.Outer wr Wl.heap.size v14 (Rws.vals rs) ∧ Nrm wr Wl.heap.size v15 hs nl ∧ Below Wl.heap.size Wl wr
theorem Nrm.grown {W W1 : World} {B : Nat} {v : Value} {hs : List Value} {nl : List G.S41} (h : Nrm W B v hs nl) {e : TypeId} {b n size : Nat} {u : Value} {xs : List Value} (ho : W.ownsRow b e size u n xs) (he : e ≠ 33 ∧ e ≠ 41) (hg : W.grownBy W1 u.ownBlock) : Nrm W1 B v hs nl := by
  refine ⟨own_other h.1 hg (own_type_ne h.1 ho (Ne.symm he.1)), fun x hx => ?_⟩
  have h1 := Kd.R_bound (h.2 x hx)
  refine Kd.R_mono (Kd.R_grown h1 hg (fun k hk hq => ?_)) (fun k hk => hk.1)
  obtain ⟨_, _, hlt, q, hq1, cells, hcell⟩ := hk
  rcases ho.2 with ⟨rfl, _⟩ | ⟨g, cap, cur, rfl, _, hh, _⟩
  · simp [Value.ownBlock] at hq
  · have : k = g := by simpa [Value.ownBlock] using hq
    subst this
    rw [hh] at hcell
    injection hcell with hcell
    injection hcell with _ ht
    subst ht
    simp [Kd.string, G.k41, Kd.iso, Kd.pair, Kd.scalar] at hq1
    exact he.2 hq1
theorem Nrm.below {W W1 : World} {B : Nat} {v : Value} {hs : List Value} {nl : List G.S41} (h : Nrm W B v hs nl) (hb : Below W.heap.size W W1) : Nrm W1 B v hs nl := ⟨pw_own_below h.1 hb, fun x hx => Kd.R_below (h.2 x hx) hb⟩
theorem vals_append (a b : List Rws.Rw) : Rws.vals (a ++ b) = Rws.vals a ++ Rws.vals b := by simp [Rws.vals]
theorem R41_grown {W W1 : World} {B : Nat} {x : Value} {nl : List G.S41} (h : Kd.R G.k41 41 W B (fun k => B ≤ k) x nl) {e : TypeId} {b n size : Nat} {u : Value} {xs : List Value} (ho : W.ownsRow b e size u n xs) (he : e ≠ 41) (hg : W.grownBy W1 u.ownBlock) : Kd.R G.k41 41 W1 B (fun k => B ≤ k) x nl := by
  have h1 := Kd.R_bound h
  refine Kd.R_mono (Kd.R_grown h1 hg (fun k hk hq => ?_)) (fun k hk => hk.1)
  obtain ⟨_, _, hlt, q, hq1, cells, hcell⟩ := hk
  rcases ho.2 with ⟨rfl, _⟩ | ⟨g, cap, cur, rfl, _, hh, _⟩
  · simp [Value.ownBlock] at hq
  · have : k = g := by simpa [Value.ownBlock] using hq
    subst this
    rw [hh] at hcell
    injection hcell with hcell
    injection hcell with _ ht
    subst ht
    simp [Kd.string, G.k41, Kd.iso, Kd.pair, Kd.scalar] at hq1
    exact he hq1
theorem norm_new {W W1 : World} {B : Nat} {v : Value} {nl : List G.S41} (hV : Kd.R G.k41 41 W1 W.heap.size (fun _ => True) v nl) (hB : B ≤ W.heap.size) : Kd.R G.k41 41 W1 B (fun k => B ≤ k) v nl :=
  Kd.R_mono (Kd.R_lower (Kd.R_bound hV) hB) (fun _ hk => Nat.le_trans hB hk.2.1)
theorem norm_slice {W1 : World} {B : Nat} {ok : Nat → Prop} {v : Value} {nl : List G.S41} (hV : Kd.R G.k41 41 W1 B ok v nl) : ∃ A c, v = .slice A nl.length c := by
  obtain ⟨A, c, e, _⟩ := Kd.R_reads hV
  exact ⟨A, c, e⟩
theorem R41_own {W : World} {B n c : Nat} {ok : Nat → Prop} {A : Option Addr} {nl : List G.S41} (h : Kd.R G.k41 41 W B ok (.slice A n c) nl) (h0 : 0 < n) : ∃ g, A = some ⟨g, 0, none⟩ ∧ B ≤ g ∧ g < W.heap.size := by
  obtain ⟨inner, ho⟩ := Kd.R_own h
  have h1 := own_base ho
  have h2 := own_lt ho
  rcases ho.2 with ⟨e, _⟩ | ⟨g, cap, cur, e, _⟩
  · injection e with _ e; omega
  · injection e with e
    subst e
    exact ⟨g, rfl, h1 g rfl, h2 g rfl⟩
/-- all lists behind an append to their outer row -/
theorem all_outer {W W1 : World} {B B' : Nat} {rs : List Rws.Rw} {v : Value} {vs : List Value} {v15 : Value} {hs : List Value} {nl : List G.S41} (hA : Rws.All W B rs) (hO : Rws.Outer W B' v vs) (hN : Nrm W B v15 hs nl) (hg : W.grownBy W1 v.ownBlock) : Rws.All W1 B rs ∧ Nrm W1 B v15 hs nl :=
  ⟨hA.other hg (fun i hi => own_type_ne (hA.1 i hi) hO (by decide)), hN.grown hO (by decide) hg⟩
theorem nrm_snoc {W W1 : World} {B : Nat} {rs : List Rws.Rw} {v14 v15 v15' x : Value} {vs hs : List Value} {nl : List G.S41} (hA : Rws.All W B rs) (hO : Rws.Outer W B v14 vs) (hN : Nrm W B v15 hs nl) (hx : Kd.R G.k41 41 W B (fun k => B ≤ k) x nl)
    (hg : W.grownBy W1 v15.ownBlock) (ho : W1.ownsRow B 33 1 v15' (hs ++ [x]).length (hs ++ [x])) : Rws.All W1 B rs ∧ Rws.Outer W1 B v14 vs ∧ Nrm W1 B v15' (hs ++ [x]) nl := by
  refine ⟨hA.other hg (fun i hi => own_type_ne (hA.1 i hi) hN.1 (by decide)), own_other hO hg (own_type_ne hO hN.1 (by decide)), ho, fun y hy => ?_⟩
  rcases List.mem_append.1 hy with hy | hy
  · exact R41_grown (hN.2 y hy) hN.1 (by decide) hg
  · rw [List.mem_singleton] at hy
    subst hy
    exact R41_grown hx hN.1 (by decide) hg
theorem info22 : (Try.prog.info? 22).map (fun i => (i.zero, i.size, i.bytes)) = some (some (.slice none 0 0), 1, 24) := by kernel_rfl
theorem info33 : (Try.prog.info? 33).map (fun i => (i.zero, i.size, i.bytes)) = some (some (.slice none 0 0), 1, 24) := by kernel_rfl
theorem one_slice {A : Option Addr} {n c : Nat} : (Value.slice A n c).oneCell' = true := rfl
theorem own_form {W : World} {b e : Nat} {v : Value} {vs : List Value} (h : W.ownsRow b e 1 v vs.length vs) (h0 : 0 < vs.length) : ∃ g c, v = .slice (some ⟨g, 0, none⟩) vs.length c ∧ vs.length ≤ c ∧ g < W.heap.size ∧ ∀ j, (hj : j < vs.length) → W.cell? ⟨g, j, none⟩ = some vs[j] := by
  have hlt := own_lt h
  rcases h.2 with ⟨_, h2⟩ | ⟨g, cap, cur, rfl, hb, hh, h3, _⟩
  · omega
  · refine ⟨g, cap, rfl, h3, hlt g rfl, fun j hj => ?_⟩
    have hc := World.ownsRow.cells h (g := g) rfl j vs[j] (by simp [hj])
    rwa [add_plain] at hc
theorem two_of {l : List Value} (h : l.length = 2) : ∃ a b, l = [a, b] := by
  match l, h with
  | [a, b], _ => exact ⟨a, b, rfl⟩
/-- copies of the first j lists -/
def Was (W : World) (B : Nat) (rs : List Rws.Rw) (v : Value) (vs : List Value) : Prop :=
  W.ownsRow B 22 1 v vs.length vs ∧ ∀ t, t < vs.length → ∃ A c, vs[t]? = some (Value.slice A (Rws.tx rs t).length c) ∧ (Rws.tx rs t).length ≤ c ∧ Rws.Own W B (Value.slice A (Rws.tx rs t).length c, Rws.tx rs t)
def RelW (Wk : World) (rs : List Rws.Rw) (s29 s30 : Value) (wr : World) : Prop :=
  ∃ (v29 : Value) (vs : List Value), v29 = s29 ∧ vs.length ≤ rs.length ∧ s30 = .int .i64 vs.length ∧ Was wr Wk.heap.size rs v29 vs ∧ Below Wk.heap.size Wk wr
theorem Was.below {W W1 : World} {B : Nat} {rs : List Rws.Rw} {v : Value} {vs : List Value} (h : Was W B rs v vs) (hb : Below W.heap.size W W1) : Was W1 B rs v vs :=
  ⟨pw_own_below h.1 hb, fun t ht => by
    obtain ⟨A, c, e, hl, hC⟩ := h.2 t ht
    exact ⟨A, c, e, hl, hC.below hb⟩⟩
theorem Was.snoc {W W1 : World} {B : Nat} {rs : List Rws.Rw} {v v1 : Value} {vs : List Value} {A : Option Addr} {c : Nat} (h : Was W B rs v vs) (hg : W.grownBy W1 v.ownBlock) (ho : W1.ownsRow B 22 1 v1 (vs ++ [Value.slice A (Rws.tx rs vs.length).length c]).length (vs ++ [Value.slice A (Rws.tx rs vs.length).length c]))
    (hl : (Rws.tx rs vs.length).length ≤ c) (hn : Rws.Own W B (Value.slice A (Rws.tx rs vs.length).length c, Rws.tx rs vs.length)) : Was W1 B rs v1 (vs ++ [Value.slice A (Rws.tx rs vs.length).length c]) := by
  refine ⟨ho, fun t ht => ?_⟩
  rcases Nat.lt_or_ge t vs.length with h1 | h1
  · obtain ⟨A', c', e, hl', hC⟩ := h.2 t h1
    exact ⟨A', c', by rw [List.getElem?_append_left h1]; exact e, hl', own_other hC hg (own_type_ne hC h.1 (by decide))⟩
  · have : t = vs.length := by simp at ht; omega
    subst this
    exact ⟨A, c, by simp, hl, own_other hn hg (own_type_ne hn h.1 (by decide))⟩
theorem pairs_at {W : World} {g n : Nat} {l : List G.S41} (h : Kd.C G.k41 W (some ⟨g, 0, none⟩) n l) {j : Nat} (hn : n = l.length) (hj : j < l.length) : W.cell? ⟨g, j * 2, none⟩ = some (.string l[j].f0) ∧ W.cell? ⟨g, j * 2 + 1, none⟩ = some (.string l[j].f1) := by
  obtain ⟨ad, e, h1, h2⟩ := G.at_T41 h (j : Int) (by omega) (by omega)
  obtain rfl : (⟨g, 0, none⟩ : Addr) = ad := by injection e
  rw [Int.toNat_natCast, add_plain, G.rd41 hj] at h1
  rw [Int.toNat_natCast, add_plain, G.rd41 hj] at h2
  exact ⟨h1, h2⟩
theorem pls_at (a : List ByteArray) (v : ByteArray) {j : Nat} (hj : j < a.length) (h : j < (pls a v a.length).length) : (pls a v a.length)[j] = ⟨a[a.length - 1 - j]'(by omega), v⟩ := by
  simp [pls]
theorem own_at2 {W : World} {base g n c : Nat} {l : List ByteArray} (h : Rws.Own W base (.slice (some ⟨g, 0, none⟩) n c, l)) {k : Nat} (hk : k < l.length) : W.cell? ⟨g, k, none⟩ = some (.string l[k]) ∧ W.frozen? ⟨g, k, none⟩ = false := by
  obtain ⟨g', c', e, _, _, _, h1, h2⟩ := h.at (k := k) hk
  have e : Value.slice (some ⟨g, 0, none⟩) n c = .slice (some ⟨g', 0, none⟩) l.length c' := e
  obtain rfl : g = g' := by injection e with e; injection e with e; injection e
  exact ⟨h1, h2⟩
theorem quiet_bool {f : Nat} {args : Array Value} {W : World} {r : Bool} (h : ∀ W', Below W.heap.size W W' → Calls Try.prog f args W' fun e w' => e = .returned (.bool r) ∧ Drawn0 W' w') (n : Nat) : Calls Try.prog f args (W.drewN n) fun e w'' => e = .returned (.bool r) ∧ ∃ m, w'' = W.drewN m :=
  Calls.quiet_of ((h _ (pw_below_drewN (Below.refl _ _) n)).mono fun _ _ ⟨he, hd⟩ => ⟨he, hd.out⟩)
end Go.Proofs.Ytjahalkgjnnapaa.keysMemory
