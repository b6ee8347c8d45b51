/- SpecJudges: the plain law, and the walk. -/
import Derived.Test.YtiibjgnmdieicaaGreatQm
import Derived.Test.YtiibjgnmdieicaaGreatRows
import Derived.Deep.Strs
import Derived.Deep.SlicePairs
import Derived.Lib.SmallJoins
namespace Go.Proofs.YtiibjgnmdieicaaGreat.Hist
open Go.RowKit Go.Proofs.YtiibjgnmdieicaaGreatW.PrintWords Go.Sort
/-- what a law is handed -/
structure LawIn (l : List Evt) : Prop where
  sum : sumE l ≤ 1048576
  k5 : ∀ j (h : j < l.length), l[j].f5.length ≤ 1073741824
  vk : ∀ j (h : j < l.length) k (hk : k < l[j].f6.f3.length), l[j].f6.f3[k].f3.length ≤ 1073741824
  u64 : ∀ j (h : j < l.length), (Lit.int .u64 l[j].f3).wf = true
  a64 : ∀ j (h : j < l.length), (Lit.int .u64 l[j].f6.f2).wf = true
  v64 : ∀ j (h : j < l.length) k (hk : k < l[j].f6.f3.length), (Lit.int .u64 l[j].f6.f3[k].f1).wf = true
theorem wt_sum : ∀ (l : List Evt) (j : Nat) (h : j < l.length), wtE l[j] ≤ sumE l
  | [], j, h => absurd h (Nat.not_lt_zero j)
  | x :: r, 0, _ => by simp only [List.getElem_cons_zero, sumE]; omega
  | x :: r, j + 1, h => by
    have := wt_sum r j (by simpa using h)
    simp only [List.getElem_cons_succ, sumE]
    omega
theorem light {l : List Evt} (h : heavyB l = false) : l.length ≤ 60 ∧ sumE l ≤ 400 := by
  unfold heavyB at h
  simp only [Bool.or_eq_false_iff, decide_eq_false_iff_not] at h
  omega
theorem LawIn.ev {l : List Evt} (h : LawIn l) (hh : heavyB l = false) (j : Nat) (hj : j < l.length) : EvIn l[j] := by
  have h1 := light hh
  have h2 := wt_sum l j hj
  unfold wtE at h2
  exact ⟨by omega, h.k5 j hj, by omega, h.vk j hj⟩
theorem LawIn.judge {l : List Evt} (h : LawIn l) (hh : heavyB l = false) : JudgeIn l :=
  ⟨Nat.le_trans (light hh).1 (by decide), fun j hj => (h.ev hh j hj).p, fun j hj => (h.ev hh j hj).v⟩
theorem LawIn.ord {l : List Evt} (h : LawIn l) (hh : heavyB l = false) : OrdIn l :=
  ⟨Nat.le_trans (light hh).1 (by decide), fun j hj => by
    have h1 := light hh
    have h2 := wt_sum l j hj
    unfold wtE at h2
    omega, h.u64, h.a64, h.v64⟩
theorem JudgeIn.take {l : List Evt} (h : JudgeIn l) (n : Nat) : JudgeIn (l.take n) := by
  have hle : (l.take n).length ≤ l.length := by simp; omega
  exact ⟨Nat.le_trans hle h.few, fun j hj => by rw [List.getElem_take]; exact h.prs j (by omega), fun j hj => by rw [List.getElem_take]; exact h.vrs j (by omega)⟩
end Go.Proofs.YtiibjgnmdieicaaGreat.Hist
/-
  FOR A PROOF OF AN '..UptoSaid': WHAT THE BOUND GIVES. Copy it as <Name>Bulk.lean (put your seat's Name for YtiibjgnmdieicaaGreat, the bound of 'uptoSmall' for 1048576), name it in GOCLAIM.json's 'order' behind <Name>Rows. By an AI agent, Sun Nov 15 2026. No person has read it. No macro, syntax, notation, axiom, sorry.
-/
namespace Go.Proofs.YtiibjgnmdieicaaGreat.bulks

theorem one_le {H : Type} (d : DataW H) : 1 ≤ Rows.uptoBulk d := by
  cases d with
  | lit l => cases l <;> simp [Rows.uptoBulk]
  | nil => simp [Rows.uptoBulk]
  | ptr d => simp [Rows.uptoBulk]
  | slice elems spare => simp [Rows.uptoBulk]
  | agg parts => simp [Rows.uptoBulk]
  | iface t d => simp [Rows.uptoBulk]
  | map entries => simp [Rows.uptoBulk]
  | held h => simp [Rows.uptoBulk]

/-- a part's bulk is at most the whole's -/
theorem part_le {H : Type} {d : DataW H} {l : List (DataW H)} (h : d ∈ l) : Rows.uptoBulk d ≤ Rows.uptoBulkAll l := by
  induction l with
  | nil => cases h
  | cons x r ih =>
    simp only [Rows.uptoBulkAll]
    cases List.mem_cons.1 h with
    | inl e => subst e; omega
    | inr e => have := ih e; omega

theorem append {H : Type} (l r : List (DataW H)) : Rows.uptoBulkAll (l ++ r) = Rows.uptoBulkAll l + Rows.uptoBulkAll r := by
  induction l with
  | nil => simp [Rows.uptoBulkAll]
  | cons x l ih => simp only [List.cons_append, Rows.uptoBulkAll, ih]; omega

theorem slice_elems {H : Type} (elems spare : List (DataW H)) : Rows.uptoBulkAll elems + 1 ≤ Rows.uptoBulk (.slice elems spare) := by
  simp only [Rows.uptoBulk]
  omega

/-- a string's letters -/
theorem string_eq {H : Type} (bytes : List UInt8) : Rows.uptoBulk (DataW.lit (H := H) (.string bytes)) = bytes.length + 1 := by
  simp [Rows.uptoBulk]

/-- THE BOUND, as the builder hands it over ('hk') -/
theorem bound {H : Type} {l : List (DataW H)} (hk : Rows.uptoSmall H l = true) : Rows.uptoBulkAll l ≤ 1048576 := by
  simpa [Rows.uptoSmall] using hk

end Go.Proofs.YtiibjgnmdieicaaGreat.bulks
/- A list of events handed in: what it reads as. -/
namespace Go.Proofs.YtiibjgnmdieicaaGreat.Hist
open Go.RowKit Go.Deep Go.ChangeShapes Go.WideShapes Go.Proofs.YtiibjgnmdieicaaGreatW.PrintWords
theorem co3 : Tryz.prog.cellsOf 3 = 1 := by kernel_rfl
theorem co29 : Tryz.prog.cellsOf 31 = 1 := by kernel_rfl
theorem co9 : Tryz.prog.cellsOf 9 = 1 := by kernel_rfl
theorem co30 : Tryz.prog.cellsOf 32 = 1 := by kernel_rfl
theorem co31 : Tryz.prog.cellsOf 33 = 1 := by kernel_rfl
theorem co32 : Tryz.prog.cellsOf 34 = 1 := by kernel_rfl
theorem co34 : Tryz.prog.cellsOf 36 = 4 := by kernel_rfl
theorem co36 : Tryz.prog.cellsOf 38 = 10 := by kernel_rfl
theorem co54 : Tryz.prog.cellsOf 49 = 4 := by kernel_rfl
theorem co86 : Tryz.prog.cellsOf 75 = 2 := by kernel_rfl
/-- what values of a type read as, and how great the datum is -/
def Opens {α : Type} (t : TypeId) (K : World → α → List Value → Prop) (sz : α → Nat) : Prop :=
  ∀ (H : Type) (enc : TypeId × Value → H) (W : World) (fuel : Nat) (cs : List Value) (x : DataW H × List MemPlace), DataW.trod enc Tryz.prog W 0 (fun _ => true) true fuel t cs = some x → ∃ a, K W a cs ∧ sz a ≤ Rows.uptoBulk x.1
def KInt (k : IntKind) (_ : World) (a : Int) (cs : List Value) : Prop := cs = [.int k a] ∧ (Lit.int k a).wf = true
def KStr (_ : World) (s : ByteArray) (cs : List Value) : Prop := cs = [.string s]
def KSlice {α : Type} (K : World → α → List Value → Prop) (n : Nat) (W : World) (l : List α) (cs : List Value) : Prop := ∃ A c, cs = [.slice A l.length c] ∧ l.length ≤ c ∧ ReadsRow (K W) n W A l.length l
theorem opens_int {t : TypeId} {k : IntKind} (ht : Tryz.prog.underlying t = some (.int k)) : Opens t (KInt k) (fun _ => 1) := fun H enc W fuel cs x h => by
  obtain ⟨n, rfl, rfl, hw⟩ := DataW.trod_int ht h
  exact ⟨n, ⟨rfl, hw⟩, bulks.one_le _⟩
theorem opens_str {t : TypeId} (ht : Tryz.prog.underlying t = some .string) : Opens t KStr (fun s => s.size + 1) := fun H enc W fuel cs x h => by
  obtain ⟨s, rfl, rfl, _⟩ := DataW.trod_string ht h
  refine ⟨s, rfl, ?_⟩
  rw [bulks.string_eq, data_length]
  exact Nat.le_refl _
def sumB {α : Type} (sz : α → Nat) : List α → Nat
  | [] => 0
  | a :: r => sz a + sumB sz r
theorem sum_range {α : Type} {H : Type} (sz : α → Nat) (S : Nat → α) (D : Nat → DataW H) (n : Nat) (h : ∀ i, i < n → sz (S i) ≤ Rows.uptoBulk (D i)) : sumB sz ((List.range n).map S) ≤ Rows.uptoBulkAll ((List.range n).map D) := by
  induction n with
  | zero => exact Nat.zero_le _
  | succ n ih =>
    have happ : ∀ (a b : List α), sumB sz (a ++ b) = sumB sz a + sumB sz b := fun a b => by
      induction a with
      | nil => simp [sumB]
      | cons x r ih => simp only [List.cons_append, sumB, ih]; omega
    rw [List.range_succ, List.map_append, List.map_append, happ, bulks.append]
    have h1 := ih (fun i hi => h i (by omega))
    have h2 := h n (by omega)
    simp only [List.map_cons, List.map_nil, sumB, Rows.uptoBulkAll]
    omega
theorem opens_slice {α : Type} [Inhabited α] {t e : TypeId} {n : Nat} {K : World → α → List Value → Prop} {sz : α → Nat} (ht : Tryz.prog.underlying t = some (.slice e)) (hn : Tryz.prog.cellsOf e = n) (he : Opens e K sz) : Opens t (KSlice K n) (fun l => 1 + sumB sz l) := fun H enc W fuel cs x h => by
  rcases open_slice ht h with ⟨rfl, rfl⟩ | ⟨a, len, cap, m, k, D, Pl, rfl, hb, hl, hm, hmm, rfl, hx⟩
  · exact ⟨[], ⟨none, 0, rfl, Nat.le_refl _, ⟨rfl, by simp, fun h => absurd h (by simp)⟩⟩, bulks.one_le _⟩
  · simp only [if_true] at hmm
    have each : ∀ i, i < len → ∃ q : α, (∃ cs', K W q cs' ∧ cs'.length = n ∧ ∀ j u, cs'[j]? = some u → W.cell? (a.add (i * n + j)) = some u) ∧ sz q ≤ Rows.uptoBulk (D i) := fun i hi => by
      obtain ⟨cs', h1, h2⟩ := hx i (by omega)
      rw [hn] at h1
      obtain ⟨_, hlen, hcell⟩ := World.cells?_some h1
      obtain ⟨q, hq, hs⟩ := he H enc W k cs' _ h2
      refine ⟨q, ⟨cs', hq, hlen, fun j u hu => ?_⟩, hs⟩
      have hj : j < cs'.length := (List.getElem?_eq_some_iff.1 hu).1
      have hc := hcell j (by omega)
      rw [Go.Deep.add_add] at hc
      rw [hc]
      exact hu
    obtain ⟨Sx, hS⟩ := choose_lt each
    have hlen : ((List.range len).map Sx).length = len := by simp
    have hml : cap ≤ 9223372036854775807 := hm
    refine ⟨(List.range len).map Sx, ⟨some a, cap, by rw [hlen], by rw [hlen]; exact hl, ⟨rfl, by rw [hlen]; omega, fun _ => ⟨a, rfl, fun j q hj => ?_⟩⟩⟩, ?_⟩
    · obtain ⟨hj1, hj2⟩ := List.getElem?_eq_some_iff.1 hj
      rw [hlen] at hj1
      rw [List.getElem_map, List.getElem_range] at hj2
      obtain ⟨⟨cs', h1, h2, h3⟩, _⟩ := hS j hj1
      rw [hj2] at h1
      exact ⟨cs', h2, h1, h3⟩
    · have h1 := sum_range sz Sx D len (fun i hi => (hS i hi).2)
      have h2 := bulks.slice_elems ((List.range len).map D) ((List.range (m - len)).map fun j => D (len + j))
      show 1 + sumB sz _ ≤ Rows.uptoBulk (.slice _ _)
      omega
/-- a list in pieces -/
theorem cut1 {cs : List Value} {a k n : Nat} {p : List Value} (hp : (cs.drop a).take k = p) (hn : a + k = n) : cs.drop a = p ++ cs.drop n := by
  subst hn
  rw [← hp, ← List.drop_drop, List.take_append_drop]
theorem cutn {cs : List Value} {n : Nat} (h : cs.length = n) : cs.drop n = [] := List.drop_of_length_le (by omega)
theorem opens_pair : Opens 75 (fun _ (p : Pai) cs => cs = [.string p.f0, .string p.f1]) (fun _ => 1) := fun H enc W fuel cs x h => by
  obtain ⟨y0, y1, n, rfl, hl, h0, h1⟩ := trod_struct2 Tryz.underlying75 h
  obtain ⟨s0, h0, _⟩ := opens_str Tryz.underlying9 H enc W _ _ _ h0
  obtain ⟨s1, h1, _⟩ := opens_str Tryz.underlying9 H enc W _ _ _ h1
  have e0 := cut1 (n := 1) h0 (by rw [co9])
  have e1 := cut1 (n := 2) h1 (by rw [co9])
  rw [co86] at hl
  refine ⟨⟨s0, s1⟩, ?_, bulks.one_le _⟩
  have e2 := cutn hl
  show cs = _
  rw [show cs = cs.drop 0 from rfl]
  refine e0.trans ?_
  rw [e1, e2]
  rfl
def VerK (W : World) (v : Ver) (cs : List Value) : Prop := kVer.K W v cs ∧ (Lit.int .u64 v.f1).wf = true
theorem sum_len {α : Type} (sz : α → Nat) (h : ∀ a, 1 ≤ sz a) (l : List α) : l.length ≤ sumB sz l := by
  induction l with
  | nil => exact Nat.le_refl _
  | cons x r ih => have := h x; simp only [sumB, List.length_cons]; omega
instance : Inhabited Ver := ⟨⟨default, 0, default, []⟩⟩
instance : Inhabited Pai := ⟨⟨default, default⟩⟩
theorem opens_ver : Opens 49 VerK (fun v => 1 + v.f3.length) := fun H enc W fuel cs x h => by
  obtain ⟨y0, y1, y2, y3, n, rfl, hl, h0, h1, h2, h3⟩ := Go.Joins.trod_struct4 Tryz.underlying49 h
  obtain ⟨s0, h0, _⟩ := opens_str Tryz.underlying9 H enc W _ _ _ h0
  obtain ⟨i1, ⟨h1, w1⟩, _⟩ := opens_int Tryz.underlying31 H enc W _ _ _ h1
  obtain ⟨s2, h2, _⟩ := opens_str Tryz.underlying9 H enc W _ _ _ h2
  obtain ⟨l3, ⟨A, c, h3, hc, hr⟩, hs⟩ := opens_slice Tryz.underlying33 co9 (opens_str Tryz.underlying9) H enc W _ _ _ h3
  have e0 := cut1 (n := 1) h0 (by rw [co9])
  have e1 := cut1 (n := 2) h1 (by rw [co29])
  have e2 := cut1 (n := 3) h2 (by rw [co9])
  have e3 := cut1 (n := 4) h3 (by rw [co31])
  rw [co54] at hl
  have e4 := cutn hl
  have hk := G.k49_mk W ⟨s0, i1, s2, l3⟩ hc hr
  refine ⟨⟨s0, i1, s2, l3⟩, ⟨?_, w1⟩, ?_⟩
  · rw [show cs = cs.drop 0 from rfl, e0, e1, e2, e3, e4]
    exact hk
  · have := sum_len (fun s : ByteArray => s.size + 1) (fun _ => Nat.succ_pos _) l3
    simp only [Rows.uptoBulk, Rows.uptoBulkAll]
    show 1 + l3.length ≤ _
    have h5 := bulks.one_le y0.1
    have hs' : 1 + sumB (fun s : ByteArray => s.size + 1) l3 ≤ Rows.uptoBulk y3.1 := hs
    omega
def AnsK (W : World) (a : Ans) (cs : List Value) : Prop := (∃ A c, cs = [.int .i64 a.f0, .int .i64 a.f1, .int .u64 a.f2, .slice A a.f3.length c] ∧ a.f3.length ≤ c ∧ ReadsRow (VerK W) 4 W A a.f3.length a.f3) ∧ (Lit.int .u64 a.f2).wf = true
def szV (l : List Ver) : Nat := sumB (fun v : Ver => 1 + v.f3.length) l
theorem opens_ans : Opens 36 AnsK (fun a => 1 + szV a.f3) := fun H enc W fuel cs x h => by
  obtain ⟨y0, y1, y2, y3, n, rfl, hl, h0, h1, h2, h3⟩ := Go.Joins.trod_struct4 Tryz.underlying36 h
  obtain ⟨i0, ⟨h0, _⟩, _⟩ := opens_int Tryz.underlying3 H enc W _ _ _ h0
  obtain ⟨i1, ⟨h1, _⟩, _⟩ := opens_int Tryz.underlying3 H enc W _ _ _ h1
  obtain ⟨i2, ⟨h2, w2⟩, _⟩ := opens_int Tryz.underlying31 H enc W _ _ _ h2
  obtain ⟨l3, ⟨A, c, h3, hc, hr⟩, hs⟩ := opens_slice Tryz.underlying34 co54 opens_ver H enc W _ _ _ h3
  have e0 := cut1 (n := 1) h0 (by rw [co3])
  have e1 := cut1 (n := 2) h1 (by rw [co3])
  have e2 := cut1 (n := 3) h2 (by rw [co29])
  have e3 := cut1 (n := 4) h3 (by rw [co32])
  rw [co34] at hl
  have e4 := cutn hl
  refine ⟨⟨i0, i1, i2, l3⟩, ⟨⟨A, c, ?_, hc, hr⟩, w2⟩, ?_⟩
  · rw [show cs = cs.drop 0 from rfl, e0, e1, e2, e3, e4]
    rfl
  · simp only [Rows.uptoBulk, Rows.uptoBulkAll]
    show 1 + szV l3 ≤ _
    have h5 := bulks.one_le y0.1
    have hs' : 1 + szV l3 ≤ Rows.uptoBulk y3.1 := hs
    omega
/-- what the numbers and the keys of an event handed in are -/
structure EvtW (e : Evt) : Prop where
  u64 : (Lit.int .u64 e.f3).wf = true
  a64 : (Lit.int .u64 e.f6.f2).wf = true
  v64 : ∀ v ∈ e.f6.f3, (Lit.int .u64 v.f1).wf = true
def EvtK (W : World) (e : Evt) (cs : List Value) : Prop := kEvt.K W e cs ∧ EvtW e
def szE (e : Evt) : Nat := 1 + e.f4.length + e.f5.length + szV e.f6.f3
theorem reads_imp {α : Type} {R R' : α → List Value → Prop} {n m : Nat} {W : World} {A : Option Addr} {l : List α} (h : ReadsRow R n W A m l) (hi : ∀ p cs, R p cs → R' p cs) : ReadsRow R' n W A m l := by
  refine ⟨h.1, h.2.1, fun h0 => ?_⟩
  obtain ⟨ad, ea, hc⟩ := h.2.2 h0
  refine ⟨ad, ea, fun t q hq => ?_⟩
  obtain ⟨cs, h1, h2, h3⟩ := hc t q hq
  exact ⟨cs, h1, hi _ _ h2, h3⟩
theorem reads_all {α : Type} {R : α → List Value → Prop} {n : Nat} {W : World} {A : Option Addr} {l : List α} (h : ReadsRow R n W A l.length l) {q : α} (hq : q ∈ l) : ∃ cs, R q cs := by
  obtain ⟨j, hj, rfl⟩ := List.getElem_of_mem hq
  obtain ⟨ad, ea, hc⟩ := h.2.2 (by omega)
  obtain ⟨cs, _, h2, _⟩ := hc j l[j] (List.getElem?_eq_getElem hj)
  exact ⟨cs, h2⟩
theorem opens_evt : Opens 38 EvtK szE := fun H enc W fuel cs x h => by
  obtain ⟨xs, n, _, rfl, hl, hlen, hf⟩ := DataW.trod_struct Tryz.underlying38 h
  match xs, hlen with
  | [y0, y1, y2, y3, y4, y5, y6], _ =>
    have h0 : DataW.trod enc Tryz.prog W 0 (fun _ => true) true n 3 ((cs.drop 0).take (Tryz.prog.cellsOf 3)) = some y0 := hf 0 _ rfl
    have h1 : DataW.trod enc Tryz.prog W 0 (fun _ => true) true n 3 ((cs.drop 1).take (Tryz.prog.cellsOf 3)) = some y1 := hf 1 _ rfl
    have h2 : DataW.trod enc Tryz.prog W 0 (fun _ => true) true n 3 ((cs.drop 2).take (Tryz.prog.cellsOf 3)) = some y2 := hf 2 _ rfl
    have h3 : DataW.trod enc Tryz.prog W 0 (fun _ => true) true n 31 ((cs.drop 3).take (Tryz.prog.cellsOf 31)) = some y3 := hf 3 _ rfl
    have h4 : DataW.trod enc Tryz.prog W 0 (fun _ => true) true n 32 ((cs.drop 4).take (Tryz.prog.cellsOf 32)) = some y4 := hf 4 _ rfl
    have h5 : DataW.trod enc Tryz.prog W 0 (fun _ => true) true n 33 ((cs.drop 5).take (Tryz.prog.cellsOf 33)) = some y5 := hf 5 _ rfl
    have h6 : DataW.trod enc Tryz.prog W 0 (fun _ => true) true n 36 ((cs.drop 6).take (Tryz.prog.cellsOf 36)) = some y6 := hf 6 _ rfl
    obtain ⟨i0, ⟨h0, _⟩, _⟩ := opens_int Tryz.underlying3 H enc W _ _ y0 h0
    obtain ⟨i1, ⟨h1, _⟩, _⟩ := opens_int Tryz.underlying3 H enc W _ _ y1 h1
    obtain ⟨i2, ⟨h2, _⟩, _⟩ := opens_int Tryz.underlying3 H enc W _ _ y2 h2
    obtain ⟨i3, ⟨h3, w3⟩, _⟩ := opens_int Tryz.underlying31 H enc W _ _ y3 h3
    obtain ⟨l4, ⟨A4, c4, h4, hc4, hr4⟩, hs4⟩ := opens_slice Tryz.underlying32 co86 opens_pair H enc W _ _ y4 h4
    obtain ⟨l5, ⟨A5, c5, h5, hc5, hr5⟩, hs5⟩ := opens_slice Tryz.underlying33 co9 (opens_str Tryz.underlying9) H enc W _ _ y5 h5
    obtain ⟨a6, ⟨⟨A9, c9, h6, hc9, hr9⟩, w6⟩, hs6⟩ := opens_ans H enc W _ _ y6 h6
    have e0 := cut1 (n := 1) h0 (by rw [co3])
    have e1 := cut1 (n := 2) h1 (by rw [co3])
    have e2 := cut1 (n := 3) h2 (by rw [co3])
    have e3 := cut1 (n := 4) h3 (by rw [co29])
    have e4 := cut1 (n := 5) h4 (by rw [co30])
    have e5 := cut1 (n := 6) h5 (by rw [co31])
    have e6 := cut1 (n := 10) h6 (by rw [co34])
    rw [co36] at hl
    have e7 := cutn hl
    have hk := G.k38_mk W ⟨i0, i1, i2, i3, l4, l5, a6⟩ hc4 (reads_imp hr4 (fun p cs h => by rw [show cs = _ from h]; exact G.k75_mk W p)) hc5 hr5 hc9 (reads_imp hr9 (fun _ _ h => h.1))
    refine ⟨⟨i0, i1, i2, i3, l4, l5, a6⟩, ⟨?_, ⟨w3, w6, fun v hv => ?_⟩⟩, ?_⟩
    · rw [show cs = cs.drop 0 from rfl, e0, e1, e2, e3, e4, e5, e6, e7]
      exact hk
    · obtain ⟨_, hq⟩ := reads_all hr9 hv
      exact hq.2
    · have n4 := sum_len (fun _ : Pai => 1) (fun _ => Nat.le_refl _) l4
      have n5 := sum_len (fun s : ByteArray => s.size + 1) (fun _ => Nat.succ_pos _) l5
      have hs4' : 1 + sumB (fun _ : Pai => 1) l4 ≤ Rows.uptoBulk y4.1 := hs4
      have hs5' : 1 + sumB (fun s : ByteArray => s.size + 1) l5 ≤ Rows.uptoBulk y5.1 := hs5
      have hs6' : 1 + szV a6.f3 ≤ Rows.uptoBulk y6.1 := hs6
      simp only [List.map_cons, List.map_nil, Rows.uptoBulk, Rows.uptoBulkAll]
      show 1 + l4.length + l5.length + szV a6.f3 ≤ _
      omega
instance : Inhabited Evt := ⟨⟨0, 0, 0, 0, [], [], ⟨0, 0, 0, []⟩⟩⟩
theorem szV_mem {l : List Ver} {v : Ver} (h : v ∈ l) : v.f3.length ≤ szV l := by
  induction l with
  | nil => cases h
  | cons x r ih =>
    simp only [szV, sumB]
    rcases List.mem_cons.1 h with rfl | h
    · omega
    · have := ih h
      unfold szV at this
      omega
theorem szV_len (l : List Ver) : l.length ≤ szV l := sum_len (fun v : Ver => 1 + v.f3.length) (fun _ => by omega) l
theorem sz_sum (l : List Evt) : sumE l ≤ sumB szE l := by
  induction l with
  | nil => exact Nat.le_refl _
  | cons x r ih =>
    have := szV_len x.f6.f3
    simp only [sumE, sumB, wtE, szE]
    omega
theorem sz_mem : ∀ (l : List Evt) (j : Nat) (h : j < l.length), szE l[j] ≤ sumB szE l
  | [], j, h => absurd h (Nat.not_lt_zero j)
  | x :: r, 0, _ => by simp only [List.getElem_cons_zero, sumB]; omega
  | x :: r, j + 1, h => by
    have := sz_mem r j (by simpa using h)
    simp only [List.getElem_cons_succ, sumB]
    omega
set_option maxRecDepth 100000 in
/-- a list of events handed in, of a bounded bulk -/
theorem open_events {H : Type} {enc : TypeId × Value → H} {W : World} {base : Nat} {v : Value} {d : DataW H} {p : List MemPlace}
    (hv : Value.okWide Tryz.prog W .any base 22 v) (h : DataW.Trod enc Tryz.prog W 0 (fun _ => true) true 22 v d p) (hk : Rows.uptoBulk d ≤ 1048576) :
    ∃ (A : Option Addr) (l : List Evt) (c : Nat), v = .slice A l.length c ∧ kEvt.C W A l.length l ∧ l.length ≤ c ∧ LawIn l := by
  obtain ⟨a0, len, cap, rfl⟩ := okWide_slice Tryz.underlying22 hv
  obtain ⟨fuel, hf⟩ := h
  obtain ⟨l, ⟨A, c, hc, hl, hr⟩, hs⟩ := opens_slice Tryz.underlying22 co36 opens_evt H enc W fuel _ _ hf
  have hc : [Value.slice a0 len cap] = [.slice A l.length c] := hc
  simp only [List.cons.injEq, Value.slice.injEq, and_true] at hc
  obtain ⟨rfl, rfl, rfl⟩ := hc
  have hs1 : 1 + sumB szE l ≤ Rows.uptoBulk d := hs
  have hs' : 1 + sumB szE l ≤ 1048576 := Nat.le_trans hs1 hk
  have hw : ∀ j (hj : j < l.length), EvtW l[j] := fun j hj => by
    obtain ⟨_, hq⟩ := reads_all hr (List.getElem_mem hj)
    exact hq.2
  refine ⟨a0, l, cap, rfl, reads_imp hr (fun _ _ h => h.1), hl, ⟨?_, fun j hj => ?_, fun j hj k hk => ?_, fun j hj => (hw j hj).u64, fun j hj => (hw j hj).a64, fun j hj k hk => (hw j hj).v64 _ (List.getElem_mem hk)⟩⟩
  · have := sz_sum l
    omega
  · have := sz_mem l j hj
    have e : szE l[j] = 1 + l[j].f4.length + l[j].f5.length + szV l[j].f6.f3 := rfl
    omega
  · have h1 := sz_mem l j hj
    have h2 := szV_mem (List.getElem_mem hk)
    have e : szE l[j] = 1 + l[j].f4.length + l[j].f5.length + szV l[j].f6.f3 := rfl
    omega
end Go.Proofs.YtiibjgnmdieicaaGreat.Hist
