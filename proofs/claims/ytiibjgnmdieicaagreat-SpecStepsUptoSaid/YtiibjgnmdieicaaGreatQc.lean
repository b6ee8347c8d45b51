/- maps in memory, in plain words: what a map holds at each key. -/
import Derived.Test.YtiibjgnmdieicaaGreatPg
import Derived.Maps.OwnSet
import Derived.Maps.OwnOps
import Derived.DeepKeys4
import Derived.Lib.Hide
import Derived.Test.YtiibjgnmdieicaaGreatQb
import Derived.Lib.QuietBelow
import Derived.BigQuiet
import Derived.Test.YtiibjgnmdieicaaGreatPs
import Derived.Sort.OwnSorted
namespace Go.Proofs.YtiibjgnmdieicaaGreat.Hist
open Go.RowKit Go.Proofs.YtiibjgnmdieicaaGreatW.PrintWords
open Go.Maps (Keyed)
def anyElem (v : Value) : Option (DataW Value × List MemPlace) := some (.held v, [])
/-- block b is a map of at most n entries that holds at the key x just f x -/
def MapIs {κ : Type} (P : Program) (k : TypeId) (kv : κ → Value) (w : World) (b n : Nat) (f : κ → Option Value) : Prop :=
  ∃ D, w.ownsMap P k anyElem b n D ∧ ∀ x kl, keyOf P k (kv x) = some kl → Maps.has D kl = (f x).isSome ∧ ∀ v, f x = some v → ∀ z, D.atKey kl z = .held v
def putF {κ α : Type} [DecidableEq κ] (f : κ → Option α) (x : κ) (v : α) : κ → Option α := fun y => if y = x then some v else f y
variable {κ : Type} {P : Program} {k : TypeId} {kv : κ → Value} {w : World} {b n : Nat} {f : κ → Option Value}
theorem MapIs.made (P : Program) (k : TypeId) (kv : κ → Value) (w : World) : MapIs P k kv (w.alloc (.map #[] 0)) w.heap.size 0 (fun _ => none) :=
  ⟨_, World.ownsMap_made w P k anyElem, fun x kl _ => ⟨rfl, fun v h => by cases h⟩⟩
theorem MapIs.lt (h : MapIs P k kv w b n f) : b < w.heap.size := h.choose_spec.1.lt
theorem MapIs.of_block (h : MapIs P k kv w b n f) {w' : World} (e : w'.heap[b]? = w.heap[b]?) : MapIs P k kv w' b n f := by
  obtain ⟨D, ⟨es, clock, hb, F, hs, hD⟩, hx⟩ := h
  exact ⟨D, ⟨es, clock, e.trans hb, F, hs, hD⟩, hx⟩
theorem MapIs.kept (h : MapIs P k kv w b n f) {w' : World} {row : Option Nat} (hg : w.grownBy w' row) (hne : some b ≠ row) : MapIs P k kv w' b n f := h.of_block (hg.block b h.lt hne)
theorem MapIs.below (h : MapIs P k kv w b n f) {w' : World} (hb : Below w.heap.size w w') : MapIs P k kv w' b n f := h.of_block (hb.block b h.lt)
/-- a map's block holds no cells -/
theorem MapIs.no_cells (h : MapIs P k kv w b n f) {c : Array Value} {t : TypeId} {fr : Nat × Nat} : w.heap[b]? ≠ some (.cells c t fr) := by
  obtain ⟨D, ⟨es, clock, hb, _⟩, _⟩ := h
  rw [hb]
  intro e
  cases e
theorem MapIs.set_ (h : MapIs P k kv w b n f) {a : Addr} {c : Array Value} {t : TypeId} {fr : Nat × Nat} (ha : w.heap[a.block]? = some (.cells c t fr)) (u : Value) : MapIs P k kv (w.setCell a u) b n f := by
  have hne : b ≠ a.block := fun e => h.no_cells (e ▸ ha)
  exact h.of_block (Below.heap_setCell w a u b hne)
theorem MapIs.mono (h : MapIs P k kv w b n f) {n' : Nat} (hn : n ≤ n') : MapIs P k kv w b n' f := by
  obtain ⟨D, hD, hx⟩ := h
  exact ⟨D, hD.mono hn, hx⟩
theorem MapIs.put [DecidableEq κ] {w' : World} {D : DataW Value} (K : Keyed P k) (hinj : ∀ x y, kv x = kv y → x = y) (h : w.ownsMap P k anyElem b n D)
    (hx : ∀ x kl, keyOf P k (kv x) = some kl → Maps.has D kl = (f x).isSome ∧ ∀ v, f x = some v → ∀ z, D.atKey kl z = .held v) {x : κ} {kl : Lit} {v : Value} (hkey : keyOf P k (kv x) = some kl) (h' : w'.ownsMap P k anyElem b (n + 1) (D.put kl (.held v))) :
    MapIs P k kv w' b (n + 1) (putF f x v) := by
  refine ⟨_, h', fun y ky hy => ?_⟩
  unfold putF
  by_cases e : y = x
  · subst e
    rw [if_pos rfl]
    rw [hkey] at hy
    injection hy with hy
    subst hy
    refine ⟨Maps.has_put_same h.isMap (K.key hkey) _, fun v' hv' z => ?_⟩
    injection hv' with hv'
    subst hv'
    exact Maps.atKey_put_same h.isMap (K.key hkey) _ _
  · rw [if_neg e]
    have hne : ky ≠ kl := fun he => e (hinj _ _ (K.inj (he ▸ hy) hkey))
    obtain ⟨h1, h2⟩ := hx y ky hy
    exact ⟨by rw [Maps.has_put_other hne, h1], fun v' hv' z => by rw [Maps.atKey_put_other hne]; exact h2 v' hv' z⟩
theorem wpList_put_map [DecidableEq κ] {ops : Array Oper} {rest : List Oper} {o : Oper} {a : Act} {Q : Exit → Act → World → Prop}
    (hg : o.guard = none) (m x v : Operand) (t : TypeId) (hop : o.op = Op.mapUpdate t m x v) (e : TypeId) (K : Keyed P k) (hinj : ∀ x y, kv x = kv y → x = y) (ht : P.underlying t = some (.map k e))
    (hm : a.eval m = .map (some b)) (h : MapIs P k kv w b n f) (hn : n < maxLen) (key : κ) (val : Value) (hx : a.eval x = kv key) (hv : a.eval v = val) (hkey : ∃ kl, keyOf P k (kv key) = some kl)
    (hK : ∀ w', MapIs P k kv w' b (n + 1) (putF f key val) → w.grownBy w' (some b) → wpList P ops Q rest (a.put o.dst undef) w') :
    wpList P ops Q (o :: rest) a w := by
  obtain ⟨D, hD, hf⟩ := h
  obtain ⟨kl, hkl⟩ := hkey
  exact wpList_mapUpdate_own w hg m x v t hop k e K ht anyElem b n D hm hD hn _ val kl hx hv hkl (.held val) [] rfl fun w' h' hgr => hK w' (MapIs.put K hinj hD hf hkl h') hgr
theorem MapIs.got {D : DataW Value} {x : κ} {kl : Lit} (hx : Maps.has D kl = (f x).isSome ∧ ∀ v, f x = some v → ∀ z, D.atKey kl z = .held v) {z v : Value} {ps : List MemPlace} (hv : anyElem v = some (D.atKey kl (.held z), ps)) : v = (f x).getD z := by
  simp only [anyElem, Option.some.injEq, Prod.mk.injEq] at hv
  cases hf : f x with
  | none =>
    have h0 : Maps.has D kl = false := by rw [hx.1, hf]; rfl
    rw [Maps.atKey_of_not_has h0] at hv
    injection hv.1 with e
  | some u =>
    rw [hx.2 u hf] at hv
    injection hv.1 with e
/-- 'v, ok := m[k]' -/
theorem wpList_look2_map {ops : Array Oper} {rest : List Oper} {o : Oper} {a : Act} {Q : Exit → Act → World → Prop}
    (hg : o.guard = none) (m x : Operand) (t : TypeId) (hop : o.op = Op.lookup t m x true) (e : TypeId) (K : Keyed P k) (ht : P.underlying t = some (.map k e)) {z : Value} (hz : (zeroValue e).run P w = .ok z w)
    (hm : a.eval m = .map (some b)) (h : MapIs P k kv w b n f) (key : κ) (hx : a.eval x = kv key) (hkey : ∃ kl, keyOf P k (kv key) = some kl) (v : Value) (r : Bool) (hv : (f key).getD z = v) (hr : (f key).isSome = r)
    (hK : wpList P ops Q rest (a.put o.dst (.tuple #[v, .bool r])) w) :
    wpList P ops Q (o :: rest) a w := by
  obtain ⟨D, hD, hf⟩ := h
  obtain ⟨kl, hkl⟩ := hkey
  refine wpList_lookup_own_ok w hg m x t hop k e K ht anyElem hz (.held z) [] rfl b n D hm hD _ kl hx hkl fun v' ps hv' => ?_
  have e1 := MapIs.got (hf key kl hkl) hv'
  rw [(hf key kl hkl).1, e1, hv, hr]
  exact hK
/-- 'm[k]' -/
theorem wpList_look1_map {ops : Array Oper} {rest : List Oper} {o : Oper} {a : Act} {Q : Exit → Act → World → Prop}
    (hg : o.guard = none) (m x : Operand) (t : TypeId) (hop : o.op = Op.lookup t m x false) (e : TypeId) (K : Keyed P k) (ht : P.underlying t = some (.map k e)) {z : Value} (hz : (zeroValue e).run P w = .ok z w)
    (hm : a.eval m = .map (some b)) (h : MapIs P k kv w b n f) (key : κ) (hx : a.eval x = kv key) (hkey : ∃ kl, keyOf P k (kv key) = some kl) (v : Value) (hv : (f key).getD z = v)
    (hK : wpList P ops Q rest (a.put o.dst v) w) :
    wpList P ops Q (o :: rest) a w := by
  obtain ⟨D, hD, hf⟩ := h
  obtain ⟨kl, hkl⟩ := hkey
  refine wpList_plain hg fun K' hK' => ?_
  obtain ⟨v', ps, hrun, hv'⟩ := hD.lookup K ht hz (R := anyElem) (zd := .held z) (zp := []) rfl hkl
  have e1 := MapIs.got (hf key kl hkl) hv'
  rw [e1, hv] at hrun
  unfold Oper.wp
  simp [execOp, hop, hm, hx, hrun, Result.andThen]
  exact hK' _ _ hK
/-- the keys of the judge: a client and the number of its request -/
def kvReq (q : Int × Int) : Value := .agg #[.int .i64 q.1, .int .i64 q.2]
theorem kvReq_inj (x y : Int × Int) (h : kvReq x = kvReq y) : x = y := by
  obtain ⟨a, b⟩ := x
  obtain ⟨c, d⟩ := y
  simp only [kvReq, Value.agg.injEq, Array.mk.injEq, List.cons.injEq, Value.int.injEq] at h
  simp only [Prod.mk.injEq]
  exact ⟨h.1.2, h.2.1.2⟩
theorem keyedReq : Keyed Tryz.prog 128 := Keyed.of_law (deep_law_laid (by kernel_rfl) (m := 3) (by omega) (of_decide_eq_true (by kernel_rfl)) (by kernel_rfl) (by kernel_rfl))
def in64 (x : Int) : Prop := -9223372036854775808 ≤ x ∧ x ≤ 9223372036854775807
theorem wf64 {x : Int} (h : in64 x) : (Lit.int .i64 x).wf = true := WalkArith.wf_i64 h
theorem keyReq (q : Int × Int) (h1 : in64 q.1) (h2 : in64 q.2) : ∃ kl, keyOf Tryz.prog 128 (kvReq q) = some kl := by
  have e1 : Tryz.prog.keyType 128 = true := by kernel_rfl
  have e2 : Tryz.prog.cellsOf 128 = 2 := by kernel_rfl
  have e4 : Tryz.prog.cellsOf 3 = 1 := by kernel_rfl
  have e5 : 1 ≤ Tryz.prog.types.size := of_decide_eq_true (by kernel_rfl)
  unfold keyOf
  rw [Tryz.underlying128]
  have hu3 := Tryz.underlying3
  have hu := Tryz.underlying128
  generalize Tryz.prog = P at *
  obtain ⟨d, e3⟩ : ∃ d, P.types.size = d + 1 := ⟨P.types.size - 1, by omega⟩
  simp only [e1, e3, kvReq, Value.formed, hu, e2, Value.cells]
  simp [Program.keyLits, hu, hu3, e2, e4, wf64 h1, wf64 h2]
end Go.Proofs.YtiibjgnmdieicaaGreat.Hist
/- judge: the writes in memory; texts and pairs sought; find, wrote, walked. -/
namespace Go.Proofs.YtiibjgnmdieicaaGreat.Hist
open Go.RowKit Go.Proofs.YtiibjgnmdieicaaGreatW.PrintWords
def eqS (a b : ByteArray) : Bool := a.toList == b.toList
/-- slices.Equal of texts -/
def eqL (a b : List ByteArray) : Bool := a.length == b.length && (a.zip b).all fun p => eqS p.1 p.2
theorem eqL_no {l ks : List ByteArray} {j : Nat} (h1 : j < l.length) (h2 : j < ks.length) (h : eqS l[j] ks[j] = false) : eqL l ks = false := by
  unfold eqL
  rw [Bool.and_eq_false_iff]
  refine .inr ?_
  rw [List.all_eq_false]
  exact ⟨(l[j], ks[j]), List.mem_iff_getElem.2 ⟨j, by simp; omega, by simp⟩, by simp [h]⟩
theorem eqL_yes {l ks : List ByteArray} (hl : l.length = ks.length) (h : ∀ t, (h1 : t < l.length) → (h2 : t < ks.length) → eqS l[t] ks[t] = true) : eqL l ks = true := by
  unfold eqL
  rw [Bool.and_eq_true]
  refine ⟨by simpa using hl, ?_⟩
  rw [List.all_eq_true]
  intro p hp
  obtain ⟨t, ht, rfl⟩ := List.getElem_of_mem hp
  simp at ht
  simpa using h t (by omega) (by omega)
def RelQ (w : World) (l ks : List ByteArray) (s : Value) (wr : World) : Prop := ∃ j, j ≤ l.length ∧ s = .int .i64 j ∧ (∀ t, (h1 : t < l.length) → (h2 : t < ks.length) → t < j → eqS l[t] ks[t] = true) ∧ Below w.heap.size w wr
set_option maxHeartbeats 2000000 in
theorem equalStr_any (A : Option Addr) (c : Nat) (l : List ByteArray) (B : Option Addr) (d : Nat) (ks : List ByteArray) (w : World) (hC : Kd.C Kd.string w A l.length l) (hK : Kd.C Kd.string w B ks.length ks) :
    Calls Tryz.prog 125 #[.slice A l.length c, .slice B ks.length d] w fun e w' => e = .returned (.bool (eqL l ks)) ∧ Below w.heap.size w w' := by
  have hm : l.length ≤ 9223372036854775807 := hC.2.1
  obtain ⟨r, hr⟩ : ∃ r, r = eqL l ks := ⟨_, rfl⟩
  rw [← hr]
  replace hr := Lib.hid hr
  replace hC := Lib.hid hC
  replace hK := Lib.hid hK
  by_cases hl : l.length = ks.length
  · have dl : ((l.length : Int) != (ks.length : Int)) = false := by rw [bne_eq_false_iff_eq]; omega
    replace hl := Lib.hid hl
    go_enter Tryz.func125, Tryz.ntmps125
    go_wp2
    go_loopw [13] (fun s wr => RelQ w l ks s wr) (fun s _ => l.length - (intOf s).toNat)
    case atStart => exact ⟨0, Nat.zero_le _, rfl, (fun t _ _ h => absurd h (Nat.not_lt_zero t)), Below.refl _ _⟩
    case round =>
      obtain ⟨j, hj, rfl, hp, hB⟩ := hrel
      replace hp := Lib.hid hp
      replace hB := Lib.hid hB
      by_cases hlt : j < l.length
      · have hlk : j < ks.length := by have := hl.out; omega
        obtain ⟨ad, rfl, q0⟩ := text_at (Kd.C_below hC.out hB.out) hlt
        obtain ⟨bd, rfl, q4⟩ := text_at (Kd.C_below hK.out hB.out) hlk
        have hno := @eqL_no l ks j hlt hlk
        have hnx : eqS l[j] ks[j] = true → ∀ t, (h1 : t < l.length) → (h2 : t < ks.length) → t < j + 1 → eqS l[t] ks[t] = true := fun h t h1 h2 h3 => by
          by_cases e : t = j
          · subst e; exact h
          · exact hp.out t h1 h2 (by omega)
        have hbl : ∀ n, Below w.heap.size w (wr.drewN n) := fun n => below_then hB.out hB.out.size (pw_below_drewN (Below.refl _ _) n)
        replace hbl := Lib.hid hbl
        cases hb0 : eqS l[j] ks[j]
        · have hb1 : (l[j].toList == ks[j].toList) = false := hb0
          have hno := Lib.hid (hno hb0)
          clear hnx
          replace hb0 := Lib.hid hb0
          go_wp2
          go_quiet (fail)
          go_wp2
          go_ret
          exact ⟨by rw [hr.out, hno.out]; rfl, hbl.out _⟩
        · have hb1 : (l[j].toList == ks[j].toList) = true := hb0
          have hnx := Lib.hid (hnx hb0)
          clear hno
          replace hb0 := Lib.hid hb0
          go_wp2
          go_quiet (fail)
          go_wp2
          go_roundw
          case rel => exact ⟨j + 1, by omega, by go_num, hnx.out, hbl.out _⟩
          case measure => simp [intOf]; omega
      · have hyes := Lib.hid (eqL_yes hl.out (fun t h1 h2 => hp.out t h1 h2 (by omega)))
        go_wp2
        go_ret
        exact ⟨by rw [hr.out, hyes.out]; rfl, hB.out⟩
  · have dl : ((l.length : Int) != (ks.length : Int)) = true := by rw [bne_iff_ne]; omega
    have hno : eqL l ks = false := by unfold eqL; rw [Bool.and_eq_false_iff]; exact .inl (by simpa using hl)
    replace hno := Lib.hid hno
    replace hl := Lib.hid hl
    go_enter Tryz.func125, Tryz.ntmps125
    go_wp2
    go_ret
    exact ⟨by rw [hr.out, hno.out]; rfl, Below.refl _ _⟩
set_option maxHeartbeats 2000000 in
theorem indexStr_any (A : Option Addr) (c : Nat) (l : List ByteArray) (k : ByteArray) (w : World) (hC : Kd.C Kd.string w A l.length l) :
    Calls Tryz.prog 133 #[.slice A l.length c, .string k] w fun e w' => e = .returned (.int .i64 (fidx (fun x => eqS k x) l)) ∧ w = w' := by
  have hm : l.length ≤ 9223372036854775807 := hC.2.1
  obtain ⟨r, hr⟩ : ∃ r, r = fidx (fun x => eqS k x) l := ⟨_, rfl⟩
  rw [← hr]
  replace hr := Lib.hid hr
  replace hC := Lib.hid hC
  go_enter Tryz.func133, Tryz.ntmps133
  go_wp2
  go_loopw [8] (fun s wr => ∃ j, j ≤ l.length ∧ s = .int .i64 j ∧ (∀ t, (ht : t < l.length) → t < j → eqS k l[t] = false) ∧ w = wr) (fun s _ => l.length - (intOf s).toNat)
  case atStart => exact ⟨0, Nat.zero_le _, rfl, (fun t _ h => absurd h (Nat.not_lt_zero t)), rfl⟩
  case round =>
    obtain ⟨j, hj, rfl, hp, rfl⟩ := hrel
    replace hp := Lib.hid hp
    by_cases hlt : j < l.length
    · obtain ⟨ad, rfl, q0⟩ := text_at hC.out hlt
      have hat := @fidx_at _ (fun x => eqS k x) l j hlt hp.out
      have hnx : eqS k l[j] = false → ∀ t, (ht : t < l.length) → t < j + 1 → eqS k l[t] = false := fun h t ht h1 => by
        by_cases e : t = j
        · subst e; exact h
        · exact hp.out t ht (by omega)
      cases hb0 : eqS k l[j]
      · have hb1 : (k.toList == l[j].toList) = false := hb0
        have hnx := Lib.hid (hnx hb0)
        clear hat
        replace hb0 := Lib.hid hb0
        go_wp2
        go_roundw
        case rel => exact ⟨j + 1, by omega, by go_num, hnx.out, by trivial⟩
        case measure => simp [intOf]; omega
      · have hb1 : (k.toList == l[j].toList) = true := hb0
        have hat := Lib.hid (hat hb0)
        clear hnx
        replace hb0 := Lib.hid hb0
        go_wp2
        go_ret
        exact ⟨by rw [hr.out, hat.out]; rfl, rfl⟩
    · have hno := Lib.hid (fidx_none (p := fun x => eqS k x) (l := l) (fun t ht => hp.out t ht (by omega)))
      go_wp2
      go_ret
      exact ⟨by rw [hr.out, hno.out]; rfl, rfl⟩
set_option maxHeartbeats 1000000 in
theorem containsStr_any (A : Option Addr) (c : Nat) (l : List ByteArray) (k : ByteArray) (w : World) (hC : Kd.C Kd.string w A l.length l) :
    Calls Tryz.prog 132 #[.slice A l.length c, .string k] w fun e w' => e = .returned (.bool (l.any fun x => eqS k x)) ∧ w = w' := by
  have h := indexStr_any A c l k w hC
  have hd := fidx_any (fun x => eqS k x) l
  generalize fidx (fun x => eqS k x) l = i at h hd
  rw [← hd]
  clear hd hC
  replace h := Lib.hid h
  go_enter Tryz.func132, Tryz.ntmps132
  go_wp2_with fail
  refine h.out.mono ?_
  rintro e W ⟨rfl, rfl⟩
  go_wp2
  go_ret
  exact ⟨rfl, rfl⟩
def eqP (a b : Pai) : Bool := eqS a.f0 b.f0 && eqS a.f1 b.f1
theorem pair_at {W : World} {A : Option Addr} {l : List Pai} (h : Kd.C kPai W A l.length l) {j : Nat} (hj : j < l.length) : ∃ ad, A = some ad ∧ W.cell? (ad.add (j * 2)) = some (.string l[j].f0) ∧ W.cell? ⟨(ad.add (j * 2)).block, (ad.add (j * 2)).off + 1, none⟩ = some (.string l[j].f1) := by
  have h2 := G.at_T75 h (j : Int) (by omega) (by omega)
  rw [Int.toNat_natCast, show G.rd_T75 l (j : Int) = l[j] from by simp [G.rd_T75, hj]] at h2
  exact h2
set_option maxHeartbeats 2000000 in
theorem indexPair_any (A : Option Addr) (c : Nat) (l : List Pai) (k : Pai) (w : World) (hC : Kd.C kPai w A l.length l) :
    Calls Tryz.prog 128 #[.slice A l.length c, .agg #[.string k.f0, .string k.f1]] w fun e w' => e = .returned (.int .i64 (fidx (fun x => eqP k x) l)) ∧ Below w.heap.size w w' := by
  have hm : l.length ≤ 9223372036854775807 := hC.2.1
  obtain ⟨r, hr⟩ : ∃ r, r = fidx (fun x => eqP k x) l := ⟨_, rfl⟩
  rw [← hr]
  replace hr := Lib.hid hr
  replace hC := Lib.hid hC
  have hbk0 := Lib.hid (heap_alloc_new w (.cells #[.string k.f0, .string k.f1] 75))
  have hB0 := Lib.hid (below_alloc (Below.refl _ _) (.cells #[.string k.f0, .string k.f1] 75) : Below w.heap.size w _)
  go_enter Tryz.func128, Tryz.ntmps128
  go_wp2
  go_loopw [8] (fun s wr => ∃ j, j ≤ l.length ∧ s = .int .i64 j ∧ (∀ t, (ht : t < l.length) → t < j → eqP k l[t] = false) ∧ Below w.heap.size w wr ∧ wr.heap[w.heap.size]? = some (.cells #[.string k.f0, .string k.f1] 75 (0, 0))) (fun s _ => l.length - (intOf s).toNat)
  case atStart => exact ⟨0, Nat.zero_le _, rfl, (fun t _ h => absurd h (Nat.not_lt_zero t)), hB0.out, hbk0.out⟩
  case round =>
    obtain ⟨j, hj, rfl, hp, hB, hbk⟩ := hrel
    replace hp := Lib.hid hp
    replace hB := Lib.hid hB
    have e0 := blk_cell hbk 0
    have e1 := blk_cell hbk 1
    simp only [List.getElem?_toArray, List.getElem?_cons_zero, List.getElem?_cons_succ] at e0 e1
    replace hbk := Lib.hid hbk
    by_cases hlt : j < l.length
    · obtain ⟨ad, rfl, q0, q1⟩ := pair_at (Kd.C_below hC.out hB.out) hlt
      have hat := @fidx_at _ (fun x => eqP k x) l j hlt hp.out
      have hnx : eqP k l[j] = false → ∀ t, (ht : t < l.length) → t < j + 1 → eqP k l[t] = false := fun h t ht h1 => by
        by_cases e : t = j
        · subst e; exact h
        · exact hp.out t ht (by omega)
      have hbl : ∀ n, Below w.heap.size w (wr.drewN n) := fun n => below_then hB.out hB.out.size (pw_below_drewN (Below.refl _ _) n)
      replace hbl := Lib.hid hbl
      have hbn : Hid (∀ n, (wr.drewN n).heap[w.heap.size]? = some (.cells #[.string k.f0, .string k.f1] 75 (0, 0))) := fun n => hbk.out
      replace hat := Lib.hid hat
      replace hnx := Lib.hid hnx
      have hbe : eqP k l[j] = (k.f0.toList == l[j].f0.toList && k.f1.toList == l[j].f1.toList) := rfl
      replace hbe := Lib.hid hbe
      cases hb1 : (k.f0.toList == l[j].f0.toList) <;> cases hb2 : (k.f1.toList == l[j].f1.toList)
      rotate_left 3
      · replace hbe := Lib.hid (by rw [hbe.out, hb1, hb2]; rfl : eqP k l[j] = true)
        go_wp2
        go_quiet (fail)
        go_wp2
        go_ret
        exact ⟨by rw [hr.out, hat.out hbe.out]; rfl, hbl.out _⟩
      all_goals
        replace hbe := Lib.hid (by rw [hbe.out, hb1, hb2]; rfl : eqP k l[j] = false)
        go_wp2
        go_quiet (fail)
        go_wp2
        go_roundw
        case rel => exact ⟨j + 1, by omega, by go_num, hnx.out hbe.out, hbl.out _, hbn.out _⟩
        case measure => simp [intOf]; omega
    · have hno := Lib.hid (fidx_none (p := fun x => eqP k x) (l := l) (fun t ht => hp.out t ht (by omega)))
      go_wp2
      go_ret
      exact ⟨by rw [hr.out, hno.out]; rfl, hB.out⟩
set_option maxHeartbeats 1000000 in
theorem containsPair_any (A : Option Addr) (c : Nat) (l : List Pai) (k : Pai) (w : World) (hC : Kd.C kPai w A l.length l) :
    Calls Tryz.prog 124 #[.slice A l.length c, .agg #[.string k.f0, .string k.f1]] w fun e w' => e = .returned (.bool (l.any fun x => eqP k x)) ∧ Below w.heap.size w w' := by
  have h := fun W hW => indexPair_any A c l k W hW
  have hd := fidx_any (fun x => eqP k x) l
  generalize fidx (fun x => eqP k x) l = i at h hd
  rw [← hd]
  clear hd
  have hW := Lib.hid (Kd.C_below hC (below_alloc (Below.refl _ _) (.cells #[.string k.f0, .string k.f1] 75)))
  have hB0 := Lib.hid (below_alloc (Below.refl _ _) (.cells #[.string k.f0, .string k.f1] 75) : Below w.heap.size w _)
  replace h := Lib.hid h
  go_enter Tryz.func124, Tryz.ntmps124
  go_wp2_with fail
  refine (h.out _ hW.out).mono ?_
  rintro e W ⟨rfl, hb⟩
  replace hb := Lib.hid hb
  go_wp2
  go_ret
  exact ⟨rfl, hB0.out.trans (hb.out.mono hB0.out.size)⟩
structure Wr where
  place : Int
  id : Int
  pairs : List Pai
  keys : List ByteArray
  res : Int
  done : Int
/-- a write in memory -/
def WrAt (W : World) (b : Nat) (x : Wr) : Prop := ∃ A2 c2 A3 c3, W.cell? ⟨b, 0, none⟩ = some (.int .i64 x.place) ∧ W.cell? ⟨b, 1, none⟩ = some (.int .u64 x.id) ∧ W.cell? ⟨b, 2, none⟩ = some (.slice A2 x.pairs.length c2) ∧ W.cell? ⟨b, 3, none⟩ = some (.slice A3 x.keys.length c3) ∧ W.cell? ⟨b, 4, none⟩ = some (.int .i64 x.res) ∧ W.cell? ⟨b, 5, none⟩ = some (.int .i64 x.done) ∧ Kd.C kPai W A2 x.pairs.length x.pairs ∧ Kd.C Kd.string W A3 x.keys.length x.keys
theorem WrAt.below {W W1 : World} {b : Nat} {x : Wr} (h : WrAt W b x) (hb : Below W.heap.size W W1) : WrAt W1 b x := by
  obtain ⟨A2, c2, A3, c3, h0, h1, h2, h3, h4, h5, h6, h7⟩ := h
  exact ⟨A2, c2, A3, c3, pw_cell_below hb h0, pw_cell_below hb h1, pw_cell_below hb h2, pw_cell_below hb h3, pw_cell_below hb h4, pw_cell_below hb h5, Kd.C_below h6 hb, Kd.C_below h7 hb⟩
def kWr : Kd Wr where
  sz := 1
  E := []
  K w x cs := ∃ b, cs = [.pointer (some ⟨b, 0, none⟩)] ∧ WrAt w b x
  M _ _ _ _ _ := False
  K_len := by rintro w x cs ⟨b, rfl, _⟩; rfl
  K_one := by rintro w x cs ⟨b, rfl, _⟩ u hu; simp at hu; subst hu; rfl
  K_below hb := by rintro ⟨b, rfl, h⟩; exact ⟨b, rfl, h.below hb⟩
  K_of_M h := h.elim
  M_mono _ h := h
  M_bound h := h.elim
  M_move _ h := h
  M_lower _ h := h
theorem wr_at {W : World} {A : Option Addr} {l : List Wr} (h : Kd.C kWr W A l.length l) {j : Nat} (hj : j < l.length) : ∃ ad b, A = some ad ∧ W.cell? (ad.add j) = some (.pointer (some ⟨b, 0, none⟩)) ∧ WrAt W b l[j] := by
  obtain ⟨ad, c, e, _, hK, hc0⟩ := Kd.C_get h ⟨0, 0, [], [], 0, 0⟩ (j : Int) (by omega) (by omega)
  have hc : ∀ i u, c[i]? = some u → W.cell? (ad.add ((j : Int).toNat * 1 + i)) = some u := hc0
  obtain ⟨b, rfl, hb⟩ := hK
  have h2 := hc 0 _ rfl
  rw [Int.toNat_natCast, Nat.mul_one, Nat.add_zero] at h2
  refine ⟨ad, b, e, h2, ?_⟩
  rw [Int.toNat_natCast] at hb
  simpa [hj] using hb
set_option maxHeartbeats 1000000 in
theorem findc_any (b B : Nat) (x id : Int) (w : World) (hx : w.cell? ⟨b, 1, none⟩ = some (.int .u64 x)) (hi : w.cell? ⟨B, 0, none⟩ = some (.int .u64 id)) :
    Calls Tryz.prog 127 #[.pointer (some ⟨b, 0, none⟩), .pointer (some ⟨B, 0, none⟩)] w fun e w' => e = .returned (.bool (x == id)) ∧ Below w.heap.size w w' := by
  go_enter Tryz.func127, Tryz.ntmps127
  go_wp2
  go_quiet (fail)
  go_wp2
  go_ret
  exact ⟨rfl, pw_below_drewN (Below.refl _ _) _⟩
set_option maxHeartbeats 2000000 in
theorem indexWr_any (A : Option Addr) (c : Nat) (l : List Wr) (B : Nat) (id : Int) (w : World) (hC : Kd.C kWr w A l.length l) (hi : w.cell? ⟨B, 0, none⟩ = some (.int .u64 id)) :
    Calls Tryz.prog 126 #[.slice A l.length c, .func (.func 127) #[] #[.pointer (some ⟨B, 0, none⟩)]] w fun e w' => e = .returned (.int .i64 (fidx (fun x => x.id == id) l)) ∧ Below w.heap.size w w' := by
  have hm : l.length ≤ 9223372036854775807 := hC.2.1
  obtain ⟨r, hr⟩ : ∃ r, r = fidx (fun x : Wr => x.id == id) l := ⟨_, rfl⟩
  rw [← hr]
  replace hr := Lib.hid hr
  replace hC := Lib.hid hC
  replace hi := Lib.hid hi
  go_enter Tryz.func126, Tryz.ntmps126
  go_wp2
  go_loopw [8] (fun s wr => RelI w (fun x : Wr => x.id == id) l s wr) (fun s _ => l.length - (intOf s).toNat)
  case atStart => exact ⟨0, Nat.zero_le _, rfl, (fun t _ h => absurd h (Nat.not_lt_zero t)), Below.refl _ _⟩
  case round =>
    obtain ⟨j, hj, rfl, hp, hB⟩ := hrel
    replace hp := Lib.hid hp
    replace hB := Lib.hid hB
    by_cases hlt : j < l.length
    · obtain ⟨ad, b, rfl, q0, hw⟩ := wr_at (Kd.C_below hC.out hB.out) hlt
      obtain ⟨_, _, _, _, _, h1, _⟩ := hw
      have hcall := findc_any b B l[j].id id wr h1 (pw_cell_below hB.out hi.out)
      clear h1
      have hat := @fidx_at _ (fun x : Wr => x.id == id) l j hlt hp.out
      have hnx : (l[j].id == id) = false → ∀ t, (ht : t < l.length) → t < j + 1 → (l[t].id == id) = false := fun h t ht h1 => by
        by_cases e : t = j
        · subst e; exact h
        · exact hp.out t ht (by omega)
      generalize hb0 : (l[j].id == id) = b0 at *
      replace hcall := Lib.hid hcall
      replace hat := Lib.hid hat
      replace hnx := Lib.hid hnx
      replace hb0 := Lib.hid hb0
      cases b0
      · go_wp2_with fail
        refine hcall.out.mono ?_
        rintro e W ⟨rfl, hb⟩
        replace hb := Lib.hid hb
        go_wp2
        go_roundw
        case rel => exact ⟨j + 1, by omega, by go_num, hnx.out (by first | trivial | rfl), hB.out.trans (hb.out.mono hB.out.size)⟩
        case measure => simp [intOf]; omega
      · go_wp2_with fail
        refine hcall.out.mono ?_
        rintro e W ⟨rfl, hb⟩
        replace hb := Lib.hid hb
        go_wp2
        go_ret
        exact ⟨by rw [hr.out, hat.out (by first | trivial | exact hb0.out)]; rfl, hB.out.trans (hb.out.mono hB.out.size)⟩
    · have hno := Lib.hid (fidx_none (p := fun x : Wr => x.id == id) (l := l) (fun t ht => hp.out t ht (by omega)))
      go_wp2
      go_ret
      exact ⟨by rw [hr.out, hno.out]; rfl, hB.out⟩
/-- the court in memory: its writes -/
def CourtAt (W : World) (C : Nat) (ws : List Wr) : Prop := ∃ A c, W.cell? ⟨C, 0, none⟩ = some (.slice A ws.length c) ∧ Kd.C kWr W A ws.length ws
theorem CourtAt.below {W W1 : World} {C : Nat} {ws : List Wr} (h : CourtAt W C ws) (hb : Below W.heap.size W W1) : CourtAt W1 C ws := by
  obtain ⟨A, c, h1, h2⟩ := h
  exact ⟨A, c, pw_cell_below hb h1, Kd.C_below h2 hb⟩
def findW (ws : List Wr) (id : Int) : Option Wr := ws.find? fun x => x.id == id
/-- a pointer to a write, or nil -/
def PtrW (W : World) : Value → Option Wr → Prop
  | .pointer none, none => True
  | .pointer (some a), some x => ∃ b, a = ⟨b, 0, none⟩ ∧ WrAt W b x
  | _, _ => False
theorem fidx_find {α : Type} (p : α → Bool) (l : List α) : (l.find? p = none ∧ fidx p l = -1) ∨ ∃ j, ∃ h : j < l.length, l.find? p = some l[j] ∧ fidx p l = (j : Int) := by
  unfold fidx
  by_cases h : l.any p
  · right
    have hlt : l.findIdx p < l.length := List.findIdx_lt_length.2 (by simpa using h)
    refine ⟨l.findIdx p, hlt, ?_, if_pos h⟩
    rw [List.find?_eq_some_iff_getElem]
    exact ⟨List.findIdx_getElem (w := hlt), _, hlt, rfl, fun j hj => by simpa using List.not_of_lt_findIdx hj⟩
  · left
    refine ⟨?_, if_neg h⟩
    rw [List.find?_eq_none]
    intro x hx hp
    exact h (List.any_eq_true.2 ⟨x, hx, hp⟩)
set_option maxHeartbeats 2000000 in
theorem find_any (C : Nat) (ws : List Wr) (id : Int) (w : World) (hC : CourtAt w C ws) :
    Calls Tryz.prog 122 #[.pointer (some ⟨C, 0, none⟩), .int .u64 id] w fun e w' => ∃ v, e = .returned v ∧ PtrW w' v (findW ws id) ∧ Below w.heap.size w w' := by
  have hB0 := Lib.hid (below_alloc (Below.refl _ _) (.cells #[.int .u64 id] 31) : Below w.heap.size w _)
  obtain ⟨A, c, hc, hK⟩ := hC
  have hm : ws.length ≤ 9223372036854775807 := hK.2.1
  have hKW := Kd.C_below hK hB0.out
  have hbk := heap_alloc_new w (.cells #[.int .u64 id] 31)
  have hidx := indexWr_any A c ws w.heap.size id _ hKW (by rw [blk_cell hbk 0]; rfl)
  have hCb : w.cell? ⟨C, 0, none⟩ = some (.slice A ws.length c) := hc
  have hcl := World.block_lt_of_cell? w _ hc
  replace hidx := Lib.hid hidx
  replace hKW := Lib.hid hKW
  clear hK hbk
  rcases fidx_find (fun x : Wr => x.id == id) ws with ⟨e1, e2⟩ | ⟨j, hj, e1, e2⟩
  · rw [e2] at hidx
    have hr : Hid (findW ws id = none) := e1
    clear e1 e2
    go_enter Tryz.func122, Tryz.ntmps122
    go_wp2_with fail
    refine hidx.out.mono ?_
    rintro e W ⟨rfl, hb⟩
    replace hb := Lib.hid hb
    go_wp2
    go_ret
    exact ⟨_, rfl, by rw [hr.out]; trivial, hB0.out.trans (hb.out.mono hB0.out.size)⟩
  · rw [e2] at hidx
    have hr : Hid (findW ws id = some ws[j]) := e1
    clear e1 e2
    go_enter Tryz.func122, Tryz.ntmps122
    go_wp2_with fail
    refine hidx.out.mono ?_
    rintro e W ⟨rfl, hb⟩
    obtain ⟨ad, b, rfl, q0, hw⟩ := wr_at (Kd.C_below hKW.out hb) hj
    have hc2 := pw_cell_below (hB0.out.trans (hb.mono hB0.out.size)) hCb
    replace hb := Lib.hid hb
    replace hw := Lib.hid hw
    go_wp2
    go_ret
    exact ⟨_, rfl, by rw [hr.out]; exact ⟨b, rfl, hw.out⟩, hB0.out.trans (hb.out.mono hB0.out.size)⟩
set_option maxHeartbeats 1000000 in
theorem wroteW_any (b : Nat) (x : Wr) (k : ByteArray) (w : World) (h : WrAt w b x) :
    Calls Tryz.prog 131 #[.pointer (some ⟨b, 0, none⟩), .string k] w fun e w' => e = .returned (.bool (x.keys.any fun y => eqS k y)) ∧ w = w' := by
  obtain ⟨A2, c2, A3, c3, h0, h1, h2, h3, h4, h5, h6, h7⟩ := h
  have hc := Lib.hid (containsStr_any A3 c3 x.keys k w h7)
  clear h0 h1 h2 h4 h5 h6 h7
  go_enter Tryz.func131, Tryz.ntmps131
  go_wp2_with fail
  refine hc.out.mono ?_
  rintro e W ⟨rfl, rfl⟩
  go_wp2
  go_ret
  exact ⟨rfl, rfl⟩
end Go.Proofs.YtiibjgnmdieicaaGreat.Hist
/- judge: the four rules, walked. -/
namespace Go.Proofs.YtiibjgnmdieicaaGreat.Hist
open Go.RowKit Go.Proofs.YtiibjgnmdieicaaGreatW.PrintWords Go.Sort
def forgedB (ws : List Wr) (v : Ver) (place : Int) : Bool :=
  if v.f1 = 0 then false else match findW ws v.f1 with
  | none => true
  | some x => if place ≤ x.place then true else !(x.pairs.any fun y => eqP ⟨v.f0, v.f2⟩ y) || !eqL x.keys v.f3
def abortedB (ws : List Wr) (v : Ver) : Bool :=
  if v.f1 = 0 then false else match findW ws v.f1 with
  | none => false
  | some x => x.res == 3
def tornS (ws : List Wr) (key : ByteArray) (place : Int) (o : Int) (u : Ver) : Int :=
  if decide (o < u.f1) && (match findW ws u.f1 with | none => false | some x => decide (x.place < place) && (x.keys.any fun y => eqS key y)) then u.f1 else o
def tornO (ws : List Wr) (v : Ver) (all : List Ver) (place : Int) : Int := all.foldl (tornS ws v.f0 place) v.f1
def lostS (key : ByteArray) (asked : Int) (o : Int) (x : Wr) : Int :=
  if decide (o < x.id) && x.res == 1 && decide (x.done < asked) && (x.keys.any fun y => eqS key y) then x.id else o
def lostO (ws : List Wr) (v : Ver) (asked : Int) : Int := ws.foldl (lostS v.f0 asked) v.f1
/-- what a rule tells -/
def Tells (w : World) (o : Int) (b : Bool) (e : Ending) (w' : World) : Prop := e = .returned (.tuple #[.int .u64 o, .bool b]) ∧ Below w.heap.size w w'
theorem PtrW.none_ {W : World} {p : Value} (h : PtrW W p none) : p = .pointer none := by
  cases p with
  | pointer a => cases a with
    | none => rfl
    | some a => exact h.elim
  | _ => exact h.elim
theorem PtrW.some_ {W : World} {p : Value} {x : Wr} (h : PtrW W p (some x)) : ∃ b, p = .pointer (some ⟨b, 0, none⟩) ∧ WrAt W b x := by
  cases p with
  | pointer a => cases a with
    | none => exact h.elim
    | some a =>
      obtain ⟨b, rfl, h⟩ := h
      exact ⟨b, rfl, h⟩
  | _ => exact h.elim
set_option maxHeartbeats 8000000 in
set_option maxRecDepth 100000 in
theorem aborted_any (C : Nat) (ws : List Wr) (v : Ver) (A : Option Addr) (c : Nat) (B : Option Addr) (n d : Nat) (place asked : Int) (w : World) (hC : CourtAt w C ws) :
    Calls Tryz.prog 129 #[.agg #[], .pointer (some ⟨C, 0, none⟩), .agg #[.string v.f0, .int .u64 v.f1, .string v.f2, .slice A v.f3.length c, .slice B n d, .int .i64 place, .int .i64 asked]] w (Tells w 0 (abortedB ws v)) := by
  obtain ⟨r, hr⟩ : ∃ r, r = abortedB ws v := ⟨_, rfl⟩
  rw [← hr]
  unfold abortedB at hr
  have hB0 := Lib.hid (below2 w (.cells #[] 123) (.cells #[.string v.f0, .int .u64 v.f1, .string v.f2, .slice A v.f3.length c, .slice B n d, .int .i64 place, .int .i64 asked] 130))
  have hf := Lib.hid (find_any C ws v.f1 _ (hC.below hB0.out))
  have hbk := Lib.hid (heap_alloc_new (w.alloc (.cells #[] 123)) (.cells #[.string v.f0, .int .u64 v.f1, .string v.f2, .slice A v.f3.length c, .slice B n d, .int .i64 place, .int .i64 asked] 130))
  clear hC
  by_cases h0 : v.f1 = 0
  · rw [if_pos h0] at hr
    have b0 : (v.f1 == 0) = true := beq_iff_eq.2 h0
    replace h0 := Lib.hid h0
    replace hr := Lib.hid hr
    clear hf
    go_enter Tryz.func129, Tryz.ntmps129
    go_wp2
    go_ret2
    exact ⟨by rw [hr.out]; rfl, hB0.out⟩
  · rw [if_neg h0] at hr
    have b0 : (v.f1 == 0) = false := beq_eq_false_iff_ne.2 h0
    replace h0 := Lib.hid h0
    generalize hfw : findW ws v.f1 = fw at *
    replace hfw := Lib.hid hfw
    replace hr := Lib.hid hr
    go_enter Tryz.func129, Tryz.ntmps129
    go_wp2_with fail
    refine hf.out.mono ?_
    rintro e W ⟨p, rfl, hp, hb⟩
    have hfin := Lib.hid (hB0.out.trans (hb.mono hB0.out.size))
    replace hbk := blk_below hbk.out hb
    have e0 := blk_cell hbk 0
    have e1 := blk_cell hbk 1
    have e2 := blk_cell hbk 2
    have e3 := blk_cell hbk 3
    have e4 := blk_cell hbk 4
    have e5 := blk_cell hbk 5
    have e6 := blk_cell hbk 6
    simp only [List.getElem?_toArray, List.getElem?_cons_zero, List.getElem?_cons_succ, World.size_alloc] at e0 e1 e2 e3 e4 e5 e6
    clear hb
    replace hbk := Lib.hid hbk
    rcases fw with _ | x
    · obtain rfl := hp.none_
      clear hp
      go_wp2
      go_quiet (fail)
      go_wp2
      go_ret2
      exact ⟨by rw [hr.out]; rfl, below_then hfin.out hfin.out.size (pw_below_drewN (Below.refl _ _) _)⟩
    · obtain ⟨b, rfl, hx⟩ := hp.some_
      clear hp
      obtain ⟨A2, c2, A3, c3, h0, h1, h2, h3, h4, h5, h6, h7⟩ := hx
      replace h6 := Lib.hid h6
      replace h7 := Lib.hid h7
      have hr := hr.out
      go_wp2
      go_quiet (fail)
      go_wp2
      go_ret2
      exact ⟨by rw [hr]; rfl, below_then hfin.out hfin.out.size (pw_below_drewN (Below.refl _ _) _)⟩
set_option maxHeartbeats 8000000 in
set_option maxRecDepth 100000 in
theorem forged_any (C : Nat) (ws : List Wr) (v : Ver) (A : Option Addr) (c : Nat) (B : Option Addr) (n d : Nat) (place asked : Int) (w : World) (hC : CourtAt w C ws) (hA : Kd.C Kd.string w A v.f3.length v.f3) :
    Calls Tryz.prog 123 #[.agg #[], .pointer (some ⟨C, 0, none⟩), .agg #[.string v.f0, .int .u64 v.f1, .string v.f2, .slice A v.f3.length c, .slice B n d, .int .i64 place, .int .i64 asked]] w (Tells w 0 (forgedB ws v place)) := by
  obtain ⟨r, hr⟩ : ∃ r, r = forgedB ws v place := ⟨_, rfl⟩
  rw [← hr]
  unfold forgedB at hr
  have hB0 := Lib.hid (below2 w (.cells #[] 122) (.cells #[.string v.f0, .int .u64 v.f1, .string v.f2, .slice A v.f3.length c, .slice B n d, .int .i64 place, .int .i64 asked] 130))
  have hf := Lib.hid (find_any C ws v.f1 _ (hC.below hB0.out))
  have hbk := Lib.hid (heap_alloc_new (w.alloc (.cells #[] 122)) (.cells #[.string v.f0, .int .u64 v.f1, .string v.f2, .slice A v.f3.length c, .slice B n d, .int .i64 place, .int .i64 asked] 130))
  clear hC
  by_cases h0 : v.f1 = 0
  · rw [if_pos h0] at hr
    have b0 : (v.f1 == 0) = true := beq_iff_eq.2 h0
    replace h0 := Lib.hid h0
    replace hr := Lib.hid hr
    clear hf
    go_enter Tryz.func123, Tryz.ntmps123
    go_wp2
    go_ret2
    exact ⟨by rw [hr.out]; rfl, hB0.out⟩
  · rw [if_neg h0] at hr
    have b0 : (v.f1 == 0) = false := beq_eq_false_iff_ne.2 h0
    replace h0 := Lib.hid h0
    generalize hfw : findW ws v.f1 = fw at *
    replace hfw := Lib.hid hfw
    replace hr := Lib.hid hr
    go_enter Tryz.func123, Tryz.ntmps123
    go_wp2_with fail
    refine hf.out.mono ?_
    rintro e W ⟨p, rfl, hp, hb⟩
    have hfin := Lib.hid (hB0.out.trans (hb.mono hB0.out.size))
    replace hbk := blk_below hbk.out hb
    have e0 := blk_cell hbk 0
    have e1 := blk_cell hbk 1
    have e2 := blk_cell hbk 2
    have e3 := blk_cell hbk 3
    have e4 := blk_cell hbk 4
    have e5 := blk_cell hbk 5
    have e6 := blk_cell hbk 6
    simp only [List.getElem?_toArray, List.getElem?_cons_zero, List.getElem?_cons_succ, World.size_alloc] at e0 e1 e2 e3 e4 e5 e6
    clear hb
    replace hbk := Lib.hid hbk
    rcases fw with _ | x
    · obtain rfl := hp.none_
      clear hp
      go_wp2
      go_quiet (fail)
      go_wp2
      go_ret2
      exact ⟨by rw [hr.out]; rfl, below_then hfin.out hfin.out.size (pw_below_drewN (Below.refl _ _) _)⟩
    · obtain ⟨b, rfl, hx⟩ := hp.some_
      clear hp
      obtain ⟨A2, c2, A3, c3, h0, h1, h2, h3, h4, h5, h6, h7⟩ := hx
      have hr : r = if place ≤ x.place then true else !(x.pairs.any fun y => eqP ⟨v.f0, v.f2⟩ y) || !eqL x.keys v.f3 := hr.out
      by_cases hpl : place ≤ x.place
      · rw [if_pos hpl] at hr
        replace h6 := Lib.hid h6
        replace h7 := Lib.hid h7
        replace hr := Lib.hid hr
        go_wp2
        go_quiet (fail)
        go_wp2
        go_ret2
        exact ⟨by rw [hr.out]; rfl, below_then hfin.out hfin.out.size (pw_below_drewN (Below.refl _ _) _)⟩
      · rw [if_neg hpl] at hr
        have hAW := Kd.C_below hA hfin.out
        replace hr := Lib.hid hr
        have hcp := Lib.hid (fun W1 hW => containsPair_any A2 c2 x.pairs ⟨v.f0, v.f2⟩ W1 (Kd.C_below h6 hW))
        have hce := Lib.hid (fun W1 hW => equalStr_any A3 c3 x.keys A c v.f3 W1 (Kd.C_below h7 hW) (Kd.C_below hAW hW))
        replace h6 := Lib.hid h6
        replace h7 := Lib.hid h7
        replace hAW := Lib.hid hAW
        go_wp2
        go_quiet (fail)
        go_wp2
        have f1 : (W.drewN nq).cell? ⟨w.heap.size + 1, 1, none⟩ = _ := e1
        have f0 : (W.drewN nq).cell? ⟨w.heap.size + 1, 0, none⟩ = _ := e0
        have f2 : (W.drewN nq).cell? ⟨w.heap.size + 1, 2, none⟩ = _ := e2
        have f3 : (W.drewN nq).cell? ⟨w.heap.size + 1, 3, none⟩ = _ := e3
        have g2 : (W.drewN nq).cell? ⟨b, 2, none⟩ = _ := h2
        have g3 : (W.drewN nq).cell? ⟨b, 3, none⟩ = _ := h3
        have bq : Below W.heap.size W (W.drewN nq) := pw_below_drewN (Below.refl _ _) nq
        have hfin2 : Below w.heap.size w (W.drewN nq) := below_then hfin.out hfin.out.size bq
        clear e0 e1 e2 e3 e4 e5 e6 h0 h1 h2 h3 h4 h5 hf hbk
        generalize W.drewN nq = W2 at *
        replace f0 := cell_regrown f0
        replace f1 := cell_regrown f1
        replace f2 := cell_regrown f2
        replace f3 := cell_regrown f3
        replace g2 := cell_regrown g2
        replace g3 := cell_regrown g3
        have hall : ∀ d os, Below W.heap.size W (grow (redrawn W2 d) os) := fun d os => below_then bq bq.size (below_regrown W2 d os)
        have cP : ∀ d os, Calls Tryz.prog 124 #[.slice A2 x.pairs.length c2, .agg #[.string v.f0, .string v.f2]] (grow (redrawn W2 d) os) fun e w'' => e = .returned (.bool (x.pairs.any fun y => eqP ⟨v.f0, v.f2⟩ y)) ∧ ∃ p : Regrown, w'' = grow (redrawn W2 p.d) p.os := fun d os => Calls.regrown_of (hcp.out _ (hall d os))
        have cE : ∀ d os, Calls Tryz.prog 125 #[.slice A3 x.keys.length c3, .slice A v.f3.length c] (grow (redrawn W2 d) os) fun e w'' => e = .returned (.bool (eqL x.keys v.f3)) ∧ ∃ p : Regrown, w'' = grow (redrawn W2 p.d) p.os := fun d os => Calls.regrown_of (hce.out _ (hall d os))
        replace hr := hr.out
        clear hcp hce
        replace hfin := Lib.hid hfin2
        replace bq := Lib.hid bq
        replace hall := Lib.hid hall
        clear hfin2
        generalize (x.pairs.any fun y => eqP ⟨v.f0, v.f2⟩ y) = b1 at *
        generalize eqL x.keys v.f3 = b2 at *
        cases b1
        all_goals
          replace hr := Lib.hid hr
          refine wp_region_quiet_below (by first | assumption | kernel_rfl) (by kernel_rfl) ?_
          repeat (go_big_quiet_step (first | exact cP _ _ | exact cE _ _))
          refine wpQuiet_nil ?_
          intro _ hw'
          obtain ⟨⟨dq, osq⟩, hw''⟩ := hw'
          subst hw''
          go_wp2
          go_ret2
          exact ⟨by rw [hr.out]; rfl, below_then hfin.out hfin.out.size (below_regrown W2 dq osq)⟩
theorem fold_take {α β : Type} (f : β → α → β) (a : β) {l : List α} {j : Nat} (h : j < l.length) : (l.take (j + 1)).foldl f a = f ((l.take j).foldl f a) l[j] := by
  rw [← List.take_append_getElem h, List.foldl_append]
  rfl
set_option maxHeartbeats 8000000 in
set_option maxRecDepth 100000 in
theorem torn_any (C : Nat) (ws : List Wr) (v : Ver) (A : Option Addr) (c : Nat) (B : Option Addr) (all : List Ver) (d : Nat) (place asked : Int) (w : World) (hC : CourtAt w C ws) (hB : Kd.C kVer w B all.length all) :
    Calls Tryz.prog 130 #[.agg #[], .pointer (some ⟨C, 0, none⟩), .agg #[.string v.f0, .int .u64 v.f1, .string v.f2, .slice A v.f3.length c, .slice B all.length d, .int .i64 place, .int .i64 asked]] w (Tells w (tornO ws v all place) (decide (v.f1 < tornO ws v all place))) := by
  have hm : all.length ≤ 9223372036854775807 := hB.2.1
  have hB0 := Lib.hid (below2 w (.cells #[] 124) (.cells #[.string v.f0, .int .u64 v.f1, .string v.f2, .slice A v.f3.length c, .slice B all.length d, .int .i64 place, .int .i64 asked] 130))
  have hbk0 := Lib.hid (heap_alloc_new (w.alloc (.cells #[] 124)) (.cells #[.string v.f0, .int .u64 v.f1, .string v.f2, .slice A v.f3.length c, .slice B all.length d, .int .i64 place, .int .i64 asked] 130))
  obtain ⟨r, hr⟩ : ∃ r, r = tornO ws v all place := ⟨_, rfl⟩
  rw [← hr]
  replace hr := Lib.hid hr
  replace hC := Lib.hid hC
  replace hB := Lib.hid hB
  go_enter Tryz.func130, Tryz.ntmps130
  go_wp2
  go_loopw [8, 18] (fun s8 s18 wr => ∃ j, j ≤ all.length ∧ s18 = .int .i64 j ∧ s8 = .int .u64 ((all.take j).foldl (tornS ws v.f0 place) v.f1) ∧ Below w.heap.size w wr ∧ wr.heap[w.heap.size + 1]? = some (.cells #[.string v.f0, .int .u64 v.f1, .string v.f2, .slice A v.f3.length c, .slice B all.length d, .int .i64 place, .int .i64 asked] 130 (0, 0))) (fun _ s18 _ => all.length - (intOf s18).toNat)
  case atStart => exact ⟨0, Nat.zero_le _, rfl, rfl, hB0.out, by simpa using hbk0.out⟩
  case round =>
    obtain ⟨j, hj, rfl, rfl, hb, hbk⟩ := hrel
    replace hb := Lib.hid hb
    have e0 := blk_cell hbk 0
    have e1 := blk_cell hbk 1
    have e5 := blk_cell hbk 5
    simp only [List.getElem?_toArray, List.getElem?_cons_zero, List.getElem?_cons_succ] at e0 e1 e5
    replace hbk := Lib.hid hbk
    generalize ho : (all.take j).foldl (tornS ws v.f0 place) v.f1 = o at *
    replace ho := Lib.hid ho
    by_cases hlt : j < all.length
    · obtain ⟨ad, A3, c3, rfl, q0, q1, q2, q3, _, _⟩ := ver_at (Kd.C_below hB.out hb.out) hlt
      have hbx := Lib.hid (below_then hb.out hb.out.size (below_alloc (Below.refl _ _) (.cells #[.string all[j].f0, .int .u64 all[j].f1, .string all[j].f2, .slice A3 all[j].f3.length c3] 49)))
      have hf := Lib.hid (find_any C ws all[j].f1 _ (hC.out.below hbx.out))
      have hvk := heap_alloc_new wr (.cells #[.string all[j].f0, .int .u64 all[j].f1, .string all[j].f2, .slice A3 all[j].f3.length c3] 49)
      replace hvk := Lib.hid hvk
      have hstep : Hid ((all.take (j + 1)).foldl (tornS ws v.f0 place) v.f1 = tornS ws v.f0 place o all[j]) := by
        rw [fold_take _ _ hlt, ho.out]
        rfl
      have hts : tornS ws v.f0 place o all[j] = if decide (o < all[j].f1) && (match findW ws all[j].f1 with | none => false | some x => decide (x.place < place) && (x.keys.any fun y => eqS v.f0 y)) then all[j].f1 else o := rfl
      generalize hfw : findW ws all[j].f1 = fw at *
      generalize tornS ws v.f0 place o all[j] = ts at *
      replace hfw := Lib.hid hfw
      replace hts := Lib.hid hts
      go_wp2_with fail
      refine hf.out.mono ?_
      rintro e W ⟨p, rfl, hp, hbW⟩
      have hBW := Lib.hid (hbx.out.trans (hbW.mono hbx.out.size))
      have hwW : Below wr.heap.size wr W := (below_alloc (Below.refl _ _) _).trans (hbW.mono (below_alloc (Below.refl _ _) _).size)
      replace hvk := blk_below hvk.out hbW
      have hnb : ∀ n, (W.drewN n).heap[w.heap.size + 1]? = _ := fun n => (show W.heap[w.heap.size + 1]? = _ from blk_below hbk.out hwW)
      replace hnb := Lib.hid hnb
      have hnB : Hid (∀ n, Below w.heap.size w (W.drewN n)) := fun n => below_then hBW.out hBW.out.size (pw_below_drewN (Below.refl _ _) n)
      replace e0 := pw_cell_below hwW e0
      replace e1 := pw_cell_below hwW e1
      replace e5 := pw_cell_below hwW e5
      have k1 := blk_cell hvk 1
      simp only [List.getElem?_toArray, List.getElem?_cons_zero, List.getElem?_cons_succ] at k1
      replace hvk := Lib.hid hvk
      clear q0 q1 q2 q3 hbW hf
      replace hwW := Lib.hid hwW
      by_cases g1 : o < all[j].f1
      · rcases fw with _ | x
        · obtain rfl := hp.none_
          clear hp
          have hst := Lib.hid (by rw [hts.out]; simp : ts = o)
          go_wp2
          go_quiet (fail)
          go_wp2
          go_roundw
          case rel => exact ⟨j + 1, by omega, by go_num, by rw [hstep.out, hst.out], hnB.out _, hnb.out _⟩
          case measure => simp [intOf]; omega
        · obtain ⟨b, rfl, hx⟩ := hp.some_
          clear hp
          have hwr : ∀ n, Calls Tryz.prog 131 #[.pointer (some ⟨b, 0, none⟩), .string v.f0] (W.drewN n) fun e w'' => e = .returned (.bool (x.keys.any fun y => eqS v.f0 y)) ∧ ∃ m, w'' = W.drewN m := fun n => (wroteW_any b x v.f0 (W.drewN n) (hx.below (pw_below_drewN (Below.refl _ _) n))).mono fun e w' h => ⟨h.1, n, h.2.symm⟩
          replace hwr := Lib.hid hwr
          obtain ⟨_, _, _, _, h0, _⟩ := hx
          by_cases g2 : x.place < place
          · generalize hkb : (x.keys.any fun y => eqS v.f0 y) = kb at *
            replace hkb := Lib.hid hkb
            cases kb
            · have hst := Lib.hid (by rw [hts.out]; show (if (decide (o < all[j].f1) && (decide (x.place < place) && x.keys.any fun y => eqS v.f0 y)) then all[j].f1 else o) = _; rw [hkb.out]; simp : ts = o)
              go_wp2
              go_quiet (exact hwr.out _)
              go_wp2
              go_roundw
              case rel => exact ⟨j + 1, by omega, by go_num, by rw [hstep.out, hst.out], hnB.out _, hnb.out _⟩
              case measure => simp [intOf]; omega
            · have hst := Lib.hid (by rw [hts.out]; show (if (decide (o < all[j].f1) && (decide (x.place < place) && x.keys.any fun y => eqS v.f0 y)) then all[j].f1 else o) = _; rw [hkb.out]; simp [g1, g2] : ts = all[j].f1)
              go_wp2
              go_quiet (exact hwr.out _)
              go_wp2
              go_roundw
              case rel => exact ⟨j + 1, by omega, by go_num, by rw [hstep.out, hst.out], hnB.out _, hnb.out _⟩
              case measure => simp [intOf]; omega
          · have hst := Lib.hid (by rw [hts.out]; simp [g2] : ts = o)
            have d2 : decide (x.place < place) = false := decide_eq_false g2
            go_wp2
            go_quiet (fail)
            go_wp2
            go_roundw
            case rel => exact ⟨j + 1, by omega, by go_num, by rw [hstep.out, hst.out], hnB.out _, hnb.out _⟩
            case measure => simp [intOf]; omega
      · have hst := Lib.hid (by rw [hts.out]; simp [g1] : ts = o)
        have d1 : decide (o < all[j].f1) = false := decide_eq_false g1
        go_wp2
        go_quiet (fail)
        go_wp2
        go_roundw
        case rel => exact ⟨j + 1, by omega, by go_num, by rw [hstep.out, hst.out], hnB.out _, hnb.out _⟩
        case measure => simp [intOf]; omega
    · have hfin : Hid (o = r) := by
        rw [hr.out, ← ho.out, List.take_of_length_le (by omega)]
        rfl
      go_wp2
      go_quiet (fail)
      go_wp2
      go_ret2
      exact ⟨by rw [← hfin.out]; rfl, below_then hb.out hb.out.size (pw_below_drewN (Below.refl _ _) _)⟩
set_option maxHeartbeats 8000000 in
set_option maxRecDepth 100000 in
theorem lost_any (C : Nat) (ws : List Wr) (v : Ver) (A : Option Addr) (c : Nat) (B : Option Addr) (n d : Nat) (place asked : Int) (w : World) (hC : CourtAt w C ws) :
    Calls Tryz.prog 134 #[.agg #[], .pointer (some ⟨C, 0, none⟩), .agg #[.string v.f0, .int .u64 v.f1, .string v.f2, .slice A v.f3.length c, .slice B n d, .int .i64 place, .int .i64 asked]] w (Tells w (lostO ws v asked) (decide (v.f1 < lostO ws v asked))) := by
  obtain ⟨CA, cc, hc0, hK⟩ := hC
  have hcl := World.block_lt_of_cell? w _ hc0
  have hm : ws.length ≤ 9223372036854775807 := hK.2.1
  have hB0 := Lib.hid (below2 w (.cells #[] 125) (.cells #[.string v.f0, .int .u64 v.f1, .string v.f2, .slice A v.f3.length c, .slice B n d, .int .i64 place, .int .i64 asked] 130))
  have hbk0 := Lib.hid (heap_alloc_new (w.alloc (.cells #[] 125)) (.cells #[.string v.f0, .int .u64 v.f1, .string v.f2, .slice A v.f3.length c, .slice B n d, .int .i64 place, .int .i64 asked] 130))
  obtain ⟨r, hr⟩ : ∃ r, r = lostO ws v asked := ⟨_, rfl⟩
  rw [← hr]
  replace hr := Lib.hid hr
  replace hK := Lib.hid hK
  go_enter Tryz.func134, Tryz.ntmps134
  go_wp2
  go_loopw [8, 19] (fun s8 s19 wr => ∃ j, j ≤ ws.length ∧ s19 = .int .i64 j ∧ s8 = .int .u64 ((ws.take j).foldl (lostS v.f0 asked) v.f1) ∧ Below w.heap.size w wr ∧ wr.heap[w.heap.size + 1]? = some (.cells #[.string v.f0, .int .u64 v.f1, .string v.f2, .slice A v.f3.length c, .slice B n d, .int .i64 place, .int .i64 asked] 130 (0, 0))) (fun _ s19 _ => ws.length - (intOf s19).toNat)
  case atStart => exact ⟨0, Nat.zero_le _, rfl, rfl, hB0.out, by simpa using hbk0.out⟩
  case round =>
    obtain ⟨j, hj, rfl, rfl, hb, hbk⟩ := hrel
    replace hb := Lib.hid hb
    have e0 := blk_cell hbk 0
    have e1 := blk_cell hbk 1
    have e6 := blk_cell hbk 6
    simp only [List.getElem?_toArray, List.getElem?_cons_zero, List.getElem?_cons_succ] at e0 e1 e6
    have hnb : Hid (∀ n, (wr.drewN n).heap[w.heap.size + 1]? = _) := fun n => (show wr.heap[w.heap.size + 1]? = _ from hbk)
    have hnB : Hid (∀ n, Below w.heap.size w (wr.drewN n)) := fun n => below_then hb.out hb.out.size (pw_below_drewN (Below.refl _ _) n)
    replace hbk := Lib.hid hbk
    generalize ho : (ws.take j).foldl (lostS v.f0 asked) v.f1 = o at *
    replace ho := Lib.hid ho
    by_cases hlt : j < ws.length
    · obtain ⟨ad, b, rfl, q0, hx⟩ := wr_at (Kd.C_below hK.out hb.out) hlt
      have hstep : Hid ((ws.take (j + 1)).foldl (lostS v.f0 asked) v.f1 = lostS v.f0 asked o ws[j]) := by
        rw [fold_take _ _ hlt, ho.out]
        rfl
      have hts : lostS v.f0 asked o ws[j] = if decide (o < ws[j].id) && ws[j].res == 1 && decide (ws[j].done < asked) && (ws[j].keys.any fun y => eqS v.f0 y) then ws[j].id else o := rfl
      generalize lostS v.f0 asked o ws[j] = ts at *
      generalize ws[j] = x at *
      have hwr : ∀ n, Calls Tryz.prog 131 #[.pointer (some ⟨b, 0, none⟩), .string v.f0] (wr.drewN n) fun e w'' => e = .returned (.bool (x.keys.any fun y => eqS v.f0 y)) ∧ ∃ m, w'' = wr.drewN m := fun n => (wroteW_any b x v.f0 (wr.drewN n) (hx.below (pw_below_drewN (Below.refl _ _) n))).mono fun e w' h => ⟨h.1, n, h.2.symm⟩
      obtain ⟨_, _, _, _, h0, h1, h2, h3, h4, h5, _, _⟩ := hx
      generalize (x.keys.any fun y => eqS v.f0 y) = kb at *
      replace hwr := Lib.hid hwr
      clear h0 h2 h3
      cases d1 : decide (o < x.id)
      · have hst := Lib.hid (by rw [hts, d1]; simp : ts = o)
        clear hts
        go_wp2
        go_quiet (fail)
        go_wp2
        go_roundw
        case rel => exact ⟨j + 1, by omega, by go_num, by rw [hstep.out, hst.out], hnB.out _, hnb.out _⟩
        case measure => simp [intOf]; omega
      · cases d2 : (x.res == 1)
        · have hst := Lib.hid (by rw [hts, d2]; simp : ts = o)
          clear hts
          go_wp2
          go_quiet (fail)
          go_wp2
          go_roundw
          case rel => exact ⟨j + 1, by omega, by go_num, by rw [hstep.out, hst.out], hnB.out _, hnb.out _⟩
          case measure => simp [intOf]; omega
        · cases d3 : decide (x.done < asked)
          · have hst := Lib.hid (by rw [hts, d3]; simp : ts = o)
            clear hts
            go_wp2
            go_quiet (fail)
            go_wp2
            go_roundw
            case rel => exact ⟨j + 1, by omega, by go_num, by rw [hstep.out, hst.out], hnB.out _, hnb.out _⟩
            case measure => simp [intOf]; omega
          · cases kb
            · have hst := Lib.hid (by rw [hts]; simp : ts = o)
              clear hts
              go_wp2
              go_quiet (exact hwr.out _)
              go_wp2
              go_roundw
              case rel => exact ⟨j + 1, by omega, by go_num, by rw [hstep.out, hst.out], hnB.out _, hnb.out _⟩
              case measure => simp [intOf]; omega
            · have hst := Lib.hid (by rw [hts, d1, d2, d3]; rfl : ts = x.id)
              clear hts
              go_wp2
              go_quiet (exact hwr.out _)
              go_wp2
              go_roundw
              case rel => exact ⟨j + 1, by omega, by go_num, by rw [hstep.out, hst.out], hnB.out _, hnb.out _⟩
              case measure => simp [intOf]; omega
    · have hfin : Hid (o = r) := by
        rw [hr.out, ← ho.out, List.take_of_length_le (by omega)]
        rfl
      go_wp2
      go_quiet (fail)
      go_wp2
      go_ret2
      exact ⟨by rw [← hfin.out]; rfl, below_then hb.out hb.out.size (pw_below_drewN (Below.refl _ _) _)⟩
end Go.Proofs.YtiibjgnmdieicaaGreat.Hist
/- judge: a row of texts of the call's own, sorted and compacted. -/
namespace Go.Proofs.YtiibjgnmdieicaaGreat.Hist
open Go.RowKit Go.Proofs.YtiibjgnmdieicaaGreatW.PrintWords Go.Sort
def strOf (l : List UInt8) : ByteArray := ⟨l.toArray⟩
def txt (x : ByteArray) : List UInt8 := x.data.toList
theorem strOf_txt (x : ByteArray) : strOf (txt x) = x := by cases x; simp [strOf, txt]
theorem txt_strOf (l : List UInt8) : txt (strOf l) = l := by simp [strOf, txt]
theorem map_enc (zs : List ByteArray) : (zs.map txt).map encStr = zs.map Value.string := by
  rw [List.map_map]
  exact List.map_congr_left fun x _ => by show Value.string (strOf (txt x)) = _; rw [strOf_txt]
theorem map_strOf (l : List (List UInt8)) : (l.map strOf).map Value.string = l.map encStr := by
  rw [List.map_map]; rfl
/-- a text is one cell -/
def RS (k : ByteArray) (cs : List Value) : Prop := cs = [.string k]
theorem reps_str {ks : List ByteArray} {inner : List Value} (h : Reps RS 1 ks inner) : inner = ks.map Value.string := by
  apply List.ext_getElem?
  intro j
  have hl : inner.length = ks.length := by have := h.1; omega
  by_cases hj : j < ks.length
  · have hr : (inner.drop (j * 1)).take 1 = [.string ks[j]] := h.2 j ks[j] (List.getElem?_eq_getElem hj)
    rw [Nat.mul_one] at hr
    have h1 := congrArg (fun l => l[0]?) hr
    simp only [List.getElem?_take, List.getElem?_drop] at h1
    simpa [hj] using h1
  · rw [List.getElem?_eq_none (by omega), List.getElem?_eq_none (by simp; omega)]
theorem reps_of {ks : List ByteArray} : Reps RS 1 ks (ks.map Value.string) :=
  ⟨by simp, fun j p hp => by
    obtain ⟨hj, rfl⟩ := List.getElem?_eq_some_iff.1 hp
    show ((ks.map Value.string).drop (j * 1)).take 1 = _
    rw [Nat.mul_one, List.drop_eq_getElem_cons (by simpa using hj)]
    simp⟩
def sortS (ks : List ByteArray) : List ByteArray := ((ks.map txt).mergeSort fun x y => decide (x ≤ y)).map strOf
def compS (ks : List ByteArray) : List ByteArray := (Lib.compact (ks.map txt)).map strOf
theorem sortS_len (ks : List ByteArray) : (sortS ks).length = ks.length := by simp [sortS]
theorem sortRow_any (W : World) (base : Nat) (v : Value) (ks : List ByteArray) (h : OwnRow RS 9 1 W base v ks) (hn : ks.length ≤ 1099511627776) :
    Calls Tryz.prog 83 #[v] W fun e w' => e = .returned (.tuple #[]) ∧ OwnRow RS 9 1 w' base v (sortS ks) ∧ W.grownBy w' v.ownBlock := by
  obtain ⟨inner, hrow, hreps⟩ := h
  obtain rfl := reps_str hreps
  rcases hrow.2 with ⟨rfl, hz⟩ | ⟨gb, cap, cur, rfl, hbase, hgb, r1, r2, r3, r4⟩
  · have hss : ks = [] := List.eq_nil_of_length_eq_zero hz
    subst hss
    refine (Tryz.slices_Sort_string_none none 0 W).mono ?_
    rintro e w' ⟨rfl, rfl⟩
    exact ⟨rfl, by rw [show sortS [] = [] from by simp [sortS]]; exact OwnRow.none_ _ _ _ _ _, ⟨rfl, rfl, rfl, Nat.le_refl _, fun _ _ _ => rfl⟩⟩
  · have hH : Holds encStr W gb 0 (ks.map txt).toArray := holds_of_block hgb (by rw [map_enc]; simpa using r4)
    have hgl : gb < W.heap.size := (Array.getElem?_eq_some_iff.1 hgb).1
    have cS := Tryz.slices_Sort_string gb 0 cap (ks.map txt) W hH hgl (by simp; omega)
    rw [List.length_map] at cS
    refine cS.mono ?_
    rintro e w' ⟨rfl, nn, os, rfl⟩
    have hfin := ownsRow_sorted (w := W) (base := base) (e := 9) (g := gb) (cap := cap) (cur := cur) (n := nn) (os := os) (ss := ks.map txt) (ts := (ks.map txt).mergeSort fun x y => decide (x ≤ y)) (by simp) hbase hgb (by simpa using r1) r2 (by simpa using r3)
    refine ⟨rfl, ⟨_, ?_, reps_of⟩, grownBy_sorted _⟩
    rw [sortS_len, sortS, map_strOf]
    simpa using hfin
theorem compactRow_any (W : World) (base : Nat) (v : Value) (ks : List ByteArray) (h : OwnRow RS 9 1 W base v ks) (hn : ks.length ≤ 1099511627776) :
    Calls Tryz.prog 84 #[v] W fun e w' => ∃ v', e = .returned v' ∧ OwnRow RS 9 1 w' base v' (compS ks) ∧ W.grownBy w' v.ownBlock ∧ v'.ownBlock = v.ownBlock := by
  obtain ⟨inner, hrow, hreps⟩ := h
  obtain rfl := reps_str hreps
  rcases hrow.2 with ⟨rfl, hz⟩ | ⟨gb, cap, cur, rfl, hbase, hgb, r1, r2, r3, r4⟩
  · have hss : ks = [] := List.eq_nil_of_length_eq_zero hz
    subst hss
    refine (Tryz.slices_Compact_string_empty none 0 W).mono ?_
    rintro e w' ⟨rfl, rfl⟩
    exact ⟨_, rfl, OwnRow.none_ _ _ _ _ _, ⟨rfl, rfl, rfl, Nat.le_refl _, fun _ _ _ => rfl⟩, rfl⟩
  · have hH : Holds encStr W gb 0 (ks.map txt).toArray := holds_of_block hgb (by rw [map_enc]; simpa using r4)
    have hgl : gb < W.heap.size := (Array.getElem?_eq_some_iff.1 hgb).1
    have cS := Tryz.slices_Compact_string gb 0 cap (ks.map txt) W hH (by simp; omega) (by simpa using r1)
    rw [List.length_map] at cS
    refine cS.mono ?_
    rintro e w' ⟨rfl, q, rfl⟩
    have hle : (Lib.compact (ks.map txt)).length ≤ ks.length := by simpa using Lib.compact_length_le (ks.map txt)
    have e1 := grow_empty (putRow encStr (Sort.ahead W q) gb 0 (Lib.compact (ks.map txt) ++ List.replicate (ks.length - (Lib.compact (ks.map txt)).length) []).toArray)
    rw [← e1]
    refine ⟨_, rfl, ⟨_, ⟨?_, .inr ⟨gb, cap, _, by simp [compS], hbase, heap_sorted _ hgb, by simp [compS]; omega, r2, by simp [putCells, r3], ?_⟩⟩, reps_of⟩, grownBy_sorted _, rfl⟩
    · simp
    · have hlen : (Lib.compact (ks.map txt) ++ List.replicate (ks.length - (Lib.compact (ks.map txt)).length) ([] : List UInt8)).length = ks.length := by simp; omega
      have h1 := take_putCells cur (Lib.compact (ks.map txt) ++ List.replicate (ks.length - (Lib.compact (ks.map txt)).length) []) (by rw [hlen]; simpa using (by omega : ks.length ≤ cur.size))
      have h2 := congrArg (List.take (Lib.compact (ks.map txt)).length) h1
      rw [List.take_take, hlen, Nat.min_eq_left hle] at h2
      rw [compS, map_strOf, List.length_map, Nat.mul_one, h2]
      simp
end Go.Proofs.YtiibjgnmdieicaaGreat.Hist
/- judge: what is heard, in memory. -/
namespace Go.Proofs.YtiibjgnmdieicaaGreat.Hist
open Go.RowKit Go.Proofs.YtiibjgnmdieicaaGreatW.PrintWords Go.Sort
open Go.Maps (Keyed)
structure Hs where
  ws : List Wr
  at_ : Int × Int → Option Int
  by_ : Int × Int → Option Nat
def qOf (e : Evt) : Int × Int := (e.f1, e.f2)
def normK (e : Evt) : List ByteArray := compS (sortS (e.f4.map fun p => p.f0))
def newW (i : Int) (e : Evt) : Wr := ⟨i, e.f3, e.f4, normK e, 0, 0⟩
def hearS (s : Hs) (i : Int) (e : Evt) : Hs :=
  if e.f0 = 1 then
    if e.f3 = 0 then ⟨s.ws, putF s.at_ (qOf e) i, s.by_⟩ else ⟨s.ws ++ [newW i e], putF s.at_ (qOf e) i, putF s.by_ (qOf e) s.ws.length⟩
  else if e.f0 = 2 then ⟨s.ws, putF s.at_ (qOf e) i, s.by_⟩
  else match s.by_ (qOf e) with
    | none => s
    | some n => ⟨s.ws.modify n fun w => ⟨w.place, w.id, w.pairs, w.keys, e.f6.f1, i⟩, s.at_, s.by_⟩
def hearAll : List Evt → Int → Hs → Hs
  | [], _, s => s
  | e :: r, i, s => hearAll r (i + 1) (hearS s i e)
def hs0 : Hs := ⟨[], fun _ => none, fun _ => none⟩
/-- a pointer to a write's block -/
def RB (b : Nat) (cs : List Value) : Prop := cs = [.pointer (some ⟨b, 0, none⟩)]
abbrev tW : TypeId := 149
abbrev tP : TypeId := 147
abbrev tS : TypeId := 9
abbrev tC : TypeId := 145
abbrev tQ : TypeId := 128
/-- a write in a block of its own -/
def WrB (w0 W : World) (b : Nat) (x : Wr) : Prop := ∃ A2 c2 v3, W.heap[b]? = some (.cells #[.int .i64 x.place, .int .u64 x.id, .slice A2 x.pairs.length c2, v3, .int .i64 x.res, .int .i64 x.done] tW (0, 0)) ∧ kPai.C w0 A2 x.pairs.length x.pairs ∧ OwnRow RS tS 1 W w0.heap.size v3 x.keys
/-- what is written is a row of pointers, or a map -/
def Off (W : World) (row : Option Nat) : Prop := ∀ k c t, row = some k → W.heap[k]? = some (.cells c t (0, 0)) → t = tP
theorem Off.map {κ : Type} {P : Program} {k : TypeId} {kv : κ → Value} {W : World} {b n : Nat} {f : κ → Option Value} (h : MapIs P k kv W b n f) : Off W (some b) := fun k c t e hc => by
  injection e with e
  subst e
  exact (h.no_cells hc).elim
theorem own_typed2 {α : Type} {R : α → List Value → Prop} {e : TypeId} {size : Nat} {W : World} {base : Nat} {v : Value} {l : List α} (h : OwnRow R e size W base v l) {k : Nat} (hk : v.ownBlock = some k) : ∃ cells, W.heap[k]? = some (.cells cells e (0, 0)) := by
  obtain ⟨inner, ho, _⟩ := h
  exact own_typed ho k hk
theorem Off.row {α : Type} {R : α → List Value → Prop} {size : Nat} {W : World} {base : Nat} {v : Value} {l : List α} (h : OwnRow R tP size W base v l) : Off W v.ownBlock := fun k c t e hc => by
  obtain ⟨cells, hk⟩ := own_typed2 h e
  rw [hk] at hc
  injection hc with hc
  injection hc with _ hc _
  exact hc.symm
theorem Off.ne {W : World} {row : Option Nat} (h : Off W row) {b : Nat} {c : Array Value} {t : TypeId} (hb : W.heap[b]? = some (.cells c t (0, 0))) (ht : t ≠ tP) : some b ≠ row := fun e => ht (h b c t e.symm hb)
theorem Off.own {W : World} {row : Option Nat} (h : Off W row) {α : Type} {R : α → List Value → Prop} {e : TypeId} {size : Nat} {base : Nat} {v : Value} {l : List α} (hr : OwnRow R e size W base v l) (ht : e ≠ tP) : v.ownBlock = none ∨ v.ownBlock ≠ row := by
  cases hv : v.ownBlock with
  | none => exact .inl rfl
  | some k =>
    obtain ⟨cells, hk⟩ := own_typed2 hr hv
    exact .inr (h.ne hk ht)
theorem WrB.off {w0 W W1 : World} {b : Nat} {x : Wr} {row : Option Nat} (h : WrB w0 W b x) (hg : W.grownBy W1 row) (ho : Off W row) : WrB w0 W1 b x := by
  obtain ⟨A2, c2, v3, hb, hp, hk⟩ := h
  exact ⟨A2, c2, v3, blk_grown hb hg (ho.ne hb (by decide)), hp, hk.other hg (ho.own hk (by decide))⟩
theorem WrB.below {w0 W W1 : World} {b : Nat} {x : Wr} (h : WrB w0 W b x) (hb : Below W.heap.size W W1) : WrB w0 W1 b x := by
  obtain ⟨A2, c2, v3, h1, hp, hk⟩ := h
  exact ⟨A2, c2, v3, blk_below h1 hb, hp, hk.below hb⟩
/-- a cell of another block is written -/
theorem WrB.set_ {w0 W : World} {b : Nat} {x : Wr} (h : WrB w0 W b x) {g : Nat} {t : TypeId} {c : Array Value} (hg : W.heap[g]? = some (.cells c t (0, 0))) (ht : tS ≠ t) (hne : b ≠ g) (j : Nat) (u : Value) : WrB w0 (W.setCell ⟨g, j, none⟩ u) b x := by
  obtain ⟨A2, c2, v3, h1, hp, hk⟩ := h
  exact ⟨A2, c2, v3, blk_far h1 hne u, hp, hk.set_ hg ht _ _⟩
structure HS (w0 W : World) (Bc Ba Bb : Nat) (rv : Value) (bs : List Nat) (na nb : Nat) (s : Hs) : Prop where
  bc : W.heap[Bc]? = some (.cells #[rv] tC (0, 0))
  row : OwnRow RB tP 1 W w0.heap.size rv bs
  ma : MapIs Tryz.prog tQ kvReq W Ba na (fun q => (s.at_ q).map (Value.int .i64))
  mb : MapIs Tryz.prog tQ kvReq W Bb nb (fun q => (s.by_ q).map fun n => .pointer (some ⟨bs.getD n 0, 0, none⟩))
  inb : ∀ q n, s.by_ q = some n → n < s.ws.length
  len : bs.length = s.ws.length
  wr : ∀ (i b : Nat) (x : Wr), bs[i]? = some b → s.ws[i]? = some x → WrB w0 W b x
  dis : ∀ (i j b : Nat), bs[i]? = some b → bs[j]? = some b → i = j
  hi : ∀ b, b ∈ bs → w0.heap.size ≤ b
  bas : w0.heap.size ≤ Bc ∧ w0.heap.size ≤ Ba ∧ w0.heap.size ≤ Bb
  ab : Ba ≠ Bb
  bel : Below w0.heap.size w0 W
theorem MapIs.congr {κ : Type} {P : Program} {k : TypeId} {kv : κ → Value} {W : World} {b n : Nat} {f g : κ → Option Value} (h : MapIs P k kv W b n f) (e : ∀ q, f q = g q) : MapIs P k kv W b n g := by
  have : f = g := funext e
  rw [← this]
  exact h
variable {w0 W W1 : World} {Bc Ba Bb : Nat} {rv : Value} {bs : List Nat} {na nb : Nat} {s : Hs}
theorem HS.below (h : HS w0 W Bc Ba Bb rv bs na nb s) (hb : Below W.heap.size W W1) : HS w0 W1 Bc Ba Bb rv bs na nb s :=
  ⟨blk_below h.bc hb, h.row.below hb, h.ma.below hb, h.mb.below hb, h.inb, h.len, fun i b x h1 h2 => (h.wr i b x h1 h2).below hb, h.dis, h.hi, h.bas, h.ab, below_then h.bel h.bel.size hb⟩
theorem map_putF {κ α β : Type} [DecidableEq κ] (f : κ → Option α) (x : κ) (v : α) (g : α → β) (q : κ) : putF (fun q => (f q).map g) x (g v) q = (putF f x v q).map g := by
  unfold putF
  split <;> rfl
/-- where a request stands is noted -/
theorem HS.putA (h : HS w0 W Bc Ba Bb rv bs na nb s) {q : Int × Int} {i : Int} {n : Nat} (hg : W.grownBy W1 (some Ba)) (hm : MapIs Tryz.prog tQ kvReq W1 Ba n (putF (fun q => (s.at_ q).map (Value.int .i64)) q (.int .i64 i))) : HS w0 W1 Bc Ba Bb rv bs n nb ⟨s.ws, putF s.at_ q i, s.by_⟩ := by
  have ho := Off.map h.ma
  have hne : ∀ {c : Array Value} {t : TypeId} {g : Nat}, W.heap[g]? = some (.cells c t (0, 0)) → some g ≠ some Ba := fun hc e => by
    injection e with e
    subst e
    exact h.ma.no_cells hc
  refine ⟨blk_grown h.bc hg (hne h.bc), h.row.other hg ?_, hm.congr fun q => map_putF _ _ _ _ _, h.mb.kept hg (fun e => h.ab (by injection e with e; exact e.symm)), h.inb, h.len, fun i b x h1 h2 => (h.wr i b x h1 h2).off hg ho, h.dis, h.hi, h.bas, h.ab, pw_below_grown h.bel _ h.bel.size hg (fun k e => by injection e with e; subst e; exact h.bas.2.1)⟩
  cases hv : rv.ownBlock with
  | none => exact .inl rfl
  | some k =>
    obtain ⟨cells, hk⟩ := own_typed2 h.row hv
    exact .inr (hne hk)
/-- a write is noted by its request -/
theorem HS.putB (h : HS w0 W Bc Ba Bb rv bs na nb s) {q : Int × Int} {m b n : Nat} (hm1 : m < s.ws.length) (hb : bs.getD m 0 = b) (hg : W.grownBy W1 (some Bb)) (hm : MapIs Tryz.prog tQ kvReq W1 Bb n (putF (fun q => (s.by_ q).map fun n => .pointer (some ⟨bs.getD n 0, 0, none⟩)) q (.pointer (some ⟨b, 0, none⟩)))) : HS w0 W1 Bc Ba Bb rv bs na n ⟨s.ws, s.at_, putF s.by_ q m⟩ := by
  have ho := Off.map h.mb
  have hne : ∀ {c : Array Value} {t : TypeId} {g : Nat}, W.heap[g]? = some (.cells c t (0, 0)) → some g ≠ some Bb := fun hc e => by
    injection e with e
    subst e
    exact h.mb.no_cells hc
  subst hb
  refine ⟨blk_grown h.bc hg (hne h.bc), h.row.other hg ?_, h.ma.kept hg (fun e => h.ab (by injection e with e)), hm.congr fun q => map_putF s.by_ _ _ (fun n => Value.pointer (some ⟨bs.getD n 0, 0, none⟩)) _, ?_, h.len, fun i b x h1 h2 => (h.wr i b x h1 h2).off hg ho, h.dis, h.hi, h.bas, h.ab, pw_below_grown h.bel _ h.bel.size hg (fun k e => by injection e with e; subst e; exact h.bas.2.2)⟩
  · cases hv : rv.ownBlock with
    | none => exact .inl rfl
    | some k =>
      obtain ⟨cells, hk⟩ := own_typed2 h.row hv
      exact .inr (hne hk)
  · intro q' n' hq
    show n' < s.ws.length
    simp only [putF] at hq
    split at hq
    · injection hq with hq
      subst hq
      exact hm1
    · exact h.inb _ _ hq
/-- a write more -/
theorem HS.push (h : HS w0 W Bc Ba Bb rv bs na nb s) {E : Nat} {x : Wr} {rv1 : Value} (hE : w0.heap.size ≤ E) (hn : E ∉ bs) (hx : WrB w0 W E x) (hg : W.grownBy W1 rv.ownBlock) (hr : OwnRow RB tP 1 W1 w0.heap.size rv1 (bs ++ [E])) : HS w0 (W1.setCell ⟨Bc, 0, none⟩ rv1) Bc Ba Bb rv1 (bs ++ [E]) na nb ⟨s.ws ++ [x], s.at_, s.by_⟩ := by
  have ho := Off.row h.row
  have hne : ∀ {κ : Type} {kv : κ → Value} {b n : Nat} {f : κ → Option Value}, MapIs Tryz.prog tQ kv W b n f → some b ≠ rv.ownBlock := fun hm e => by
    obtain ⟨cells, hk⟩ := own_typed2 h.row e.symm
    exact hm.no_cells hk
  have hB1 : W1.heap[Bc]? = some (.cells #[rv] tC (0, 0)) := blk_grown h.bc hg (ho.ne h.bc (by decide))
  have hw : ∀ i b y, bs[i]? = some b → s.ws[i]? = some y → WrB w0 (W1.setCell ⟨Bc, 0, none⟩ rv1) b y := fun i b y h1 h2 => by
    have h3 := (h.wr i b y h1 h2).off hg ho
    refine h3.set_ hB1 (by decide) ?_ _ _
    obtain ⟨_, _, _, hb, _, _⟩ := h3
    exact blk_ne hb hB1 (by decide)
  have hx1 : WrB w0 (W1.setCell ⟨Bc, 0, none⟩ rv1) E x := by
    have h3 := hx.off hg ho
    refine h3.set_ hB1 (by decide) ?_ _ _
    obtain ⟨_, _, _, hb, _, _⟩ := h3
    exact blk_ne hb hB1 (by decide)
  have hBel : Below w0.heap.size w0 W1 := pw_below_grown h.bel _ h.bel.size hg (fun k hk => by
    obtain ⟨inner, ho, _⟩ := h.row
    exact own_base ho k hk)
  refine ⟨by simpa using blk_set hB1 0 rv1, hr.set_ hB1 (by decide) _ _, ?_, ?_, ?_, by simp [h.len], ?_, ?_, ?_, h.bas, h.ab, below_set_ hBel h.bas.1 _⟩
  · exact (h.ma.kept hg (hne h.ma)).set_ (a := ⟨Bc, 0, none⟩) hB1 _
  · refine ((h.mb.kept hg (hne h.mb)).set_ (a := ⟨Bc, 0, none⟩) hB1 _).congr fun q => ?_
    cases hq : s.by_ q with
    | none => simp
    | some n =>
      have hl : n < bs.length := by rw [h.len]; exact h.inb _ _ hq
      simp [List.getD_eq_getElem?_getD, List.getElem?_append_left hl]
  · intro q n hq
    have := h.inb q n hq
    show n < (s.ws ++ [x]).length
    simp
    omega
  · intro i b y h1 h2
    by_cases hi : i < bs.length
    · rw [List.getElem?_append_left hi] at h1
      rw [List.getElem?_append_left (by rw [← h.len]; exact hi)] at h2
      exact hw i b y h1 h2
    · have e1 : i = bs.length := by
        have := (List.getElem?_eq_some_iff.1 h1).1
        simp at this
        omega
      subst e1
      rw [List.getElem?_append_right (Nat.le_refl _)] at h1
      rw [List.getElem?_append_right (by rw [h.len]; exact Nat.le_refl _)] at h2
      simp at h1
      rw [h.len] at h2
      simp at h2
      subst h1
      subst h2
      exact hx1
  · intro i j b h1 h2
    have hb1 : ∀ i, (bs ++ [E])[i]? = some b → (i < bs.length ∧ bs[i]? = some b) ∨ (i = bs.length ∧ b = E) := fun i hi => by
      by_cases hl : i < bs.length
      · rw [List.getElem?_append_left hl] at hi
        exact .inl ⟨hl, hi⟩
      · have e1 : i = bs.length := by
          have := (List.getElem?_eq_some_iff.1 hi).1
          simp at this
          omega
        subst e1
        simp at hi
        exact .inr ⟨rfl, hi.symm⟩
    rcases hb1 i h1 with ⟨_, a1⟩ | ⟨a1, a2⟩ <;> rcases hb1 j h2 with ⟨_, b1⟩ | ⟨b1, b2⟩
    · exact h.dis i j b a1 b1
    · exact (hn (b2 ▸ List.mem_of_getElem? a1)).elim
    · exact (hn (a2 ▸ List.mem_of_getElem? b1)).elim
    · rw [a1, b1]
  · intro b hb
    rcases List.mem_append.1 hb with hb | hb
    · exact h.hi b hb
    · simp at hb
      subst hb
      exact hE
/-- a write is answered -/
theorem HS.mark (h : HS w0 W Bc Ba Bb rv bs na nb s) {m : Nat} (hm : m < s.ws.length) (res done : Int) : HS w0 ((W.setCell ⟨bs.getD m 0, 4, none⟩ (.int .i64 res)).setCell ⟨bs.getD m 0, 5, none⟩ (.int .i64 done)) Bc Ba Bb rv bs na nb ⟨s.ws.modify m fun w => ⟨w.place, w.id, w.pairs, w.keys, res, done⟩, s.at_, s.by_⟩ := by
  have hl : m < bs.length := by rw [h.len]; exact hm
  have hbm : bs[m]? = some (bs.getD m 0) := by simp [List.getD_eq_getElem?_getD, hl]
  generalize bs.getD m 0 = b at *
  have hxm := h.wr m b s.ws[m] hbm (List.getElem?_eq_getElem hm)
  obtain ⟨A2, c2, v3, hB, hp, hk⟩ := hxm
  have hB1 := blk_set hB 4 (.int .i64 res)
  have hb0 : w0.heap.size ≤ b := h.hi b (List.mem_of_getElem? hbm)
  have hset : ∀ {c : Array Value} {t : TypeId} {g : Nat}, W.heap[g]? = some (.cells c t (0, 0)) → g ≠ b → ((W.setCell ⟨b, 4, none⟩ (.int .i64 res)).setCell ⟨b, 5, none⟩ (.int .i64 done)).heap[g]? = some (.cells c t (0, 0)) := fun hc hne => blk_far (blk_far hc hne _) hne _
  refine ⟨hset h.bc (blk_ne h.bc hB (by decide)), (h.row.set_ hB (by decide) _ _).set_ hB1 (by decide) _ _, (h.ma.set_ (a := ⟨b, 4, none⟩) hB _).set_ (a := ⟨b, 5, none⟩) hB1 _, (h.mb.set_ (a := ⟨b, 4, none⟩) hB _).set_ (a := ⟨b, 5, none⟩) hB1 _, ?_, ?_, ?_, h.dis, h.hi, h.bas, h.ab, below_set_ (below_set_ h.bel hb0 _) hb0 _⟩
  · intro q n hq
    show n < (s.ws.modify m _).length
    rw [List.length_modify]
    exact h.inb q n hq
  · show _ = (s.ws.modify m _).length
    rw [List.length_modify]
    exact h.len
  · intro i b' x h1 h2
    simp only [List.getElem?_modify] at h2
    by_cases e : m = i
    · subst e
      rw [h1] at hbm
      injection hbm with hbm
      subst hbm
      rw [List.getElem?_eq_getElem hm] at h2
      simp at h2
      subst h2
      have hB2 := blk_set hB1 5 (.int .i64 done)
      exact ⟨A2, c2, v3, by simpa using hB2, hp, (hk.set_ hB (by decide) _ _).set_ hB1 (by decide) _ _⟩
    · simp only [e, if_false] at h2
      have h2' : s.ws[i]? = some x := by simpa using h2
      have hne : b' ≠ b := fun eb => e (by subst eb; exact h.dis m i b' hbm h1)
      exact ((h.wr i b' x h1 h2').set_ hB (by decide) hne _ _).set_ hB1 (by decide) hne _ _
/-- the court as the rules read it -/
theorem HS.court (h : HS w0 W Bc Ba Bb rv bs na nb s) : CourtAt W Bc s.ws := by
  obtain ⟨A, c, e, _, hr⟩ := h.row.reads
  subst e
  have hc := blk_cell h.bc 0
  rw [h.len] at hc hr
  refine ⟨A, c, hc, h.len ▸ rfl, hr.2.1, fun hp => ?_⟩
  obtain ⟨ad, e, hcell⟩ := hr.2.2 hp
  refine ⟨ad, e, fun j x hx => ?_⟩
  have hj : j < bs.length := by rw [h.len]; exact (List.getElem?_eq_some_iff.1 hx).1
  obtain ⟨cs, hl, hR, hcs⟩ := hcell j bs[j] (List.getElem?_eq_getElem hj)
  obtain ⟨A2, c2, v3, hB, hp2, hk⟩ := h.wr j bs[j] x (List.getElem?_eq_getElem hj) hx
  obtain ⟨A3, c3, e3, _, hr3⟩ := hk.reads
  subst e3
  refine ⟨cs, hl, ⟨bs[j], hR, A2, c2, A3, c3, blk_cell hB 0, blk_cell hB 1, blk_cell hB 2, blk_cell hB 3, blk_cell hB 4, blk_cell hB 5, Kd.C_below hp2 h.bel, ?_⟩, hcs⟩
  exact hr3
end Go.Proofs.YtiibjgnmdieicaaGreat.Hist
