/- A map in memory as a function of its keys: what a look-up, a store, a deletion and a range do to it. Keys of an integer kind, elements of any shape that reads back. -/
import Derived.Maps.RangeWalk
import Derived.Maps.OwnSet
import Derived.Maps.Ext
import Derived.Below
namespace Go.Proofs.Ytkpngkdkkcadfaa.Mf
open Go.RowKit
open Go.Maps (Keyed)

/-- How elements stand in memory and read as data. -/
structure Enc (E : Type) where
  val : E → Value
  dat : E → DataW Unit
  rd : Value → Option (DataW Unit × List MemPlace)
  rd_val : ∀ e, rd (val e) = some (dat e, [])
  rd_inv : ∀ v y, rd v = some y → ∃ e, v = val e ∧ y = (dat e, [])
  inj : ∀ e e', dat e = dat e' → e = e'

variable {E : Type}

/-- Block b is a map that holds just what f says. -/
def MapF (P : Program) (K : TypeId) (q : IntKind) (C : Enc E) (w : World) (b n : Nat) (f : Int → Option E) : Prop :=
  ∃ D, w.ownsMap P K C.rd b n D ∧ (∀ k, (Lit.int q k).wf = true → Maps.has D (.int q k) = (f k).isSome) ∧ (∀ k e, f k = some e → (Lit.int q k).wf = true ∧ ∀ z, D.atKey (.int q k) z = C.dat e)

section
variable {P : Program} {K : TypeId} {q : IntKind} {C : Enc E} {w w' : World} {b n : Nat} {f : Int → Option E}

theorem MapF.new (w : World) (P : Program) (K : TypeId) (q : IntKind) (C : Enc E) : MapF P K q C (w.alloc (.map #[] 0)) w.heap.size 0 (fun _ => none) :=
  ⟨_, World.ownsMap_made w P K C.rd, fun _ _ => rfl, fun _ _ h => by cases h⟩

theorem MapF.lt (h : MapF P K q C w b n f) : b < w.heap.size := by
  obtain ⟨D, h, _⟩ := h; exact h.lt

theorem MapF.mono (h : MapF P K q C w b n f) {n' : Nat} (hn : n ≤ n') : MapF P K q C w b n' f := by
  obtain ⟨D, h, r⟩ := h; exact ⟨D, h.mono hn, r⟩

theorem MapF.kept (h : MapF P K q C w b n f) {row : Option Nat} (hg : w.grownBy w' row) (hne : some b ≠ row) : MapF P K q C w' b n f := by
  obtain ⟨D, h, r⟩ := h; exact ⟨D, h.kept hg hne, r⟩

theorem MapF.below (h : MapF P K q C w b n f) {B : Nat} (hb : Below B w w') (hlt : b < B) : MapF P K q C w' b n f := by
  obtain ⟨D, ⟨es, clock, hh, r1⟩, r⟩ := h
  exact ⟨D, ⟨es, clock, (hb.block b hlt).trans hh, r1⟩, r⟩

theorem MapF.alloc (h : MapF P K q C w b n f) (o : Obj) : MapF P K q C (w.alloc o) b n f := by
  obtain ⟨D, h, r⟩ := h; exact ⟨D, h.alloc o, r⟩

theorem MapF.setCell (h : MapF P K q C w b n f) {a : Addr} (ha : b ≠ a.block) (u : Value) : MapF P K q C (w.setCell a u) b n f := by
  obtain ⟨D, h, r⟩ := h; exact ⟨D, h.setCell ha u, r⟩

theorem key_lit (k : Int) : WideAt.IsKeyLit (.int q k) := trivial

/-- 'm[k]', 'v, ok := m[k]': an equation on the operation's run. -/
theorem MapF.look (h : MapF P K q C w b n f) (c : Bool) (KK : Keyed P K) (hk : P.underlying K = some (.int q)) {t e : TypeId} (ht : P.underlying t = some (.map K e)) {z : Value} (hz : (zeroValue e).run P w = .ok z w) {k : Int} (hw : (Lit.int q k).wf = true) :
    (Instr.lookup t (.map (some b)) (.int q k) c).run P w = .ok (match f k with | some x => if c then .tuple #[C.val x, .bool true] else C.val x | none => if c then .tuple #[z, .bool false] else z) w := by
  obtain ⟨D, ⟨es, clock, hb, F, _, rfl⟩, h1, h2⟩ := h
  have hkey := Maps.keyOf_int_mk hk hw
  rcases Maps.fit_look c KK ht hz hb F hkey with ⟨hrun, _, hat⟩ | ⟨e0, y, _, _, hrun, hRv, hat, _⟩
  · have e1 := Maps.has_false_of_atKey hat
    rw [h1 k hw] at e1
    cases hf : f k with
    | none => exact hrun
    | some x => rw [hf] at e1; cases e1
  · have e1 := Maps.has_true_of_atKey hat
    rw [h1 k hw] at e1
    obtain ⟨x, hx, rfl⟩ := C.rd_inv _ _ hRv
    cases hf : f k with
    | none => rw [hf] at e1; cases e1
    | some x' =>
      have e2 := (h2 k x' hf).2 (.nil)
      rw [hat] at e2
      have e3 := C.inj _ _ e2
      subst e3
      rw [hx] at hrun
      exact hrun

/-- 'm[k] = v'. -/
theorem MapF.store (h : MapF P K q C w b n f) (KK : Keyed P K) (hk : P.underlying K = some (.int q)) {t e : TypeId} (ht : P.underlying t = some (.map K e)) (hn : n < maxLen) {k : Int} (hw : (Lit.int q k).wf = true) (x : E) :
    ∃ w', (Instr.mapUpdate t (.map (some b)) (.int q k) (C.val x)).run P w = .ok () w' ∧ MapF P K q C w' b (n + 1) (fun j => if j = k then some x else f j) ∧ w.mapTurned w' b := by
  obtain ⟨D, ho, h1, h2⟩ := h
  have hm := ho.isMap
  obtain ⟨w', hrun, ho', ht'⟩ := ho.store KK ht hn (Maps.keyOf_int_mk hk hw) (C.rd_val x)
  refine ⟨w', hrun, ⟨_, ho', fun j hj => ?_, fun j y hy => ?_⟩, ht'⟩
  · by_cases hjk : j = k
    · subst hjk
      rw [Maps.has_put_same hm (key_lit _)]; simp
    · rw [Maps.has_put_other (by intro e; injection e with _ e; exact hjk e), h1 j hj]; simp [hjk]
  · by_cases hjk : j = k
    · subst hjk
      simp at hy
      subst hy
      exact ⟨hw, fun z => Maps.atKey_put_same hm (key_lit _) _ _⟩
    · simp [hjk] at hy
      exact ⟨(h2 j y hy).1, fun z => by rw [Maps.atKey_put_other (by intro e; injection e with _ e; exact hjk e)]; exact (h2 j y hy).2 z⟩

/-- 'delete(m, k)'. -/
theorem MapF.drop (h : MapF P K q C w b n f) (KK : Keyed P K) (hk : P.underlying K = some (.int q)) {t e : TypeId} (ht : P.underlying t = some (.map K e)) {k : Int} (hw : (Lit.int q k).wf = true) (ty : TypeId) :
    ∃ w', (Builtin.delete_ #[t, K] ty #[.map (some b), .int q k]).run P w = .ok (.tuple #[]) w' ∧ MapF P K q C w' b n (fun j => if j = k then none else f j) ∧ w.mapTurned w' b := by
  obtain ⟨D, ho, h1, h2⟩ := h
  obtain ⟨w', hrun, ho', ht'⟩ := ho.drop KK ht (Maps.keyOf_int_mk hk hw) ty
  refine ⟨w', hrun, ⟨_, ho', fun j hj => ?_, fun j y hy => ?_⟩, ht'⟩
  · by_cases hjk : j = k
    · subst hjk
      rw [Maps.has_del_same]; simp
    · rw [Maps.has_del_other (by intro e; injection e with _ e; exact hjk e), h1 j hj]; simp [hjk]
  · by_cases hjk : j = k
    · subst hjk; simp at hy
    · simp [hjk] at hy
      exact ⟨(h2 j y hy).1, fun z => by rw [Maps.atKey_del_other (by intro e; injection e with _ e; exact hjk e)]; exact (h2 j y hy).2 z⟩

/-- Only this map has turned. -/
theorem turned_below {B : Nat} (h : w.mapTurned w' b) (hB : B ≤ b) : Below B w w' := by
  have hg := h.grown
  exact ⟨hg.os, hg.tape, hg.output, hg.size, fun k hk => by
    rcases Nat.lt_or_ge k w.heap.size with hlt | hge
    · exact hg.block k hlt (by intro e; injection e with e; omega)
    · obtain ⟨es, clock, es', clock', _, rfl⟩ := h
      simp [ChangeMaps.setBlock, Array.getElem?_setIfInBounds]
      intro e; omega⟩


/-- A range over such a map under way: which keys are still to come. -/
def RangesF (P : Program) (K : TypeId) (q : IntKind) (C : Enc E) (w : World) (b r n : Nat) (f : Int → Option E) (left : Int → Bool) (cnt : Nat) : Prop :=
  ∃ D lf, w.ranges P K C.rd b r n D lf cnt ∧ (∀ k, (Lit.int q k).wf = true → Maps.has D (.int q k) = (f k).isSome) ∧ (∀ k e, f k = some e → (Lit.int q k).wf = true ∧ ∀ z, D.atKey (.int q k) z = C.dat e) ∧
    (∀ k, lf (.int q k) = left k) ∧ (∀ k, left k = true → (f k).isSome)

theorem RangesF.owns {r cnt : Nat} {left : Int → Bool} (h : RangesF P K q C w b r n f left cnt) : MapF P K q C w b n f := by
  obtain ⟨D, lf, h, h1, h2, _⟩ := h
  exact ⟨D, h.owns, h1, h2⟩

theorem RangesF.left_eq {r cnt : Nat} {left : Int → Bool} (h : RangesF P K q C w b r n f left cnt) : w.rangeLeft b r = cnt := by
  obtain ⟨D, lf, h, _⟩ := h; exact h.left_eq

theorem RangesF.below {r cnt : Nat} {left : Int → Bool} (h : RangesF P K q C w b r n f left cnt) {B : Nat} (hb : Below B w w') (h1 : b < B) (h2 : r < B) : RangesF P K q C w' b r n f left cnt := by
  obtain ⟨D, lf, ⟨es, clock, since, seen, c0, hbk, F, hn, hD, hr, rest⟩, r1⟩ := h
  exact ⟨D, lf, ⟨es, clock, since, seen, c0, (hb.block b h1).trans hbk, F, hn, hD, (hb.block r h2).trans hr, rest⟩, r1⟩

theorem RangesF.lt {r cnt : Nat} {left : Int → Bool} (h : RangesF P K q C w b r n f left cnt) : b < w.heap.size ∧ r < w.heap.size := by
  have h0 := h.owns.lt
  obtain ⟨D, lf, h, _⟩ := h
  exact ⟨h0, h.lt⟩

theorem has_wf {D : DataW Unit} (ho : w.ownsMap P K C.rd b n D) (hk : P.underlying K = some (.int q)) {kl : Lit} (h : Maps.has D kl = true) (hl : WideAt.IsKeyLit kl) : ∃ k, kl = .int q k ∧ (Lit.int q k).wf = true := by
  obtain ⟨es, clock, hb, F, _, rfl⟩ := ho
  rw [Maps.has_eq, List.any_eq_true] at h
  obtain ⟨p, hp, hs⟩ := h
  have hp2 := mem_sorted.1 hp
  obtain ⟨x, hx, rfl⟩ := List.mem_map.1 hp2
  obtain ⟨y, hy⟩ := F.reads x hx
  have m1 := WideElems.rd_key hy
  rw [WideElems.rg_of hy] at hs
  obtain ⟨k, _, hkl, hwf⟩ := Maps.keyOf_int_inv hk m1
  rw [hkl] at hs
  have := (WideAt.sameKey_iff hl).1 hs
  exact ⟨k, this.symm, hwf⟩

theorem has_all {D : DataW Unit} (ho : w.ownsMap P K C.rd b n D) (hk : P.underlying K = some (.int q)) (h1 : ∀ k, (Lit.int q k).wf = true → Maps.has D (.int q k) = (f k).isSome)
    (h2 : ∀ k e, f k = some e → (Lit.int q k).wf = true ∧ ∀ z, D.atKey (.int q k) z = C.dat e) (k : Int) : Maps.has D (.int q k) = (f k).isSome := by
  cases hw : (Lit.int q k).wf with
  | true => exact h1 k hw
  | false =>
    have e1 : (f k).isSome = false := by
      cases hf : f k with
      | none => rfl
      | some e => have := (h2 k e hf).1; rw [hw] at this; cases this
    rw [e1]
    cases hh : Maps.has D (.int q k) with
    | false => rfl
    | true =>
      obtain ⟨k', hk', hw'⟩ := has_wf ho hk hh trivial
      injection hk' with _ hk'
      subst hk'
      rw [hw] at hw'; cases hw'

/-- How many entries there are: the keys, each once. -/
theorem MapF.keys (h : MapF P K q C w b n f) (KK : Keyed P K) (hk : P.underlying K = some (.int q)) {t e : TypeId} (ht : P.underlying t = some (.map K e)) :
    ∃ ks : List Int, ks.Pairwise (· ≠ ·) ∧ (∀ k, k ∈ ks ↔ (f k).isSome = true) ∧ ∀ ty, (Builtin.len_ #[t] ty #[.map (some b)]).run P w = .ok (.int .i64 (ks.length : Int)) w := by
  obtain ⟨D, ho, h1, h2⟩ := h
  have hall := has_all ho hk h1 h2
  have hlen := fun ty => ho.len ht ty
  obtain ⟨es, rfl, hp, hkey⟩ := ho.entries KK
  have hkeys : ∀ p ∈ es, ∃ k, p.1 = .int q k := fun p hp' => by
    have hh : Maps.has (.map es) p.1 = true := by
      rw [Maps.has_eq, List.any_eq_true]
      exact ⟨p, hp', WideAt.sameKey_self (hkey p hp')⟩
    obtain ⟨k, hk1, _⟩ := has_wf ho hk hh (hkey p hp')
    exact ⟨k, hk1⟩
  refine ⟨es.map fun p => (match p.1 with | .int _ k => k | _ => 0), ?_, fun k => ?_, fun ty => by rw [List.length_map]; exact hlen ty⟩
  · rw [List.pairwise_map]
    refine hp.imp_of_mem fun {x y} hx hy hne => ?_
    obtain ⟨a, ha⟩ := hkeys x hx
    obtain ⟨c, hc⟩ := hkeys y hy
    rw [ha, hc] at hne ⊢
    intro e
    exact hne (by simp at e; rw [e])
  · rw [← hall k, Maps.has_eq, List.any_eq_true, List.mem_map]
    constructor
    · rintro ⟨p, hp', e⟩
      obtain ⟨a, ha⟩ := hkeys p hp'
      rw [ha] at e
      simp at e
      subst e
      exact ⟨p, hp', by rw [ha]; exact WideAt.sameKey_self trivial⟩
    · rintro ⟨p, hp', e⟩
      have := (WideAt.sameKey_iff (key_lit (q := q) k)).1 e
      exact ⟨p, hp', by rw [this]⟩

section
variable {ops : Array Oper} {rest : List Oper} {o : Oper} {a : Act} {Q : Exit → Act → World → Prop}

/-- 'range m', at the operation. -/
theorem wpList_range_f (hg : o.guard = none) (m : Operand) (t : TypeId) (hop : o.op = Op.range t m) (e : TypeId) (KK : Keyed P K) (hk : P.underlying K = some (.int q)) (ht : P.underlying t = some (.map K e))
    (hm : a.eval m = .map (some b)) (h : MapF P K q C w b n f)
    (hK : ∀ w' cnt, RangesF P K q C w' b w.heap.size n f (fun k => (f k).isSome) cnt → w.grownBy w' none → w'.heap.size = w.heap.size + 1 → wpList P ops Q rest (a.put o.dst (.pointer (some ⟨w.heap.size, 0, none⟩))) w') :
    wpList P ops Q (o :: rest) a w := by
  obtain ⟨D, ho, h1, h2⟩ := h
  exact wpList_range_own w hg m t hop K e KK ht C.rd b n D hm ho fun w' hr hg' hs =>
    hK w' _ ⟨D, _, hr, h1, h2, has_all ho hk h1 h2, fun k hk => hk⟩ hg' hs

/-- The step. -/
theorem wpList_next_f {r cnt : Nat} {left : Int → Bool} (hg : o.guard = none) (it : Operand) (hop : o.op = Op.next it false) (KK : Keyed P K) (hk : P.underlying K = some (.int q))
    (hit : a.eval it = .pointer (some ⟨r, 0, none⟩)) (h : RangesF P K q C w b r n f left cnt)
    (hDone : (∀ k, left k = false) → wpList P ops Q rest (a.put o.dst (.tuple #[.bool false])) w)
    (hMore : ∀ (k : Int) (x : E) (w' : World) (cnt' : Nat), left k = true → f k = some x → (Lit.int q k).wf = true → RangesF P K q C w' b r n f (fun j => left j && !(j == k)) cnt' → cnt' < cnt →
      w.grownBy w' (some r) → w'.heap.size = w.heap.size → (Instr.entry (.pointer (some ⟨r, 0, none⟩))).run P w' = .ok (.tuple #[.int q k, C.val x]) w' → wpList P ops Q rest (a.put o.dst (.tuple #[.bool true, .int q k, C.val x])) w') :
    wpList P ops Q (o :: rest) a w := by
  obtain ⟨D, lf, hr, h1, h2, h3, h4⟩ := h
  refine wpList_next_ranges w hg it hop K KK C.rd (fun x : Int => Value.int q x) C.val (fun key kl hkl => ?_) (fun v y hv => ?_) b r n D lf cnt hit hr (fun _ hl => hDone fun k => by rw [← h3 k]; exact hl _) ?_
  · obtain ⟨x, hx, _⟩ := Maps.keyOf_int_inv hk hkl
    exact ⟨x, hx⟩
  · obtain ⟨x, hx, _⟩ := C.rd_inv _ _ hv
    exact ⟨x, hx⟩
  · intro k x kl y w' cnt' hkl hlk hy hat hrg hlt hgr hsz hen
    obtain ⟨k', e1, rfl, hw⟩ := Maps.keyOf_int_inv hk hkl
    injection e1 with _ e1
    subst e1
    have hl : left k = true := by rw [← h3 k]; exact hlk
    obtain ⟨x', hx'⟩ := Option.isSome_iff_exists.1 (h4 k hl)
    have e2 := (h2 k x' hx').2 .nil
    rw [hat] at e2
    rw [C.rd_val] at hy
    injection hy with hy
    subst hy
    have e3 := C.inj _ _ e2
    subst e3
    refine hMore k x w' cnt' hl hx' hw ⟨D, _, hrg, h1, h2, fun j => ?_, fun j hj => h4 j (by simp at hj; exact hj.1)⟩ hlt hgr hsz hen
    show (lf (.int q j) && !(Lit.int q j).sameKey (.int q k)) = _
    rw [h3 j]
    congr 2
    rw [Bool.eq_iff_iff, WideAt.sameKey_iff (key_lit (q := q) k), beq_iff_eq]
    exact ⟨fun e => by injection e, fun e => by rw [e]⟩
end
end
end Go.Proofs.Ytkpngkdkkcadfaa.Mf
