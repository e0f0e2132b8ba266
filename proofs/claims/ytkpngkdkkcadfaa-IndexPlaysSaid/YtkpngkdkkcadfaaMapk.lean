/- A map in memory as a function of its keys, whatever the keys' type: the keys are told by a coding (complex numbers too), the elements are values. -/
import Derived.Test.YtkpngkdkkcadfaaOnly
import Derived.Maps.RangeWalk
namespace Go.Proofs.Ytkpngkdkkcadfaa.Mk
open Go.RowKit
open Go.ChangeMaps (setBlock modify_eq_set)
open Go.MapKept (Stamped stamped_push stamped_modify stamped_erase stamped_empty stamped_iff)

/-- How keys stand in memory. -/
structure Kq (P : Program) (K : TypeId) (κ : Type) where
  val : κ → Value
  inj : ∀ k k', val k = val k' → k = k'
  check : ∀ (w : World) (em : Bool) (k : κ), (Instr.checkKey em 10000 K (val k)).run P w = .ok () w
  find : ∀ (w : World) (x : κ) (es : List MapEntry), (∀ e ∈ es, ∃ k, e.key = val k) →
    ((Instr.findKey K (val x) es).run P w = .ok none w ∧ ∀ e ∈ es, e.key ≠ val x) ∨ ∃ j e, (Instr.findKey K (val x) es).run P w = .ok (some (j, e.val)) w ∧ es[j]? = some e ∧ e.key = val x
  stays : ∀ (w : World) (k : κ), (Instr.keyThatStays (val k) (val k)).run P w = .ok (val k) w

/-- Keys of a type that the kit's laws serve. -/
def Kq.ofKeyed {P : Program} {K : TypeId} {κ : Type} (KK : Maps.Keyed P K) (val : κ → Value) (inj : ∀ k k', val k = val k' → k = k') (key : ∀ k, ∃ l, keyOf P K (val k) = some l) : Kq P K κ where
  val := val
  inj := inj
  check := fun w em k => by obtain ⟨l, hl⟩ := key k; exact KK.check w em hl
  find := fun w x es h => by
    obtain ⟨l, hl⟩ := key x
    exact KK.find w hl es fun e he => by obtain ⟨k, hk⟩ := h e he; rw [hk]; exact key k
  stays := fun w k => by obtain ⟨l, hl⟩ := key k; exact KK.stays w hl

variable {κ : Type} {P : Program} {K : TypeId} {c : Kq P K κ}

/-- What entries tell. -/
def Ent (c : Kq P K κ) (L : List MapEntry) (f : κ → Option Value) : Prop := (∀ e ∈ L, ∃ k, e.key = c.val k) ∧ ∀ k v, f k = some v ↔ ∃ e ∈ L, e.key = c.val k ∧ e.val = v
theorem Ent.none_ {L : List MapEntry} {f : κ → Option Value} (h : Ent c L f) {k : κ} (hk : ∀ e ∈ L, e.key ≠ c.val k) : f k = none := by
  cases hv : f k with
  | none => rfl
  | some v => obtain ⟨e, he, e1, _⟩ := (h.2 k v).1 hv; exact absurd e1 (hk e he)
theorem Ent.push [DecidableEq κ] {L : List MapEntry} {f : κ → Option Value} (h : Ent c L f) {k : κ} (hk : ∀ e ∈ L, e.key ≠ c.val k) (v : Value) (b : Nat) : Ent c (L ++ [⟨c.val k, v, b⟩]) (fun j => if j = k then some v else f j) := by
  refine ⟨fun e he => ?_, fun j x => ?_⟩
  · rcases List.mem_append.1 he with he | he
    · exact h.1 e he
    · rw [List.mem_singleton] at he; subst he; exact ⟨k, rfl⟩
  · show (if j = k then some v else f j) = some x ↔ _
    by_cases hj : j = k
    · rw [if_pos hj]
      subst hj
      constructor
      · intro e; injection e with e; exact ⟨_, List.mem_append_right _ (List.mem_singleton.2 rfl), rfl, e⟩
      · rintro ⟨e, he, e1, e2⟩
        rcases List.mem_append.1 he with he | he
        · exact absurd e1 (hk e he)
        · rw [List.mem_singleton] at he; subst he; rw [← e2]
    · rw [if_neg hj, h.2 j x]
      constructor
      · rintro ⟨e, he, e1, e2⟩; exact ⟨e, List.mem_append_left _ he, e1, e2⟩
      · rintro ⟨e, he, e1, e2⟩
        rcases List.mem_append.1 he with he | he
        · exact ⟨e, he, e1, e2⟩
        · rw [List.mem_singleton] at he; subst he; exact absurd (c.inj _ _ e1).symm hj
theorem Ent.other {L : List MapEntry} (hn : L.Pairwise fun x y => x.key ≠ y.key) {i j : Nat} {e e' : MapEntry} (hi : L[i]? = some e) (hj : L[j]? = some e') (hk : e.key = e'.key) : i = j := by
  obtain ⟨h1, rfl⟩ := List.getElem?_eq_some_iff.1 hi
  obtain ⟨h2, rfl⟩ := List.getElem?_eq_some_iff.1 hj
  rcases Nat.lt_trichotomy i j with h | h | h
  · exact absurd hk (List.pairwise_iff_getElem.1 hn i j h1 h2 h)
  · exact h
  · exact absurd hk.symm (List.pairwise_iff_getElem.1 hn j i h2 h1 h)
theorem Ent.set [DecidableEq κ] {L : List MapEntry} {f : κ → Option Value} (h : Ent c L f) (hn : L.Pairwise fun x y => x.key ≠ y.key) {j : Nat} {e0 : MapEntry} {k : κ} (hj : L[j]? = some e0) (hk : e0.key = c.val k) (v : Value) : Ent c (L.set j { e0 with key := c.val k, val := v }) (fun i => if i = k then some v else f i) := by
  have hjl := (List.getElem?_eq_some_iff.1 hj).1
  have mem : ∀ e, e ∈ L.set j { e0 with key := c.val k, val := v } ↔ e = { e0 with key := c.val k, val := v } ∨ (e ∈ L ∧ e.key ≠ c.val k) := fun e => by
    constructor
    · intro he
      obtain ⟨i, hi⟩ := List.mem_iff_getElem?.1 he
      rw [List.getElem?_set] at hi
      split at hi
      · injection hi with hi; exact .inl hi.symm
      · rename_i hne
        exact .inr ⟨List.mem_of_getElem? hi, fun e1 => hne (Ent.other hn hj hi (hk.trans e1.symm))⟩
    · rintro (rfl | ⟨he, hne⟩)
      · exact List.mem_iff_getElem?.2 ⟨j, by rw [List.getElem?_set, if_pos rfl, if_pos hjl]⟩
      · obtain ⟨i, hi⟩ := List.mem_iff_getElem?.1 he
        refine List.mem_iff_getElem?.2 ⟨i, ?_⟩
        rw [List.getElem?_set, if_neg]
        · exact hi
        · intro e1; subst e1; rw [hj] at hi; injection hi with hi; subst hi; exact hne hk
  refine ⟨fun e he => ?_, fun i x => ?_⟩
  · rcases (mem e).1 he with rfl | ⟨h1, _⟩
    · exact ⟨k, rfl⟩
    · exact h.1 e h1
  · show (if i = k then some v else f i) = some x ↔ _
    by_cases hi : i = k
    · rw [if_pos hi]
      subst hi
      constructor
      · intro e; injection e with e; exact ⟨_, (mem _).2 (.inl rfl), rfl, e⟩
      · rintro ⟨e, he, e1, e2⟩
        rcases (mem e).1 he with rfl | ⟨_, h2⟩
        · rw [← e2]
        · exact absurd e1 h2
    · rw [if_neg hi, h.2 i x]
      constructor
      · rintro ⟨e, he, e1, e2⟩
        exact ⟨e, (mem e).2 (.inr ⟨he, fun e3 => hi (c.inj _ _ (e1.symm.trans e3))⟩), e1, e2⟩
      · rintro ⟨e, he, e1, e2⟩
        rcases (mem e).1 he with rfl | ⟨h1, _⟩
        · exact absurd (c.inj _ _ e1).symm hi
        · exact ⟨e, h1, e1, e2⟩
theorem Ent.del [DecidableEq κ] {L : List MapEntry} {f : κ → Option Value} (h : Ent c L f) (hn : L.Pairwise fun x y => x.key ≠ y.key) {j : Nat} {e0 : MapEntry} {k : κ} (hj : L[j]? = some e0) (hk : e0.key = c.val k) : Ent c (L.eraseIdx j) (fun i => if i = k then none else f i) := by
  have mem : ∀ e, e ∈ L.eraseIdx j ↔ e ∈ L ∧ e.key ≠ c.val k := fun e => by
    rw [List.mem_eraseIdx_iff_getElem?]
    constructor
    · rintro ⟨i, hne, hi⟩
      exact ⟨List.mem_of_getElem? hi, fun e1 => hne (Ent.other hn hi hj (e1.trans hk.symm))⟩
    · rintro ⟨he, hne⟩
      obtain ⟨i, hi⟩ := List.mem_iff_getElem?.1 he
      exact ⟨i, fun e1 => by subst e1; rw [hj] at hi; injection hi with hi; subst hi; exact hne hk, hi⟩
  refine ⟨fun e he => h.1 e ((mem e).1 he).1, fun i x => ?_⟩
  show (if i = k then none else f i) = some x ↔ _
  by_cases hi : i = k
  · rw [if_pos hi]
    subst hi
    constructor
    · intro e; cases e
    · rintro ⟨e, he, e1, _⟩; exact absurd e1 ((mem e).1 he).2
  · rw [if_neg hi, h.2 i x]
    constructor
    · rintro ⟨e, he, e1, e2⟩; exact ⟨e, (mem e).2 ⟨he, fun e3 => hi (c.inj _ _ (e1.symm.trans e3))⟩, e1, e2⟩
    · rintro ⟨e, he, e1, e2⟩; exact ⟨e, ((mem e).1 he).1, e1, e2⟩

/-- Block b is a map that holds just what f says. -/
def KMap (P : Program) (K : TypeId) (c : Kq P K κ) (w : World) (b n : Nat) (f : κ → Option Value) : Prop := ∃ es clock, w.heap[b]? = some (.map es clock) ∧ Stamped es clock ∧ es.size ≤ n ∧ Ent c es.toList f
section
variable {w w' : World} {b n : Nat} {f : κ → Option Value}
theorem KMap.new (w : World) (P : Program) (K : TypeId) (c : Kq P K κ) : KMap P K c (w.alloc (.map #[] 0)) w.heap.size 0 (fun _ => none) :=
  ⟨#[], 0, (MapKept.heap_alloc w _).1, stamped_empty 0, Nat.le_refl _, fun e he => by simp at he, fun k v => ⟨fun h => (by cases h), fun ⟨e, he, _⟩ => by simp at he⟩⟩
theorem KMap.lt (h : KMap P K c w b n f) : b < w.heap.size := by
  obtain ⟨es, clock, hb, _⟩ := h
  exact (Array.getElem?_eq_some_iff.1 hb).1
theorem KMap.mono (h : KMap P K c w b n f) {n' : Nat} (hn : n ≤ n') : KMap P K c w b n' f := by
  obtain ⟨es, clock, hb, h1, h2, h3⟩ := h; exact ⟨es, clock, hb, h1, by omega, h3⟩
theorem KMap.below (h : KMap P K c w b n f) {B : Nat} (hb : Below B w w') (hlt : b < B) : KMap P K c w' b n f := by
  obtain ⟨es, clock, hh, r⟩ := h; exact ⟨es, clock, (hb.block b hlt).trans hh, r⟩
theorem KMap.only {S : Nat → Prop} (h : KMap P K c w b n f) (ho : Only S w w') (hb : ¬ S b) : KMap P K c w' b n f := by
  have hlt := h.lt
  obtain ⟨es, clock, hh, r⟩ := h; exact ⟨es, clock, (ho.block b hlt hb).trans hh, r⟩
theorem KMap.alloc (h : KMap P K c w b n f) (o : Obj) : KMap P K c (w.alloc o) b n f := h.below (Below.alloc (Below.refl w.heap.size w) (Nat.le_refl _) o) h.lt
theorem KMap.look (h : KMap P K c w b n f) (cm : Bool) {t e : TypeId} (ht : P.underlying t = some (.map K e)) {z : Value} (hz : (zeroValue e).run P w = .ok z w) (k : κ) :
    (Instr.lookup t (.map (some b)) (c.val k) cm).run P w = .ok (match f k with | some x => if cm then .tuple #[x, .bool true] else x | none => if cm then .tuple #[z, .bool false] else z) w := by
  obtain ⟨es, clock, hb, hs, hn, hE⟩ := h
  rcases c.find w k es.toList hE.1 with ⟨h1, h2⟩ | ⟨j, e0, h1, h2, h3⟩
  · rw [hE.none_ h2]
    simp [Instr.lookup, run_underlying ht, MapKept.run_getObj_map hb, c.check w _ k, h1, hz, Result.andThen]
  · rw [(hE.2 k e0.val).2 ⟨e0, List.mem_of_getElem? h2, h3, rfl⟩]
    simp [Instr.lookup, run_underlying ht, MapKept.run_getObj_map hb, c.check w _ k, h1, Result.andThen]
theorem look_nil (c : Kq P K κ) (w : World) (cm : Bool) {t e : TypeId} (ht : P.underlying t = some (.map K e)) {z : Value} (hz : (zeroValue e).run P w = .ok z w) (k : κ) :
    (Instr.lookup t (.map none) (c.val k) cm).run P w = .ok (if cm then .tuple #[z, .bool false] else z) w := by
  rcases c.find w k [] (fun e he => by cases he) with ⟨h1, _⟩ | ⟨j, e0, _, h2, _⟩
  · simp [Instr.lookup, run_underlying ht, c.check w _ k, h1, hz, Result.andThen]
  · cases h2
theorem KMap.store [DecidableEq κ] (h : KMap P K c w b n f) {t e : TypeId} (ht : P.underlying t = some (.map K e)) (k : κ) (x : Value) :
    ∃ w', (Instr.mapUpdate t (.map (some b)) (c.val k) x).run P w = .ok () w' ∧ KMap P K c w' b (n + 1) (fun j => if j = k then some x else f j) ∧ w.mapTurned w' b := by
  obtain ⟨es, clock, hb, hs, hn, hE⟩ := h
  have hnk := ((stamped_iff es clock).1 hs).2.2
  rcases c.find w k es.toList hE.1 with ⟨h1, h2⟩ | ⟨j, e0, h1, h2, h3⟩
  · refine ⟨setBlock w b (.map (es.push ⟨c.val k, x, clock⟩) (clock + 1)), ?_, ⟨_, _, (MapKept.heap_set hb).1, stamped_push hs h2, by simp; omega, ?_⟩, ⟨es, clock, _, _, hb, rfl⟩⟩
    · simp [Instr.mapUpdate, run_underlying ht, MapKept.run_getObj_map hb, c.check w false k, h1, MapKept.run_setObj_map _ hb, Result.andThen, setBlock]
    · rw [Array.toList_push]; exact hE.push h2 x clock
  · have hj : es[j]? = some e0 := by simpa using h2
    have hlist : (es.modify j (fun e' => { e' with key := c.val k, val := x })).toList = es.toList.set j { e0 with key := c.val k, val := x } := by rw [Array.toList_modify, modify_eq_set _ _ _ _ h2]
    refine ⟨setBlock w b (.map (es.modify j (fun e' => { e' with key := c.val k, val := x })) clock), ?_, ⟨_, _, (MapKept.heap_set hb).1, stamped_modify hs j (fun e' => { e' with key := c.val k, val := x }) (fun _ _ => rfl) (fun e' _ he' => by rw [hj] at he'; cases he'; exact h3.symm), by simp; omega, by rw [hlist]; exact hE.set hnk h2 h3 x⟩, ⟨es, clock, _, _, hb, rfl⟩⟩
    simp [Instr.mapUpdate, run_underlying ht, MapKept.run_getObj_map hb, c.check w false k, h1, hj, h3, c.stays w k, MapKept.run_setObj_map _ hb, Result.andThen, setBlock]
theorem KMap.drop [DecidableEq κ] (h : KMap P K c w b n f) {t e : TypeId} (ht : P.underlying t = some (.map K e)) (k : κ) (ty : TypeId) :
    ∃ w', (Builtin.delete_ #[t, K] ty #[.map (some b), c.val k]).run P w = .ok (.tuple #[]) w' ∧ KMap P K c w' b n (fun j => if j = k then none else f j) ∧ w.mapTurned w' b := by
  obtain ⟨es, clock, hb, hs, hn, hE⟩ := h
  have hnk := ((stamped_iff es clock).1 hs).2.2
  rcases c.find w k es.toList hE.1 with ⟨h1, h2⟩ | ⟨j, e0, h1, h2, h3⟩
  · refine ⟨setBlock w b (.map es clock), ?_, ⟨_, _, (MapKept.heap_set hb).1, hs, hn, ?_⟩, ⟨es, clock, _, _, hb, rfl⟩⟩
    · simp [Builtin.delete_, run_underlying ht, MapKept.run_getObj_map hb, c.check w _ k, h1, MapKept.run_setObj_map _ hb, Result.andThen, setBlock]
    · rw [show (fun j => if j = k then none else f j) = f from by
        funext j
        by_cases e : j = k
        · rw [if_pos e, e, hE.none_ h2]
        · rw [if_neg e]]
      exact hE
  · have hjs : j < es.size := by simpa using (List.getElem?_eq_some_iff.1 h2).1
    have hsub : (es.eraseIdxIfInBounds j).toList = es.toList.eraseIdx j := by
      unfold Array.eraseIdxIfInBounds
      rw [dif_pos hjs]
      simp
    refine ⟨setBlock w b (.map (es.eraseIdxIfInBounds j) clock), ?_, ⟨_, _, (MapKept.heap_set hb).1, stamped_erase hs j, Nat.le_trans (MapFrom.size_erase es j) hn, ?_⟩, ⟨es, clock, _, _, hb, rfl⟩⟩
    · simp [Builtin.delete_, run_underlying ht, MapKept.run_getObj_map hb, c.check w _ k, h1, MapKept.run_setObj_map _ hb, Result.andThen, setBlock]
    · rw [hsub]; exact hE.del hnk h2 h3
theorem ent_keys {L : List MapEntry} {f : κ → Option Value} (h : Ent c L f) (hn : L.Pairwise fun x y => x.key ≠ y.key) : ∃ ks : List κ, ks.Pairwise (· ≠ ·) ∧ (∀ k, k ∈ ks ↔ (f k).isSome = true) ∧ ks.length = L.length := by
  have h1 : ∃ ks : List κ, ks.map c.val = L.map (·.key) := by
    have h2 := h.1
    clear h hn
    induction L with
    | nil => exact ⟨[], rfl⟩
    | cons e L ih =>
      obtain ⟨ks, hks⟩ := ih (fun x hx => h2 x (List.mem_cons_of_mem _ hx))
      obtain ⟨k, hk⟩ := h2 e (List.mem_cons_self ..)
      exact ⟨k :: ks, by rw [List.map_cons, List.map_cons, hks, hk]⟩
  obtain ⟨ks, hks⟩ := h1
  refine ⟨ks, ?_, fun k => ?_, by have := congrArg List.length hks; simpa using this⟩
  · have h5 : (L.map (·.key)).Pairwise (· ≠ ·) := by rw [List.pairwise_map]; exact hn
    rw [← hks, List.pairwise_map] at h5
    exact h5.imp fun hne e => hne (by rw [e])
  · rw [Option.isSome_iff_exists]
    constructor
    · intro hk
      have : c.val k ∈ L.map (·.key) := by rw [← hks]; exact List.mem_map.2 ⟨k, hk, rfl⟩
      obtain ⟨e, he, e1⟩ := List.mem_map.1 this
      exact ⟨e.val, (h.2 k _).2 ⟨e, he, e1, rfl⟩⟩
    · rintro ⟨v, hv⟩
      obtain ⟨e, he, e1, _⟩ := (h.2 k v).1 hv
      have : c.val k ∈ ks.map c.val := by rw [hks]; exact List.mem_map.2 ⟨e, he, e1⟩
      obtain ⟨k', hk', e2⟩ := List.mem_map.1 this
      rw [← c.inj _ _ e2]; exact hk'
theorem KMap.keys (h : KMap P K c w b n f) {t e : TypeId} (ht : P.underlying t = some (.map K e)) :
    ∃ ks : List κ, ks.Pairwise (· ≠ ·) ∧ (∀ k, k ∈ ks ↔ (f k).isSome = true) ∧ ks.length ≤ n ∧ ∀ ty, (Builtin.len_ #[t] ty #[.map (some b)]).run P w = .ok (.int .i64 (ks.length : Int)) w := by
  obtain ⟨es, clock, hb, hs, hn, hE⟩ := h
  obtain ⟨ks, h1, h2, h3⟩ := ent_keys hE ((stamped_iff es clock).1 hs).2.2
  have e1 : ks.length = es.size := by rw [h3]; simp
  refine ⟨ks, h1, h2, by omega, fun ty => ?_⟩
  rw [e1]
  simp [Builtin.len_, run_underlying ht, MapKept.run_getObj_map hb, goInt, Result.andThen]

/-- A range over such a map under way: which keys are still to come. -/
def RangesK (P : Program) (K : TypeId) (c : Kq P K κ) (w : World) (b r n : Nat) (f : κ → Option Value) (left : κ → Bool) (cnt : Nat) : Prop :=
  ∃ es clock since seen c0, w.heap[b]? = some (.map es clock) ∧ Stamped es clock ∧ es.size ≤ n ∧ Ent c es.toList f ∧ w.heap[r]? = some (.mapIter (some b) since seen c0) ∧ (∀ x ∈ es.toList, x.born < since) ∧ (leftOf es seen).size = cnt ∧
    (∀ x ∈ es.toList, ∀ k, x.key = c.val k → left k = !seen.contains x.born) ∧ (∀ k, left k = true → (f k).isSome = true) ∧ since ≤ c0 ∧ since ≤ clock
variable {r cnt : Nat} {left : κ → Bool}
theorem RangesK.owns (h : RangesK P K c w b r n f left cnt) : KMap P K c w b n f := by
  obtain ⟨es, clock, _, _, _, hb, h1, h2, h3, _⟩ := h; exact ⟨es, clock, hb, h1, h2, h3⟩
theorem RangesK.left_eq (h : RangesK P K c w b r n f left cnt) : w.rangeLeft b r = cnt := by
  obtain ⟨es, clock, since, seen, c0, hb, _, _, _, hr, _, hc, _⟩ := h
  simp only [World.rangeLeft, hb, hr]
  exact hc
theorem RangesK.below (h : RangesK P K c w b r n f left cnt) {B : Nat} (hb : Below B w w') (h1 : b < B) (h2 : r < B) : RangesK P K c w' b r n f left cnt := by
  obtain ⟨es, clock, since, seen, c0, hbk, a1, a2, a3, hr, rest⟩ := h
  exact ⟨es, clock, since, seen, c0, (hb.block b h1).trans hbk, a1, a2, a3, (hb.block r h2).trans hr, rest⟩
theorem RangesK.lt (h : RangesK P K c w b r n f left cnt) : b < w.heap.size ∧ r < w.heap.size := by
  obtain ⟨es, clock, since, seen, c0, hbk, a1, a2, a3, hr, rest⟩ := h
  exact ⟨(Array.getElem?_eq_some_iff.1 hbk).1, (Array.getElem?_eq_some_iff.1 hr).1⟩
theorem KMap.range (h : KMap P K c w b n f) {t e : TypeId} (ht : P.underlying t = some (.map K e)) :
    ∃ w' cnt, (Instr.range t (.map (some b))).run P w = .ok (.pointer (some ⟨w.heap.size, 0, none⟩)) w' ∧ RangesK P K c w' b w.heap.size n f (fun k => (f k).isSome) cnt ∧ w.grownBy w' none ∧ w'.heap.size = w.heap.size + 1 := by
  have hlt := h.lt
  obtain ⟨es, clock, hb, hs, hn, hE⟩ := h
  refine ⟨_, _, run_range_map w t K e b es clock ht hb, ⟨es, clock, clock, #[], clock, ((MapKept.heap_alloc w _).2 b hlt).trans hb, hs, hn, hE, (MapKept.heap_alloc w _).1, hs.1, rfl, fun x hx k hk => ?_, fun k hk => hk, Nat.le_refl _, Nat.le_refl _⟩, World.grownBy_alloc w _ none, by simp⟩
  show (f k).isSome = _
  rw [(hE.2 k x.val).2 ⟨x, hx, hk, rfl⟩]
  simp
theorem RangesK.next [DecidableEq κ] (h : RangesK P K c w b r n f left cnt) (ty : TypeId) :
    ((∀ k, left k = false) ∧ (Instr.next (.pointer (some ⟨r, 0, none⟩)) false ty).run P w = .ok (.tuple #[.bool false]) w) ∨
    ∃ k v w' cnt', left k = true ∧ f k = some v ∧ (Instr.next (.pointer (some ⟨r, 0, none⟩)) false ty).run P w = .ok (.tuple #[.bool true, c.val k, v]) w' ∧
      RangesK P K c w' b r n f (fun j => left j && !(decide (j = k))) cnt' ∧ cnt' < cnt ∧ w.grownBy w' (some r) ∧ w'.heap.size = w.heap.size ∧ (Instr.entry (.pointer (some ⟨r, 0, none⟩))).run P w' = .ok (.tuple #[c.val k, v]) w' := by
  obtain ⟨es, clock, since, seen, c0, hb, hs, hn, hE, hr, hold, rfl, hl1, hl2, hsc, hsk⟩ := h
  have hne : r ≠ b := fun e => by rw [e, hb] at hr; cases hr
  have hst := (stamped_iff es clock).1 hs
  rcases run_next_at (P := P) w ty r b since c0 seen es clock hr hb hold hsc with ⟨h0, hrun⟩ | ⟨e, he, w1, hal, hrun⟩
  · refine Or.inl ⟨fun k => ?_, hrun⟩
    cases hk : left k
    · rfl
    · obtain ⟨v, hv⟩ := Option.isSome_iff_exists.1 (hl2 k hk)
      obtain ⟨x, hx, e1, _⟩ := (hE.2 k v).1 hv
      rw [hl1 x hx k e1, all_seen es seen h0 x hx] at hk
      cases hk
  · obtain ⟨hem, hes⟩ := mem_left he
    obtain ⟨k, hk⟩ := hE.1 e hem
    have hr1 : w1.heap[r]? = some (.mapIter (some b) since seen c0) := by rcases hal with rfl | rfl <;> exact hr
    have hb1 : w1.heap[b]? = some (.map es clock) := by rcases hal with rfl | rfl <;> exact hb
    have hset := MapKept.heap_set (o' := .mapIter (some b) since (seen.push e.born) clock) hr1
    have hb' : (setBlock w1 r (.mapIter (some b) since (seen.push e.born) clock)).heap[b]? = some (.map es clock) := (hset.2 b (fun e1 => hne e1.symm)).trans hb1
    refine Or.inr ⟨k, e.val, _, _, by rw [hl1 e hem k hk, hes]; rfl, (hE.2 k e.val).2 ⟨e, hem, hk, rfl⟩, by rw [← hk]; exact hrun,
      ⟨es, clock, since, seen.push e.born, clock, hb', hs, hn, hE, hset.1, hold, rfl, fun x hx j hj => ?_, fun j hj => hl2 j (by simp at hj; exact hj.1), hsk, hsk⟩, left_shrinks es seen e he, ?_, ?_,
      by rw [← hk]; exact run_entry_at _ r b since seen es clock e hset.1 hb' hem hst.2.1⟩
    · show (left j && !(decide (j = k))) = _
      rw [hl1 x hx j hj, contains_push]
      have e1 : (x.born == e.born) = decide (j = k) := by
        by_cases hb2 : x.born = e.born
        · obtain rfl := born_inj hst.2.1 hx hem hb2
          have := c.inj _ _ (hj.symm.trans hk)
          simp [this]
        · have : j ≠ k := fun e1 => hb2 (congrArg MapEntry.born (entry_eq_of_key hst.2.2 hx hem (by rw [hj, hk, e1])))
          simp [hb2, this]
      rw [e1]
      cases seen.contains x.born <;> cases decide (j = k) <;> rfl
    · rcases hal with rfl | rfl <;> exact ⟨rfl, rfl, rfl, by simp [setBlock], fun i _ hi => hset.2 i (fun e1 => hi (by rw [e1]))⟩
    · rcases hal with rfl | rfl <;> simp [setBlock]
section
variable {ops : Array Oper} {rest : List Oper} {o : Oper} {a : Act} {Q : Exit → Act → World → Prop}
theorem wpList_range_k (hg : o.guard = none) (m : Operand) (t : TypeId) (hop : o.op = Op.range t m) (e : TypeId) (ht : P.underlying t = some (.map K e)) (hm : a.eval m = .map (some b)) (h : KMap P K c w b n f)
    (hK : ∀ w' cnt, RangesK P K c w' b w.heap.size n f (fun k => (f k).isSome) cnt → w.grownBy w' none → w'.heap.size = w.heap.size + 1 → wpList P ops Q rest (a.put o.dst (.pointer (some ⟨w.heap.size, 0, none⟩))) w') :
    wpList P ops Q (o :: rest) a w := by
  refine wpList_plain hg fun K' hK' => ?_
  obtain ⟨w', cnt, hrun, r1, r2, r3⟩ := h.range ht
  unfold Oper.wp
  simp [execOp, hop, hm, hrun, Result.andThen]
  exact hK' _ _ (hK w' cnt r1 r2 r3)
theorem wpList_next_k [DecidableEq κ] (hg : o.guard = none) (it : Operand) (hop : o.op = Op.next it false) (hit : a.eval it = .pointer (some ⟨r, 0, none⟩)) (h : RangesK P K c w b r n f left cnt)
    (hDone : (∀ k, left k = false) → wpList P ops Q rest (a.put o.dst (.tuple #[.bool false])) w)
    (hMore : ∀ (k : κ) (v : Value) (w' : World) (cnt' : Nat), left k = true → f k = some v → RangesK P K c w' b r n f (fun j => left j && !(decide (j = k))) cnt' → cnt' < cnt →
      w.grownBy w' (some r) → w'.heap.size = w.heap.size → (Instr.entry (.pointer (some ⟨r, 0, none⟩))).run P w' = .ok (.tuple #[c.val k, v]) w' → wpList P ops Q rest (a.put o.dst (.tuple #[.bool true, c.val k, v])) w') :
    wpList P ops Q (o :: rest) a w := by
  refine wpList_plain hg fun K' hK' => ?_
  unfold Oper.wp
  rcases h.next o.type with ⟨hl, hrun⟩ | ⟨k, v, w', cnt', hlk, hf, hrun, hrg, hlt, hgr, hsz, hen⟩
  · simp [execOp, hop, hit, hrun, Result.andThen]
    exact hK' _ _ (hDone hl)
  · simp [execOp, hop, hit, hrun, Result.andThen]
    exact hK' _ _ (hMore k v w' cnt' hlk hf hrg hlt hgr hsz hen)
end
end
end Go.Proofs.Ytkpngkdkkcadfaa.Mk
