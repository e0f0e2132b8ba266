/- A map in memory as a function of its keys, the keys of any kind that is coded (structs, arrays): as XMapf's. -/
import Derived.Test.YtdnfjpelhiniaaaMapf
namespace Go.Proofs.Ytdnfjpelhiniaaa.Mf
open Go.RowKit
open Go.Maps (Keyed)

/-- How keys stand in memory and read as letters. -/
structure Kc (P : Program) (K : TypeId) (κ : Type) where
  val : κ → Value
  lit : κ → Lit
  key : ∀ k, keyOf P K (val k) = some (lit k)
  inv : ∀ v l, keyOf P K v = some l → ∃ k, v = val k ∧ l = lit k
  inj : ∀ k k', lit k = lit k' → k = k'
  isKey : ∀ k, WideAt.IsKeyLit (lit k)

variable {E κ : Type}

/-- Block b is a map that holds just what f says. -/
def MapG (P : Program) (K : TypeId) (c : Kc P K κ) (C : Enc E) (w : World) (b n : Nat) (f : κ → Option E) : Prop :=
  ∃ D, w.ownsMap P K C.rd b n D ∧ (∀ k, Maps.has D (c.lit k) = (f k).isSome) ∧ (∀ k e, f k = some e → ∀ z, D.atKey (c.lit k) z = C.dat e)

section
variable {P : Program} {K : TypeId} {c : Kc P K κ} {C : Enc E} {w w' : World} {b n : Nat} {f : κ → Option E}

theorem MapG.new (w : World) (P : Program) (K : TypeId) (c : Kc P K κ) (C : Enc E) : MapG P K c C (w.alloc (.map #[] 0)) w.heap.size 0 (fun _ => none) :=
  ⟨_, World.ownsMap_made w P K C.rd, fun _ => rfl, fun _ _ h => by cases h⟩

theorem MapG.lt (h : MapG P K c C w b n f) : b < w.heap.size := by
  obtain ⟨D, h, _⟩ := h; exact h.lt

theorem MapG.mono (h : MapG P K c C w b n f) {n' : Nat} (hn : n ≤ n') : MapG P K c C w b n' f := by
  obtain ⟨D, h, r⟩ := h; exact ⟨D, h.mono hn, r⟩

theorem MapG.kept (h : MapG P K c C w b n f) {row : Option Nat} (hg : w.grownBy w' row) (hne : some b ≠ row) : MapG P K c C w' b n f := by
  obtain ⟨D, h, r⟩ := h; exact ⟨D, h.kept hg hne, r⟩

theorem MapG.below (h : MapG P K c C w b n f) {B : Nat} (hb : Below B w w') (hlt : b < B) : MapG P K c C w' b n f := by
  obtain ⟨D, ⟨es, clock, hh, r1⟩, r⟩ := h
  exact ⟨D, ⟨es, clock, (hb.block b hlt).trans hh, r1⟩, r⟩

theorem MapG.alloc (h : MapG P K c C w b n f) (o : Obj) : MapG P K c C (w.alloc o) b n f := by
  obtain ⟨D, h, r⟩ := h; exact ⟨D, h.alloc o, r⟩

/-- 'm[k]', 'v, ok := m[k]': an equation on the operation's run. -/
theorem MapG.look (h : MapG P K c C w b n f) (cm : Bool) (KK : Keyed P K) {t e : TypeId} (ht : P.underlying t = some (.map K e)) {z : Value} (hz : (zeroValue e).run P w = .ok z w) (k : κ) :
    (Instr.lookup t (.map (some b)) (c.val k) cm).run P w = .ok (match f k with | some x => if cm then .tuple #[C.val x, .bool true] else C.val x | none => if cm then .tuple #[z, .bool false] else z) w := by
  obtain ⟨D, ⟨es, clock, hb, F, _, rfl⟩, h1, h2⟩ := h
  rcases Maps.fit_look cm KK ht hz hb F (c.key k) with ⟨hrun, _, hat⟩ | ⟨e0, y, _, _, hrun, hRv, hat, _⟩
  · have e1 := Maps.has_false_of_atKey hat
    rw [h1 k] at e1
    cases hf : f k with
    | none => exact hrun
    | some x => rw [hf] at e1; cases e1
  · have e1 := Maps.has_true_of_atKey hat
    rw [h1 k] at e1
    obtain ⟨x, hx, rfl⟩ := C.rd_inv _ _ hRv
    cases hf : f k with
    | none => rw [hf] at e1; cases e1
    | some x' =>
      have e2 := h2 k x' hf (.nil)
      rw [hat] at e2
      have e3 := C.inj _ _ e2
      subst e3
      rw [hx] at hrun
      exact hrun

/-- 'm[k] = v'. -/
theorem MapG.store [DecidableEq κ] (h : MapG P K c C w b n f) (KK : Keyed P K) {t e : TypeId} (ht : P.underlying t = some (.map K e)) (hn : n < maxLen) (k : κ) (x : E) :
    ∃ w', (Instr.mapUpdate t (.map (some b)) (c.val k) (C.val x)).run P w = .ok () w' ∧ MapG P K c C w' b (n + 1) (fun j => if j = k then some x else f j) ∧ w.mapTurned w' b := by
  obtain ⟨D, ho, h1, h2⟩ := h
  have hm := ho.isMap
  obtain ⟨w', hrun, ho', ht'⟩ := ho.store KK ht hn (c.key k) (C.rd_val x)
  refine ⟨w', hrun, ⟨_, ho', fun j => ?_, fun j y hy => ?_⟩, ht'⟩
  · by_cases hjk : j = k
    · subst hjk
      rw [Maps.has_put_same hm (c.isKey _)]; simp
    · rw [Maps.has_put_other (fun e => hjk (c.inj _ _ e)), h1 j]; simp [hjk]
  · by_cases hjk : j = k
    · subst hjk
      simp at hy
      subst hy
      exact fun z => Maps.atKey_put_same hm (c.isKey _) _ _
    · simp [hjk] at hy
      exact fun z => by rw [Maps.atKey_put_other (fun e => hjk (c.inj _ _ e))]; exact h2 j y hy z

/-- 'delete(m, k)'. -/
theorem MapG.drop [DecidableEq κ] (h : MapG P K c C w b n f) (KK : Keyed P K) {t e : TypeId} (ht : P.underlying t = some (.map K e)) (k : κ) (ty : TypeId) :
    ∃ w', (Builtin.delete_ #[t, K] ty #[.map (some b), c.val k]).run P w = .ok (.tuple #[]) w' ∧ MapG P K c C w' b n (fun j => if j = k then none else f j) ∧ w.mapTurned w' b := by
  obtain ⟨D, ho, h1, h2⟩ := h
  obtain ⟨w', hrun, ho', ht'⟩ := ho.drop KK ht (c.key k) ty
  refine ⟨w', hrun, ⟨_, ho', fun j => ?_, fun j y hy => ?_⟩, ht'⟩
  · by_cases hjk : j = k
    · subst hjk
      rw [Maps.has_del_same]; simp
    · rw [Maps.has_del_other (fun e => hjk (c.inj _ _ e)), h1 j]; simp [hjk]
  · by_cases hjk : j = k
    · subst hjk; simp at hy
    · simp [hjk] at hy
      exact fun z => by rw [Maps.atKey_del_other (fun e => hjk (c.inj _ _ e))]; exact h2 j y hy z

theorem has_code {D : DataW Unit} (ho : w.ownsMap P K C.rd b n D) {kl : Lit} (h : Maps.has D kl = true) (hl : WideAt.IsKeyLit kl) : ∃ k, kl = c.lit k := by
  obtain ⟨es, clock, hb, F, _, rfl⟩ := ho
  rw [Maps.has_eq, List.any_eq_true] at h
  obtain ⟨p, hp, hs⟩ := h
  have hp2 := mem_sorted.1 hp
  obtain ⟨x, hx, rfl⟩ := List.mem_map.1 hp2
  obtain ⟨y, hy⟩ := F.reads x hx
  have m1 := WideElems.rd_key hy
  rw [WideElems.rg_of hy] at hs
  obtain ⟨k, _, hkl⟩ := c.inv _ _ m1
  rw [hkl] at hs
  exact ⟨k, ((WideAt.sameKey_iff hl).1 hs).symm⟩

/-- How many entries there are: the keys, each once. -/
theorem MapG.keys (h : MapG P K c C w b n f) (KK : Keyed P K) {t e : TypeId} (ht : P.underlying t = some (.map K e)) :
    ∃ ks : List κ, ks.Pairwise (· ≠ ·) ∧ (∀ k, k ∈ ks ↔ (f k).isSome = true) ∧ ks.length ≤ n ∧ ∀ ty, (Builtin.len_ #[t] ty #[.map (some b)]).run P w = .ok (.int .i64 (ks.length : Int)) w := by
  obtain ⟨D, ho, h1, h2⟩ := h
  have hlen := fun ty => ho.len ht ty
  have hle := ho.size_le
  obtain ⟨es, rfl, hp, hkey⟩ := ho.entries KK
  have hkeys : ∀ p ∈ es, ∃ k, p.1 = c.lit k := fun p hp' => by
    have hh : Maps.has (.map es) p.1 = true := by
      rw [Maps.has_eq, List.any_eq_true]
      exact ⟨p, hp', WideAt.sameKey_self (hkey p hp')⟩
    exact has_code ho hh (hkey p hp')
  have hks : ∃ ks : List κ, ks.map c.lit = es.map (·.1) := by
    clear ho hp h1 h2 hlen hkey hle
    induction es with
    | nil => exact ⟨[], rfl⟩
    | cons p es ih =>
      obtain ⟨ks, hks⟩ := ih (fun q hq => hkeys q (List.mem_cons_of_mem _ hq))
      obtain ⟨k, hk⟩ := hkeys p (List.mem_cons_self ..)
      exact ⟨k :: ks, by rw [List.map_cons, List.map_cons, hks, hk]⟩
  obtain ⟨ks, hks⟩ := hks
  have hl : ks.length = es.length := by have := congrArg List.length hks; simpa using this
  refine ⟨ks, ?_, fun k => ?_, by rw [hl]; exact hle, fun ty => by rw [hl]; exact hlen ty⟩
  · have h5 : (es.map (·.1)).Pairwise (· ≠ ·) := by rw [List.pairwise_map]; exact hp
    rw [← hks, List.pairwise_map] at h5
    exact h5.imp fun hne e => hne (by rw [e])
  · rw [← h1 k, Maps.has_eq, List.any_eq_true]
    constructor
    · intro hk
      have : c.lit k ∈ es.map (·.1) := by rw [← hks]; exact List.mem_map.2 ⟨k, hk, rfl⟩
      obtain ⟨p, hp', e⟩ := List.mem_map.1 this
      exact ⟨p, hp', by rw [e]; exact WideAt.sameKey_self (c.isKey k)⟩
    · rintro ⟨p, hp', e⟩
      have e2 := (WideAt.sameKey_iff (c.isKey k)).1 e
      have : c.lit k ∈ ks.map c.lit := by rw [hks]; exact List.mem_map.2 ⟨p, hp', e2⟩
      obtain ⟨k', hk', e3⟩ := List.mem_map.1 this
      rw [← c.inj _ _ e3]; exact hk'

/-- A range over such a map under way: which keys are still to come. -/
def RangesG (P : Program) (K : TypeId) (c : Kc P K κ) (C : Enc E) (w : World) (b r n : Nat) (f : κ → Option E) (left : κ → Bool) (cnt : Nat) : Prop :=
  ∃ D lf, w.ranges P K C.rd b r n D lf cnt ∧ (∀ k, Maps.has D (c.lit k) = (f k).isSome) ∧ (∀ k e, f k = some e → ∀ z, D.atKey (c.lit k) z = C.dat e) ∧
    (∀ k, lf (c.lit k) = left k) ∧ (∀ k, left k = true → (f k).isSome)

theorem RangesG.owns {r cnt : Nat} {left : κ → Bool} (h : RangesG P K c C w b r n f left cnt) : MapG P K c C w b n f := by
  obtain ⟨D, lf, h, h1, h2, _⟩ := h
  exact ⟨D, h.owns, h1, h2⟩

theorem RangesG.left_eq {r cnt : Nat} {left : κ → Bool} (h : RangesG P K c C w b r n f left cnt) : w.rangeLeft b r = cnt := by
  obtain ⟨D, lf, h, _⟩ := h; exact h.left_eq

theorem RangesG.below {r cnt : Nat} {left : κ → Bool} (h : RangesG P K c C w b r n f left cnt) {B : Nat} (hb : Below B w w') (h1 : b < B) (h2 : r < B) : RangesG P K c C w' b r n f left cnt := by
  obtain ⟨D, lf, ⟨es, clock, since, seen, c0, hbk, F, hn, hD, hr, rest⟩, r1⟩ := h
  exact ⟨D, lf, ⟨es, clock, since, seen, c0, (hb.block b h1).trans hbk, F, hn, hD, (hb.block r h2).trans hr, rest⟩, r1⟩

theorem RangesG.lt {r cnt : Nat} {left : κ → Bool} (h : RangesG P K c C w b r n f left cnt) : b < w.heap.size ∧ r < w.heap.size := by
  have h0 := h.owns.lt
  obtain ⟨D, lf, h, _⟩ := h
  exact ⟨h0, h.lt⟩

section
variable {ops : Array Oper} {rest : List Oper} {o : Oper} {a : Act} {Q : Exit → Act → World → Prop}

/-- 'range m', at the operation. -/
theorem wpList_range_g (hg : o.guard = none) (m : Operand) (t : TypeId) (hop : o.op = Op.range t m) (e : TypeId) (KK : Keyed P K) (ht : P.underlying t = some (.map K e))
    (hm : a.eval m = .map (some b)) (h : MapG P K c C w b n f)
    (hK : ∀ w' cnt, RangesG P K c C w' b w.heap.size n f (fun k => (f k).isSome) cnt → w.grownBy w' none → w'.heap.size = w.heap.size + 1 → wpList P ops Q rest (a.put o.dst (.pointer (some ⟨w.heap.size, 0, none⟩))) w') :
    wpList P ops Q (o :: rest) a w := by
  obtain ⟨D, ho, h1, h2⟩ := h
  exact wpList_range_own w hg m t hop K e KK ht C.rd b n D hm ho fun w' hr hg' hs =>
    hK w' _ ⟨D, _, hr, h1, h2, h1, fun k hk => hk⟩ hg' hs

/-- The step. -/
theorem wpList_next_g [DecidableEq κ] {r cnt : Nat} {left : κ → Bool} (hg : o.guard = none) (it : Operand) (hop : o.op = Op.next it false) (KK : Keyed P K)
    (hit : a.eval it = .pointer (some ⟨r, 0, none⟩)) (h : RangesG P K c C w b r n f left cnt)
    (hDone : (∀ k, left k = false) → wpList P ops Q rest (a.put o.dst (.tuple #[.bool false])) w)
    (hMore : ∀ (k : κ) (x : E) (w' : World) (cnt' : Nat), left k = true → f k = some x → RangesG P K c C w' b r n f (fun j => left j && !(decide (j = k))) cnt' → cnt' < cnt →
      w.grownBy w' (some r) → w'.heap.size = w.heap.size → (Instr.entry (.pointer (some ⟨r, 0, none⟩))).run P w' = .ok (.tuple #[c.val k, C.val x]) w' → wpList P ops Q rest (a.put o.dst (.tuple #[.bool true, c.val k, C.val x])) w') :
    wpList P ops Q (o :: rest) a w := by
  obtain ⟨D, lf, hr, h1, h2, h3, h4⟩ := h
  refine wpList_next_ranges w hg it hop K KK C.rd c.val C.val (fun key kl hkl => ?_) (fun v y hv => ?_) b r n D lf cnt hit hr (fun _ hl => hDone fun k => by rw [← h3 k]; exact hl _) ?_
  · obtain ⟨x, hx, _⟩ := c.inv _ _ hkl
    exact ⟨x, hx⟩
  · obtain ⟨x, hx, _⟩ := C.rd_inv _ _ hv
    exact ⟨x, hx⟩
  · intro k x kl y w' cnt' hkl hlk hy hat hrg hlt hgr hsz hen
    have e0 := c.key k
    rw [hkl] at e0
    injection e0 with e0
    subst e0
    have hl : left k = true := by rw [← h3 k]; exact hlk
    obtain ⟨x', hx'⟩ := Option.isSome_iff_exists.1 (h4 k hl)
    have e2 := h2 k x' hx' .nil
    rw [hat] at e2
    rw [C.rd_val] at hy
    injection hy with hy
    subst hy
    have e3 := C.inj _ _ e2
    subst e3
    refine hMore k x w' cnt' hl hx' ⟨D, _, hrg, h1, h2, fun j => ?_, fun j hj => h4 j (by simp at hj; exact hj.1)⟩ hlt hgr hsz hen
    show (lf (c.lit j) && !(c.lit j).sameKey (c.lit k)) = _
    rw [h3 j]
    congr 2
    rw [Bool.eq_iff_iff, WideAt.sameKey_iff (c.isKey k), decide_eq_true_eq]
    exact ⟨fun e => c.inj _ _ e, fun e => by rw [e]⟩
end
end
end Go.Proofs.Ytdnfjpelhiniaaa.Mf
