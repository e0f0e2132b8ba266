import Derived.Below
import Derived.Laws.OwnMore
import Derived.Deep.AppendLies
import Derived.Deep.Draws
import Derived.Deep.OwnRows
import Derived.Laws.Rows
import Derived.Laws.AppendOwn
import Derived.Maps.AppendAt
import Derived.RegionTactic
import Derived.OwnWalk
import Derived.Maps.RangeWalk
import Derived.Maps.OwnSet
import Derived.Maps.Ext
import Derived.WalkKit
/- Words for memory, as the guide's page extra-words.md (and, of extra-small.md, section 4) gives them to be copied: a slice that reads as a list; a block that is known whole; append onto a row of one's own; only one block has turned. -/
namespace Go.Proofs.YtjofegjiakjjhaaDoor
open Go.RowKit

theorem block_of_add (a : Addr) (n : Nat) : (a.add n).block = a.block := by unfold Addr.add; split <;> rfl
theorem add_of_add (a : Addr) (i j : Nat) : (a.add i).add j = a.add (i + j) := by
  unfold Addr.add
  by_cases hi : i = 0 <;> by_cases hj : j = 0 <;> simp [hi, hj, Nat.add_assoc]

def Reads (w : World) (B size : Nat) (A : Option Addr) (n : Nat) (xs : List Value) : Prop :=
  xs.length = n * size ∧ (0 < n → ∃ ad, A = some ad ∧ ad.block < B ∧ ∀ j u, xs[j]? = some u → w.cell? (ad.add j) = some u)

section
variable {w w' : World} {B B' size n : Nat} {A : Option Addr} {xs : List Value}
theorem Reads.none_ : Reads w B size A 0 [] := ⟨by simp, fun h => absurd h (by omega)⟩
theorem Reads.at_ {k : Nat} (h : Reads w B 1 A n xs) (hk : k < n) : ∃ ad u, A = some ad ∧ ad.block < B ∧ xs[k]? = some u ∧ w.cell? (ad.add k) = some u := by
  obtain ⟨ad, e, hb, hc⟩ := h.2 (by omega)
  have hl : k < xs.length := by have := h.1; omega
  exact ⟨ad, xs[k], e, hb, List.getElem?_eq_getElem hl, hc k _ (List.getElem?_eq_getElem hl)⟩
theorem Reads.keep (h : Reads w B size A n xs) (hk : ∀ p : Addr, p.block < B → w'.cell? p = w.cell? p) : Reads w' B size A n xs :=
  ⟨h.1, fun hn => by
    obtain ⟨ad, e, hb, hc⟩ := h.2 hn
    exact ⟨ad, e, hb, fun j u hu => (hk _ (by rw [block_of_add]; exact hb)).trans (hc j u hu)⟩⟩
theorem Reads.more (h : Reads w B size A n xs) (hB : B ≤ B') : Reads w B' size A n xs :=
  ⟨h.1, fun hn => by
    obtain ⟨ad, e, hb, hc⟩ := h.2 hn
    exact ⟨ad, e, by omega, hc⟩⟩
theorem Reads.below (h : Reads w B size A n xs) (hb : Below B w w') : Reads w' B size A n xs := h.keep fun _ hp => hb.cell hp
theorem Reads.drew (h : Reads w B size A n xs) : Reads w.drew B size A n xs := h
theorem Reads.drewN (h : Reads w B size A n xs) (k : Nat) : Reads (w.drewN k) B size A n xs := h
theorem Reads.alloc (h : Reads w B size A n xs) (hB : B ≤ w.heap.size) (o : Obj) : Reads (w.alloc o) B size A n xs := h.keep fun p hp => World.cell?_alloc_lt w o p (by omega)
theorem Reads.setCell (h : Reads w B size A n xs) {p : Addr} (hB : B ≤ p.block) (u : Value) : Reads (w.setCell p u) B size A n xs :=
  h.keep fun q hq => World.cell?_setCell_other w p q u (fun e => by subst e; omega)
theorem Reads.grown (h : Reads w B size A n xs) {row : Option Nat} (hg : w.grownBy w' row) (hB : B ≤ w.heap.size) (hr : ∀ g, row = some g → B ≤ g) : Reads w' B size A n xs :=
  h.keep fun p hp => World.cell?_of_block (hg.block p.block (by omega) (fun e => by have := hr _ e.symm; omega))
theorem Reads.cut (h : Reads w B size A n xs) {k cap : Nat} (hk : k ≤ n) (hc : n ≤ cap) :
    Reads w B size (if cap = k then A else A.map (·.add (k * size))) (n - k) (xs.drop (k * size)) := by
  refine ⟨by rw [List.length_drop, h.1, Nat.sub_mul], fun hn => ?_⟩
  obtain ⟨ad, rfl, hb, hcell⟩ := h.2 (by omega)
  rw [if_neg (by omega)]
  refine ⟨ad.add (k * size), rfl, by rw [block_of_add]; exact hb, fun j u hu => ?_⟩
  rw [add_of_add]
  exact hcell _ u (by rw [← hu, List.getElem?_drop])
theorem Reads.of_own {base : Nat} {e : TypeId} {c : Nat} (h : w.ownsRow base e size (.slice A n c) n xs) : Reads w w.heap.size size A n xs := by
  refine ⟨h.1, fun hn => ?_⟩
  obtain ⟨g, cap, hv, _, hlt⟩ := h.form hn
  have hA : A = some ⟨g, 0, none⟩ := by injection hv
  subst hA
  exact ⟨_, rfl, hlt, h.cells (g := g) rfl⟩
end

def Blk (w : World) (g : Nat) (t : TypeId) (cs : Array Value) : Prop := w.heap[g]? = some (.cells cs t (0, 0))

section
variable {w w' : World} {g : Nat} {t : TypeId} {cs : Array Value}
theorem Blk.lt (h : Blk w g t cs) : g < w.heap.size := by
  rcases Nat.lt_or_ge g w.heap.size with hlt | hge
  · exact hlt
  · unfold Blk at h; rw [Array.getElem?_eq_none hge] at h; cases h
theorem Blk.cell (h : Blk w g t cs) (i : Nat) : w.cell? ⟨g, i, none⟩ = cs[i]? := cell_of_row w g i cs t (0, 0) h
theorem Blk.frozen (h : Blk w g t cs) (i : Nat) : w.frozen? ⟨g, i, none⟩ = false := by
  unfold Blk at h
  simp [World.frozen?, h]
theorem Blk.new (w : World) (t : TypeId) (cs : Array Value) : Blk (w.alloc (.cells cs t)) w.heap.size t cs := heap_alloc_new w _
theorem Blk.drew (h : Blk w g t cs) : Blk w.drew g t cs := h
theorem Blk.drewN (h : Blk w g t cs) (n : Nat) : Blk (w.drewN n) g t cs := h
theorem Blk.alloc (h : Blk w g t cs) (o : Obj) : Blk (w.alloc o) g t cs := (Below.heap_alloc w o g h.lt).trans h
theorem Blk.set_ (h : Blk w g t cs) (i : Nat) (u : Value) : Blk (w.setCell ⟨g, i, none⟩ u) g t (cs.setIfInBounds i u) := by
  unfold Blk at h ⊢
  simp [World.setCell, Array.getElem?_modify, h]
theorem Blk.far (h : Blk w g t cs) {p : Addr} (hp : g ≠ p.block) (u : Value) : Blk (w.setCell p u) g t cs := (Below.heap_setCell w p u g hp).trans h
theorem Blk.below {B : Nat} (h : Blk w g t cs) (hb : Below B w w') (hg : g < B) : Blk w' g t cs := (hb.block g hg).trans h
theorem Blk.grown {row : Option Nat} (h : Blk w g t cs) (hb : w.grownBy w' row) (hg : some g ≠ row) : Blk w' g t cs := (hb.block g h.lt hg).trans h
theorem Blk.ne_ {g' : Nat} {t' : TypeId} {cs' : Array Value} (h : Blk w g t cs) (h' : Blk w g' t' cs') (hne : t ≠ t') : g ≠ g' := by
  rintro rfl
  unfold Blk at h h'
  rw [h] at h'
  injection h' with h'
  injection h' with _ ht
  exact hne ht
theorem own_blk_ne {base : Nat} {e : TypeId} {size n : Nat} {v : Value} {xs : List Value} (h : w.ownsRow base e size v n xs) (hg : Blk w g t cs) (hne : e ≠ t) : v.ownBlock ≠ some g := by
  rcases h.2 with ⟨rfl, _⟩ | ⟨g', cap, cur, rfl, _, hh, _⟩
  · simp [Value.ownBlock]
  · intro he
    have : g' = g := by simpa [Value.ownBlock] using he
    subst this
    exact Blk.ne_ (t := e) hh hg hne rfl
end

section
variable {P : Program} (w : World)

theorem run_append_of_nil (base : Nat) (t ty e : TypeId) (i : TypeInfo) (size : Nat) (ht : P.underlying t = some (.slice e)) (hi : P.info? e = some i)
    (v : Value) (n : Nat) (xs : List Value) (hown : w.ownsRow base e size v n xs) (c : Nat) : (Builtin.append_ #[t, t] ty #[v, .slice none 0 c]).run P w = .ok v w := by
  rcases hown.2 with ⟨rfl, rfl⟩ | ⟨g, cap, cur, rfl, _, _, hnc, _⟩
  · simp [Builtin.append_, run_underlying ht, sizeOf, typeInfo, hi, Builtin.lenOf, Builtin.firstCells]
  · simp [Builtin.append_, run_underlying ht, sizeOf, typeInfo, hi, Builtin.lenOf, Builtin.firstCells, hnc, storeCells]

theorem run_append_any (base : Nat) (t ty e : TypeId) (i : TypeInfo) (z : Value) (size bytes : Nat) (ht : P.underlying t = some (.slice e)) (hi : P.info? e = some i) (hz : i.zero = some z)
    (hsize : i.size = size) (hby : i.bytes = bytes) (hzs : z.cells.size = size) (hsz : 0 < size)
    (v : Value) (n : Nat) (xs : List Value) (hown : w.ownsRow base e size v n xs)
    (B : Nat) (A : Option Addr) (m c : Nat) (news : List Value) (hr : Reads w B size A m news) (h1 : ∀ u ∈ news, u.oneCell' = true)
    (h63 : n + m ≤ maxLen) (hbytes : (n + m) * bytes ≤ 140737488355328) (hbase : base ≤ w.heap.size) :
    ∃ v' w', (Builtin.append_ #[t, t] ty #[v, .slice A m c]).run P w = .ok v' w' ∧ w'.ownsRow base e size v' (n + m) (xs ++ news) ∧ w.grownBy w' v.ownBlock ∧
      (v'.ownBlock = v.ownBlock ∨ v'.ownBlock = some w.heap.size) := by
  rcases A with _ | ad
  · have hm : m = 0 := by
      rcases Nat.eq_zero_or_pos m with h0 | h0
      · exact h0
      · obtain ⟨ad, h, _⟩ := hr.2 h0
        cases h
    subst hm
    have hn : news = [] := List.eq_nil_of_length_eq_zero (by simpa using hr.1)
    subst hn
    exact ⟨v, w, run_append_of_nil w base t ty e i size ht hi v n xs hown c, by simpa using hown, World.grownBy.refl w _, .inl rfl⟩
  · have hcells : ∀ j u, news[j]? = some u → w.cell? (ad.add j) = some u := by
      intro j u hu
      rcases Nat.eq_zero_or_pos m with h0 | h0
      · subst h0
        have hn : news = [] := List.eq_nil_of_length_eq_zero (by simpa using hr.1)
        subst hn
        simp at hu
      · obtain ⟨ad', h, _, hc⟩ := hr.2 h0
        injection h with h
        subst h
        exact hc j u hu
    obtain ⟨v', w', hrun, h2, h3, _, h5⟩ := run_append_own_at (P := P) w base t ty e i z size bytes ht hi hz hsize hby hzs hsz v n xs hown ad m c news hr.1 hcells h1 h63 hbytes hbase
    exact ⟨v', w', hrun, h2, h3, h5⟩

theorem wp_append_any {o : Oper} {a : Act} {K : Act → World → Prop} {Q : Exit → Act → World → Prop} (s x : Operand) (t : TypeId)
    (ho : o.op = .call { callee := .builtin .append, args := #[s, x], argTypes := #[t, t] })
    (base : Nat) (e : TypeId) (i : TypeInfo) (z : Value) (size bytes : Nat) (ht : P.underlying t = some (.slice e)) (hi : P.info? e = some i) (hz : i.zero = some z)
    (hsize : i.size = size) (hby : i.bytes = bytes) (hzs : z.cells.size = size) (hsz : 0 < size)
    (v : Value) (n : Nat) (xs : List Value) (hs : a.eval s = v) (hown : w.ownsRow base e size v n xs)
    (B : Nat) (A : Option Addr) (m c : Nat) (news : List Value) (hx : a.eval x = .slice A m c) (hr : Reads w B size A m news) (h1 : ∀ u ∈ news, u.oneCell' = true)
    (h63 : n + m ≤ maxLen) (hbytes : (n + m) * bytes ≤ 140737488355328) (hbase : base ≤ w.heap.size)
    (h : ∀ v' w', w'.ownsRow base e size v' (n + m) (xs ++ news) → w.grownBy w' v.ownBlock → (v'.ownBlock = v.ownBlock ∨ v'.ownBlock = some w.heap.size) → K (a.put o.dst v') w') : o.wp P a w K Q := by
  obtain ⟨v', w', hrun, h2, h3, h4⟩ := run_append_any (P := P) w base t o.type e i z size bytes ht hi hz hsize hby hzs hsz v n xs hown B A m c news hr h1 h63 hbytes hbase
  unfold Oper.wp execOp
  simp only [ho, resolve, invoke, builtin, Sem.run_bind, Sem.run_pure, Result.andThen_ok, List.map_toArray, List.map_cons, List.map_nil, hs, hx, hrun]
  exact h v' w' h2 h3 h4

theorem wpList_append_any {ops : Array Oper} {rest : List Oper} {o : Oper} {a : Act} {Q : Exit → Act → World → Prop} (hgd : o.guard = none) (s x : Operand) (t : TypeId)
    (ho : o.op = .call { callee := .builtin .append, args := #[s, x], argTypes := #[t, t] })
    (base : Nat) (e : TypeId) (i : TypeInfo) (z : Value) (size bytes : Nat) (ht : P.underlying t = some (.slice e)) (hi : P.info? e = some i) (hz : i.zero = some z)
    (hsize : i.size = size) (hby : i.bytes = bytes) (hzs : z.cells.size = size) (hsz : 0 < size)
    (v : Value) (n : Nat) (xs : List Value) (hs : a.eval s = v) (hown : w.ownsRow base e size v n xs)
    (B : Nat) (A : Option Addr) (m c : Nat) (news : List Value) (hx : a.eval x = .slice A m c) (hr : Reads w B size A m news) (h1 : ∀ u ∈ news, u.oneCell' = true)
    (h63 : n + m ≤ maxLen) (hbytes : (n + m) * bytes ≤ 140737488355328) (hbase : base ≤ w.heap.size)
    (h : ∀ v' w', w'.ownsRow base e size v' (n + m) (xs ++ news) → w.grownBy w' v.ownBlock → (v'.ownBlock = v.ownBlock ∨ v'.ownBlock = some w.heap.size) → wpList P ops Q rest (a.put o.dst v') w') : wpList P ops Q (o :: rest) a w :=
  wpList_plain hgd fun _ hK => wp_append_any w s x t ho base e i z size bytes ht hi hz hsize hby hzs hsz v n xs hs hown B A m c news hx hr h1 h63 hbytes hbase fun v' w' h2 h3 h4 => hK _ _ (h v' w' h2 h3 h4)

theorem step_append_any {ops : Array Oper} {o : Oper} {a : Act} {K : Act → World → Prop} {Q : Exit → Act → World → Prop} {E : Prop} (hgd : o.guard = none) (s x : Operand) (t : TypeId)
    (ho : o.op = .call { callee := .builtin .append, args := #[s, x], argTypes := #[t, t] })
    (base : Nat) (e : TypeId) (i : TypeInfo) (z : Value) (size bytes : Nat) (ht : P.underlying t = some (.slice e)) (hi : P.info? e = some i) (hz : i.zero = some z)
    (hsize : i.size = size) (hby : i.bytes = bytes) (hzs : z.cells.size = size) (hsz : 0 < size)
    (v : Value) (n : Nat) (xs : List Value) (hs : a.eval s = v) (hown : w.ownsRow base e size v n xs)
    (B : Nat) (A : Option Addr) (m c : Nat) (news : List Value) (hx : a.eval x = .slice A m c) (hr : Reads w B size A m news) (h1 : ∀ u ∈ news, u.oneCell' = true)
    (h63 : n + m ≤ maxLen) (hbytes : (n + m) * bytes ≤ 140737488355328) (hbase : base ≤ w.heap.size)
    (h : ∀ v' w', w'.ownsRow base e size v' (n + m) (xs ++ news) → w.grownBy w' v.ownBlock → (v'.ownBlock = v.ownBlock ∨ v'.ownBlock = some w.heap.size) → K (a.put o.dst v') w') :
    if Region.wanted o (yielded ops a.tmps) = true then Oper.wp P o a w K Q else E := by
  have hw : Region.wanted o (yielded ops a.tmps) = true := by simp [Region.wanted, hgd]
  rw [if_pos hw]
  exact wp_append_any w s x t ho base e i z size bytes ht hi hz hsize hby hzs hsz v n xs hs hown B A m c news hx hr h1 h63 hbytes hbase h
end

theorem below_drewN {B : Nat} {a w : World} (h : Below B a w) (n : Nat) : Below B a (w.drewN n) := ⟨h.os, h.tape, h.output, h.size, h.block⟩
theorem rowIs_drewN {w : World} {b : Nat} {t : TypeId} {n : Nat} {f : Nat → Value} (h : w.rowIs b t n f) (k : Nat) : (w.drewN k).rowIs b t n f := h
theorem grown_trans {a b c : World} (h : Grown a b) (k : Grown b c) : Grown a c :=
  ⟨World.keptBut_trans h.1 k.1, fun x => (k.2.1 x).trans (h.2.1 x), Nat.le_trans h.2.2 k.2.2⟩

theorem only_drewN {a w : World} {row : Option Nat} (h : a.grownBy w row) (n : Nat) : a.grownBy (w.drewN n) row := ⟨h.os, h.tape, h.output, h.size, h.block⟩
theorem only_drew {a w : World} {row : Option Nat} (h : a.grownBy w row) : a.grownBy w.drew row := ⟨h.os, h.tape, h.output, h.size, h.block⟩
theorem only_alloc {a w : World} {row : Option Nat} (h : a.grownBy w row) (o : Obj) : a.grownBy (w.alloc o) row :=
  ⟨h.os, h.tape, h.output, Nat.le_trans h.size (by simp), fun i hi hne => (Below.heap_alloc w o i (Nat.lt_of_lt_of_le hi h.size)).trans (h.block i hi hne)⟩
theorem only_setCell {a w : World} {g : Nat} (h : a.grownBy w (some g)) {p : Addr} (hp : p.block = g ∨ a.heap.size ≤ p.block) (u : Value) : a.grownBy (w.setCell p u) (some g) :=
  ⟨h.os, h.tape, h.output, by simpa [World.setCell] using h.size, fun i hi hne => (Below.heap_setCell w p u i (by
    rintro rfl
    rcases hp with hp | hp
    · exact hne (by rw [hp])
    · omega)).trans (h.block i hi hne)⟩
theorem only_of_below {a w : World} (h : Below a.heap.size a w) (row : Option Nat) : a.grownBy w row := ⟨h.os, h.tape, h.output, h.size, fun i hi _ => h.block i hi⟩

end Go.Proofs.YtjofegjiakjjhaaDoor
/- A map in memory as a function of its keys: what a look-up, a store, a deletion and a range do to it. Keys of an integer kind, elements of any shape that reads back. -/
namespace Go.Proofs.YtjofegjiakjjhaaDoor.Mf
open Go.RowKit
open Go.Maps (Keyed)

/-- How elements stand in memory and read as data. -/
structure Enc (E : Type) where
  val : E → Value
  dat : E → DataW Unit
  rd : Value → Option (DataW Unit × List MemPlace)
  rd_val : ∀ e, rd (val e) = some (dat e, [])
  rd_inv : ∀ v y, rd v = some y → ∃ e, v = val e ∧ y = (dat e, [])
  inj : ∀ e e', dat e = dat e' → e = e'

variable {E : Type}

/-- Block b is a map that holds just what f says. -/
def MapF (P : Program) (K : TypeId) (q : IntKind) (C : Enc E) (w : World) (b n : Nat) (f : Int → Option E) : Prop :=
  ∃ D, w.ownsMap P K C.rd b n D ∧ (∀ k, (Lit.int q k).wf = true → Maps.has D (.int q k) = (f k).isSome) ∧ (∀ k e, f k = some e → (Lit.int q k).wf = true ∧ ∀ z, D.atKey (.int q k) z = C.dat e)

section
variable {P : Program} {K : TypeId} {q : IntKind} {C : Enc E} {w w' : World} {b n : Nat} {f : Int → Option E}

theorem MapF.new (w : World) (P : Program) (K : TypeId) (q : IntKind) (C : Enc E) : MapF P K q C (w.alloc (.map #[] 0)) w.heap.size 0 (fun _ => none) :=
  ⟨_, World.ownsMap_made w P K C.rd, fun _ _ => rfl, fun _ _ h => by cases h⟩

theorem MapF.lt (h : MapF P K q C w b n f) : b < w.heap.size := by
  obtain ⟨D, h, _⟩ := h; exact h.lt

theorem MapF.mono (h : MapF P K q C w b n f) {n' : Nat} (hn : n ≤ n') : MapF P K q C w b n' f := by
  obtain ⟨D, h, r⟩ := h; exact ⟨D, h.mono hn, r⟩

theorem MapF.kept (h : MapF P K q C w b n f) {row : Option Nat} (hg : w.grownBy w' row) (hne : some b ≠ row) : MapF P K q C w' b n f := by
  obtain ⟨D, h, r⟩ := h; exact ⟨D, h.kept hg hne, r⟩

theorem MapF.below (h : MapF P K q C w b n f) {B : Nat} (hb : Below B w w') (hlt : b < B) : MapF P K q C w' b n f := by
  obtain ⟨D, ⟨es, clock, hh, r1⟩, r⟩ := h
  exact ⟨D, ⟨es, clock, (hb.block b hlt).trans hh, r1⟩, r⟩

theorem MapF.alloc (h : MapF P K q C w b n f) (o : Obj) : MapF P K q C (w.alloc o) b n f := by
  obtain ⟨D, h, r⟩ := h; exact ⟨D, h.alloc o, r⟩

theorem MapF.setCell (h : MapF P K q C w b n f) {a : Addr} (ha : b ≠ a.block) (u : Value) : MapF P K q C (w.setCell a u) b n f := by
  obtain ⟨D, h, r⟩ := h; exact ⟨D, h.setCell ha u, r⟩

theorem key_lit (k : Int) : WideAt.IsKeyLit (.int q k) := trivial

/-- 'm[k]', 'v, ok := m[k]': an equation on the operation's run. -/
theorem MapF.look (h : MapF P K q C w b n f) (c : Bool) (KK : Keyed P K) (hk : P.underlying K = some (.int q)) {t e : TypeId} (ht : P.underlying t = some (.map K e)) {z : Value} (hz : (zeroValue e).run P w = .ok z w) {k : Int} (hw : (Lit.int q k).wf = true) :
    (Instr.lookup t (.map (some b)) (.int q k) c).run P w = .ok (match f k with | some x => if c then .tuple #[C.val x, .bool true] else C.val x | none => if c then .tuple #[z, .bool false] else z) w := by
  obtain ⟨D, ⟨es, clock, hb, F, _, rfl⟩, h1, h2⟩ := h
  have hkey := Maps.keyOf_int_mk hk hw
  rcases Maps.fit_look c KK ht hz hb F hkey with ⟨hrun, _, hat⟩ | ⟨e0, y, _, _, hrun, hRv, hat, _⟩
  · have e1 := Maps.has_false_of_atKey hat
    rw [h1 k hw] at e1
    cases hf : f k with
    | none => exact hrun
    | some x => rw [hf] at e1; cases e1
  · have e1 := Maps.has_true_of_atKey hat
    rw [h1 k hw] at e1
    obtain ⟨x, hx, rfl⟩ := C.rd_inv _ _ hRv
    cases hf : f k with
    | none => rw [hf] at e1; cases e1
    | some x' =>
      have e2 := (h2 k x' hf).2 (.nil)
      rw [hat] at e2
      have e3 := C.inj _ _ e2
      subst e3
      rw [hx] at hrun
      exact hrun

/-- 'm[k] = v'. -/
theorem MapF.store (h : MapF P K q C w b n f) (KK : Keyed P K) (hk : P.underlying K = some (.int q)) {t e : TypeId} (ht : P.underlying t = some (.map K e)) (hn : n < maxLen) {k : Int} (hw : (Lit.int q k).wf = true) (x : E) :
    ∃ w', (Instr.mapUpdate t (.map (some b)) (.int q k) (C.val x)).run P w = .ok () w' ∧ MapF P K q C w' b (n + 1) (fun j => if j = k then some x else f j) ∧ w.mapTurned w' b := by
  obtain ⟨D, ho, h1, h2⟩ := h
  have hm := ho.isMap
  obtain ⟨w', hrun, ho', ht'⟩ := ho.store KK ht hn (Maps.keyOf_int_mk hk hw) (C.rd_val x)
  refine ⟨w', hrun, ⟨_, ho', fun j hj => ?_, fun j y hy => ?_⟩, ht'⟩
  · by_cases hjk : j = k
    · subst hjk
      rw [Maps.has_put_same hm (key_lit _)]; simp
    · rw [Maps.has_put_other (by intro e; injection e with _ e; exact hjk e), h1 j hj]; simp [hjk]
  · by_cases hjk : j = k
    · subst hjk
      simp at hy
      subst hy
      exact ⟨hw, fun z => Maps.atKey_put_same hm (key_lit _) _ _⟩
    · simp [hjk] at hy
      exact ⟨(h2 j y hy).1, fun z => by rw [Maps.atKey_put_other (by intro e; injection e with _ e; exact hjk e)]; exact (h2 j y hy).2 z⟩

/-- 'delete(m, k)'. -/
theorem MapF.drop (h : MapF P K q C w b n f) (KK : Keyed P K) (hk : P.underlying K = some (.int q)) {t e : TypeId} (ht : P.underlying t = some (.map K e)) {k : Int} (hw : (Lit.int q k).wf = true) (ty : TypeId) :
    ∃ w', (Builtin.delete_ #[t, K] ty #[.map (some b), .int q k]).run P w = .ok (.tuple #[]) w' ∧ MapF P K q C w' b n (fun j => if j = k then none else f j) ∧ w.mapTurned w' b := by
  obtain ⟨D, ho, h1, h2⟩ := h
  obtain ⟨w', hrun, ho', ht'⟩ := ho.drop KK ht (Maps.keyOf_int_mk hk hw) ty
  refine ⟨w', hrun, ⟨_, ho', fun j hj => ?_, fun j y hy => ?_⟩, ht'⟩
  · by_cases hjk : j = k
    · subst hjk
      rw [Maps.has_del_same]; simp
    · rw [Maps.has_del_other (by intro e; injection e with _ e; exact hjk e), h1 j hj]; simp [hjk]
  · by_cases hjk : j = k
    · subst hjk; simp at hy
    · simp [hjk] at hy
      exact ⟨(h2 j y hy).1, fun z => by rw [Maps.atKey_del_other (by intro e; injection e with _ e; exact hjk e)]; exact (h2 j y hy).2 z⟩

/-- Only this map has turned. -/
theorem turned_below {B : Nat} (h : w.mapTurned w' b) (hB : B ≤ b) : Below B w w' := by
  have hg := h.grown
  exact ⟨hg.os, hg.tape, hg.output, hg.size, fun k hk => by
    rcases Nat.lt_or_ge k w.heap.size with hlt | hge
    · exact hg.block k hlt (by intro e; injection e with e; omega)
    · obtain ⟨es, clock, es', clock', _, rfl⟩ := h
      simp [ChangeMaps.setBlock, Array.getElem?_setIfInBounds]
      intro e; omega⟩


/-- A range over such a map under way: which keys are still to come. -/
def RangesF (P : Program) (K : TypeId) (q : IntKind) (C : Enc E) (w : World) (b r n : Nat) (f : Int → Option E) (left : Int → Bool) (cnt : Nat) : Prop :=
  ∃ D lf, w.ranges P K C.rd b r n D lf cnt ∧ (∀ k, (Lit.int q k).wf = true → Maps.has D (.int q k) = (f k).isSome) ∧ (∀ k e, f k = some e → (Lit.int q k).wf = true ∧ ∀ z, D.atKey (.int q k) z = C.dat e) ∧
    (∀ k, lf (.int q k) = left k) ∧ (∀ k, left k = true → (f k).isSome)

theorem RangesF.owns {r cnt : Nat} {left : Int → Bool} (h : RangesF P K q C w b r n f left cnt) : MapF P K q C w b n f := by
  obtain ⟨D, lf, h, h1, h2, _⟩ := h
  exact ⟨D, h.owns, h1, h2⟩

theorem RangesF.left_eq {r cnt : Nat} {left : Int → Bool} (h : RangesF P K q C w b r n f left cnt) : w.rangeLeft b r = cnt := by
  obtain ⟨D, lf, h, _⟩ := h; exact h.left_eq

theorem RangesF.below {r cnt : Nat} {left : Int → Bool} (h : RangesF P K q C w b r n f left cnt) {B : Nat} (hb : Below B w w') (h1 : b < B) (h2 : r < B) : RangesF P K q C w' b r n f left cnt := by
  obtain ⟨D, lf, ⟨es, clock, since, seen, c0, hbk, F, hn, hD, hr, rest⟩, r1⟩ := h
  exact ⟨D, lf, ⟨es, clock, since, seen, c0, (hb.block b h1).trans hbk, F, hn, hD, (hb.block r h2).trans hr, rest⟩, r1⟩

theorem RangesF.lt {r cnt : Nat} {left : Int → Bool} (h : RangesF P K q C w b r n f left cnt) : b < w.heap.size ∧ r < w.heap.size := by
  have h0 := h.owns.lt
  obtain ⟨D, lf, h, _⟩ := h
  exact ⟨h0, h.lt⟩

theorem has_wf {D : DataW Unit} (ho : w.ownsMap P K C.rd b n D) (hk : P.underlying K = some (.int q)) {kl : Lit} (h : Maps.has D kl = true) (hl : WideAt.IsKeyLit kl) : ∃ k, kl = .int q k ∧ (Lit.int q k).wf = true := by
  obtain ⟨es, clock, hb, F, _, rfl⟩ := ho
  rw [Maps.has_eq, List.any_eq_true] at h
  obtain ⟨p, hp, hs⟩ := h
  have hp2 := mem_sorted.1 hp
  obtain ⟨x, hx, rfl⟩ := List.mem_map.1 hp2
  obtain ⟨y, hy⟩ := F.reads x hx
  have m1 := WideElems.rd_key hy
  rw [WideElems.rg_of hy] at hs
  obtain ⟨k, _, hkl, hwf⟩ := Maps.keyOf_int_inv hk m1
  rw [hkl] at hs
  have := (WideAt.sameKey_iff hl).1 hs
  exact ⟨k, this.symm, hwf⟩

theorem has_all {D : DataW Unit} (ho : w.ownsMap P K C.rd b n D) (hk : P.underlying K = some (.int q)) (h1 : ∀ k, (Lit.int q k).wf = true → Maps.has D (.int q k) = (f k).isSome)
    (h2 : ∀ k e, f k = some e → (Lit.int q k).wf = true ∧ ∀ z, D.atKey (.int q k) z = C.dat e) (k : Int) : Maps.has D (.int q k) = (f k).isSome := by
  cases hw : (Lit.int q k).wf with
  | true => exact h1 k hw
  | false =>
    have e1 : (f k).isSome = false := by
      cases hf : f k with
      | none => rfl
      | some e => have := (h2 k e hf).1; rw [hw] at this; cases this
    rw [e1]
    cases hh : Maps.has D (.int q k) with
    | false => rfl
    | true =>
      obtain ⟨k', hk', hw'⟩ := has_wf ho hk hh trivial
      injection hk' with _ hk'
      subst hk'
      rw [hw] at hw'; cases hw'

/-- How many entries there are: the keys, each once. -/
theorem MapF.keys (h : MapF P K q C w b n f) (KK : Keyed P K) (hk : P.underlying K = some (.int q)) {t e : TypeId} (ht : P.underlying t = some (.map K e)) :
    ∃ ks : List Int, ks.Pairwise (· ≠ ·) ∧ (∀ k, k ∈ ks ↔ (f k).isSome = true) ∧ ∀ ty, (Builtin.len_ #[t] ty #[.map (some b)]).run P w = .ok (.int .i64 (ks.length : Int)) w := by
  obtain ⟨D, ho, h1, h2⟩ := h
  have hall := has_all ho hk h1 h2
  have hlen := fun ty => ho.len ht ty
  obtain ⟨es, rfl, hp, hkey⟩ := ho.entries KK
  have hkeys : ∀ p ∈ es, ∃ k, p.1 = .int q k := fun p hp' => by
    have hh : Maps.has (.map es) p.1 = true := by
      rw [Maps.has_eq, List.any_eq_true]
      exact ⟨p, hp', WideAt.sameKey_self (hkey p hp')⟩
    obtain ⟨k, hk1, _⟩ := has_wf ho hk hh (hkey p hp')
    exact ⟨k, hk1⟩
  refine ⟨es.map fun p => (match p.1 with | .int _ k => k | _ => 0), ?_, fun k => ?_, fun ty => by rw [List.length_map]; exact hlen ty⟩
  · rw [List.pairwise_map]
    refine hp.imp_of_mem fun {x y} hx hy hne => ?_
    obtain ⟨a, ha⟩ := hkeys x hx
    obtain ⟨c, hc⟩ := hkeys y hy
    rw [ha, hc] at hne ⊢
    intro e
    exact hne (by simp at e; rw [e])
  · rw [← hall k, Maps.has_eq, List.any_eq_true, List.mem_map]
    constructor
    · rintro ⟨p, hp', e⟩
      obtain ⟨a, ha⟩ := hkeys p hp'
      rw [ha] at e
      simp at e
      subst e
      exact ⟨p, hp', by rw [ha]; exact WideAt.sameKey_self trivial⟩
    · rintro ⟨p, hp', e⟩
      have := (WideAt.sameKey_iff (key_lit (q := q) k)).1 e
      exact ⟨p, hp', by rw [this]⟩

section
variable {ops : Array Oper} {rest : List Oper} {o : Oper} {a : Act} {Q : Exit → Act → World → Prop}

/-- 'range m', at the operation. -/
theorem wpList_range_f (hg : o.guard = none) (m : Operand) (t : TypeId) (hop : o.op = Op.range t m) (e : TypeId) (KK : Keyed P K) (hk : P.underlying K = some (.int q)) (ht : P.underlying t = some (.map K e))
    (hm : a.eval m = .map (some b)) (h : MapF P K q C w b n f)
    (hK : ∀ w' cnt, RangesF P K q C w' b w.heap.size n f (fun k => (f k).isSome) cnt → w.grownBy w' none → w'.heap.size = w.heap.size + 1 → wpList P ops Q rest (a.put o.dst (.pointer (some ⟨w.heap.size, 0, none⟩))) w') :
    wpList P ops Q (o :: rest) a w := by
  obtain ⟨D, ho, h1, h2⟩ := h
  exact wpList_range_own w hg m t hop K e KK ht C.rd b n D hm ho fun w' hr hg' hs =>
    hK w' _ ⟨D, _, hr, h1, h2, has_all ho hk h1 h2, fun k hk => hk⟩ hg' hs

/-- The step. -/
theorem wpList_next_f {r cnt : Nat} {left : Int → Bool} (hg : o.guard = none) (it : Operand) (hop : o.op = Op.next it false) (KK : Keyed P K) (hk : P.underlying K = some (.int q))
    (hit : a.eval it = .pointer (some ⟨r, 0, none⟩)) (h : RangesF P K q C w b r n f left cnt)
    (hDone : (∀ k, left k = false) → wpList P ops Q rest (a.put o.dst (.tuple #[.bool false])) w)
    (hMore : ∀ (k : Int) (x : E) (w' : World) (cnt' : Nat), left k = true → f k = some x → (Lit.int q k).wf = true → RangesF P K q C w' b r n f (fun j => left j && !(j == k)) cnt' → cnt' < cnt →
      w.grownBy w' (some r) → w'.heap.size = w.heap.size → (Instr.entry (.pointer (some ⟨r, 0, none⟩))).run P w' = .ok (.tuple #[.int q k, C.val x]) w' → wpList P ops Q rest (a.put o.dst (.tuple #[.bool true, .int q k, C.val x])) w') :
    wpList P ops Q (o :: rest) a w := by
  obtain ⟨D, lf, hr, h1, h2, h3, h4⟩ := h
  refine wpList_next_ranges w hg it hop K KK C.rd (fun x : Int => Value.int q x) C.val (fun key kl hkl => ?_) (fun v y hv => ?_) b r n D lf cnt hit hr (fun _ hl => hDone fun k => by rw [← h3 k]; exact hl _) ?_
  · obtain ⟨x, hx, _⟩ := Maps.keyOf_int_inv hk hkl
    exact ⟨x, hx⟩
  · obtain ⟨x, hx, _⟩ := C.rd_inv _ _ hv
    exact ⟨x, hx⟩
  · intro k x kl y w' cnt' hkl hlk hy hat hrg hlt hgr hsz hen
    obtain ⟨k', e1, rfl, hw⟩ := Maps.keyOf_int_inv hk hkl
    injection e1 with _ e1
    subst e1
    have hl : left k = true := by rw [← h3 k]; exact hlk
    obtain ⟨x', hx'⟩ := Option.isSome_iff_exists.1 (h4 k hl)
    have e2 := (h2 k x' hx').2 .nil
    rw [hat] at e2
    rw [C.rd_val] at hy
    injection hy with hy
    subst hy
    have e3 := C.inj _ _ e2
    subst e3
    refine hMore k x w' cnt' hl hx' hw ⟨D, _, hrg, h1, h2, fun j => ?_, fun j hj => h4 j (by simp at hj; exact hj.1)⟩ hlt hgr hsz hen
    show (lf (.int q j) && !(Lit.int q j).sameKey (.int q k)) = _
    rw [h3 j]
    congr 2
    rw [Bool.eq_iff_iff, WideAt.sameKey_iff (key_lit (q := q) k), beq_iff_eq]
    exact ⟨fun e => by injection e, fun e => by rw [e]⟩
end
end
end Go.Proofs.YtjofegjiakjjhaaDoor.Mf
/- Which blocks may have turned: a word for what a call leaves as it was. -/
namespace Go.Proofs.YtjofegjiakjjhaaDoor
open Go.RowKit Mf

/-- Of the blocks that were there, those of S alone may have turned. -/
structure Only (S : Nat → Prop) (w w' : World) : Prop where
  os : w'.os = w.os
  tape : w'.tape = w.tape
  output : w'.output = w.output
  size : w.heap.size ≤ w'.heap.size
  block : ∀ k, k < w.heap.size → ¬ S k → w'.heap[k]? = w.heap[k]?

section
variable {S S' : Nat → Prop} {w w' w'' : World}
theorem Only.refl (S : Nat → Prop) (w : World) : Only S w w := ⟨rfl, rfl, rfl, Nat.le_refl _, fun _ _ _ => rfl⟩
theorem Only.trans (h : Only S w w') (k : Only S w' w'') : Only S w w'' :=
  ⟨k.os.trans h.os, k.tape.trans h.tape, k.output.trans h.output, Nat.le_trans h.size k.size, fun i hi hS => (k.block i (Nat.lt_of_lt_of_le hi h.size) hS).trans (h.block i hi hS)⟩
theorem Only.mono (h : Only S w w') (hS : ∀ k, S k → S' k) : Only S' w w' := ⟨h.os, h.tape, h.output, h.size, fun i hi hn => h.block i hi (fun hs => hn (hS i hs))⟩
theorem Only.mono' (h : Only S w w') (hS : ∀ k, k < w.heap.size → S k → S' k) : Only S' w w' := ⟨h.os, h.tape, h.output, h.size, fun i hi hn => h.block i hi (fun hs => hn (hS i hi hs))⟩
theorem Only.alloc (h : Only S w w') (o : Obj) : Only S w (w'.alloc o) :=
  ⟨h.os, h.tape, h.output, Nat.le_trans h.size (by simp), fun i hi hS => (Below.heap_alloc w' o i (Nat.lt_of_lt_of_le hi h.size)).trans (h.block i hi hS)⟩
theorem Only.drew (h : Only S w w') : Only S w w'.drew := ⟨h.os, h.tape, h.output, h.size, h.block⟩
theorem Only.drewN (h : Only S w w') (n : Nat) : Only S w (w'.drewN n) := ⟨h.os, h.tape, h.output, h.size, h.block⟩
theorem Only.setCell (h : Only S w w') {p : Addr} (hp : S p.block ∨ w.heap.size ≤ p.block) (u : Value) : Only S w (w'.setCell p u) :=
  ⟨h.os, h.tape, h.output, by simpa [World.setCell] using h.size, fun i hi hS => (Below.heap_setCell w' p u i (by
    rintro rfl
    rcases hp with hp | hp
    · exact hS hp
    · omega)).trans (h.block i hi hS)⟩
theorem Only.below {B : Nat} (h : Only S w w') (hb : Below B w' w'') (hB : ∀ k, k < w.heap.size → B ≤ k → S k) : Only S w w'' :=
  ⟨hb.os.trans h.os, hb.tape.trans h.tape, hb.output.trans h.output, Nat.le_trans h.size hb.size, fun i hi hS => (hb.block i (by
    rcases Nat.lt_or_ge i B with h1 | h1
    · exact h1
    · exact absurd (hB i hi h1) hS)).trans (h.block i hi hS)⟩
/-- Behind a call that makes memory alone. -/
theorem Only.new (h : Only S w w') (hb : Below w'.heap.size w' w'') : Only S w w'' := h.below hb (fun k hk hB => by have := h.size; omega)
theorem Only.grown (h : Only S w w') {row : Option Nat} (hg : w'.grownBy w'' row) (hr : ∀ g, row = some g → S g ∨ w.heap.size ≤ g) : Only S w w'' :=
  ⟨hg.os.trans h.os, hg.tape.trans h.tape, hg.output.trans h.output, Nat.le_trans h.size hg.size, fun i hi hS => (hg.block i (Nat.lt_of_lt_of_le hi h.size) (fun e => by
    rcases hr i e.symm with h1 | h1
    · exact hS h1
    · omega)).trans (h.block i hi hS)⟩
theorem Only.turned (h : Only S w w') {b : Nat} (hg : w'.mapTurned w'' b) (hr : S b ∨ w.heap.size ≤ b) : Only S w w'' := h.grown hg.grown (fun g e => by cases e; exact hr)
theorem Only.to_below (h : Only S w w') {B : Nat} (hS : ∀ k, S k → B ≤ k) (hB : B ≤ w.heap.size) : Below B w w' :=
  ⟨h.os, h.tape, h.output, h.size, fun k hk => h.block k (by omega) (fun hs => by have := hS k hs; omega)⟩
theorem only_below {B : Nat} (h : Below B w w') (hB : ∀ k, k < w.heap.size → B ≤ k → S k) : Only S w w' := (Only.refl S w).below h hB
theorem only_fresh (h : Below w.heap.size w w') : Only S w w' := (Only.refl S w).new h
theorem Only.cell (h : Only S w w') {p : Addr} (hp : p.block < w.heap.size) (hS : ¬ S p.block) : w'.cell? p = w.cell? p := World.cell?_of_block (w := w) (h.block p.block hp hS)
theorem Blk.only {g : Nat} {t : TypeId} {cs : Array Value} (h : Blk w g t cs) (ho : Only S w w') (hg : ¬ S g) : Blk w' g t cs := (ho.block g h.lt hg).trans h
theorem Mf.MapF.only {E : Type} {P : Program} {K : TypeId} {q : IntKind} {C : Enc E} {b n : Nat} {f : Int → Option E} (h : MapF P K q C w b n f) (ho : Only S w w') (hb : ¬ S b) : MapF P K q C w' b n f := by
  have hlt := h.lt
  obtain ⟨D, ⟨es, clock, hh, r1⟩, r⟩ := h
  exact ⟨D, ⟨es, clock, (ho.block b hlt hb).trans hh, r1⟩, r⟩
theorem Reads.only {B size n : Nat} {A : Option Addr} {xs : List Value} (h : Reads w B size A n xs) (ho : Only S w w') (hB : B ≤ w.heap.size) (hS : ∀ k, S k → B ≤ k) : Reads w' B size A n xs :=
  h.below (ho.to_below hS hB)
theorem Blk.not_map {g : Nat} {t : TypeId} {cs : Array Value} {E : Type} {P : Program} {K : TypeId} {q : IntKind} {C : Enc E} {n : Nat} {f : Int → Option E} (h : Blk w g t cs) {b : Nat} (hm : MapF P K q C w b n f) : g ≠ b := by
  rintro rfl
  obtain ⟨D, ⟨es, clock, hh, r1⟩, r⟩ := hm
  unfold Blk at h
  rw [h] at hh
  cases hh
end
end Go.Proofs.YtjofegjiakjjhaaDoor
/- Words for lists that a call builds: lengths, what reads, what is kept. -/
namespace Go.Proofs.YtjofegjiakjjhaaDoor
open Go.RowKit Mf

theorem sub_len {l m : List Int} (h : l.Pairwise (· ≠ ·)) (hs : ∀ k ∈ l, k ∈ m) : l.length ≤ m.length := by
  induction l generalizing m with
  | nil => exact Nat.zero_le _
  | cons x xs ih =>
    rw [List.pairwise_cons] at h
    have hx : x ∈ m := hs x (List.mem_cons_self)
    have := ih (m := m.erase x) h.2 (fun k hk => (List.mem_erase_of_ne (h.1 k hk).symm).2 (hs k (List.mem_cons_of_mem _ hk)))
    rw [List.length_erase_of_mem hx] at this
    have := List.length_pos_of_mem hx
    simp only [List.length_cons]
    omega

theorem wf_small {k : Nat} (h : k ≤ 1048576) : (Lit.int .i64 (k : Int)).wf = true := by
  simp only [Lit.wf, IntKind.min, IntKind.max, Bool.and_eq_true]
  constructor <;> simp [IntKind.bits, IntKind.signed] <;> omega

theorem reads_one (w : World) (o : Obj) (v : Value) (t : TypeId) : Reads ((w.alloc o).alloc (.cells #[v] t)) ((w.alloc o).alloc (.cells #[v] t)).heap.size 1 (some ⟨w.heap.size + 1, 0, none⟩) 1 [v] := by
  refine ⟨rfl, fun _ => ⟨_, rfl, by simp, fun j u hj => ?_⟩⟩
  cases j with
  | zero =>
    cases hj
    exact World.cell?_alloc_at _ _ _ _ (by simp)
  | succ j => cases hj

theorem ownsRow_mono {w : World} {base base' size n : Nat} {e : TypeId} {v : Value} {xs : List Value} (h : w.ownsRow base e size v n xs) (hb : base' ≤ base) : w.ownsRow base' e size v n xs := by
  obtain ⟨h1, h2⟩ := h
  refine ⟨h1, ?_⟩
  rcases h2 with h2 | ⟨g, cap, cur, e1, e2, e3⟩
  · exact .inl h2
  · exact .inr ⟨g, cap, cur, e1, Nat.le_trans hb e2, e3⟩

theorem reads_one1 (w : World) (v : Value) (t : TypeId) : Reads (w.alloc (.cells #[v] t)) (w.alloc (.cells #[v] t)).heap.size 1 (some ⟨w.heap.size, 0, none⟩) 1 [v] := by
  refine ⟨rfl, fun _ => ⟨_, rfl, by simp, fun j u hj => ?_⟩⟩
  cases j with
  | zero =>
    cases hj
    exact World.cell?_alloc_at _ _ _ _ (by simp)
  | succ j => cases hj

theorem own_below {w w' : World} {base size n : Nat} {e : TypeId} {v : Value} {xs : List Value} (h : w.ownsRow base e size v n xs) (hb : Below w.heap.size w w') : w'.ownsRow base e size v n xs :=
  h.kept (only_of_below hb none) (by cases v.ownBlock with | none => exact .inl rfl | some g => exact .inr (fun e => by cases e))


theorem own_only {S : Nat → Prop} {w w' : World} {base size n : Nat} {e : TypeId} {v : Value} {xs : List Value} (h : w.ownsRow base e size v n xs) (ho : Only S w w') (hS : ∀ k, S k → k < base) : w'.ownsRow base e size v n xs := by
  obtain ⟨h1, h2⟩ := h
  refine ⟨h1, ?_⟩
  rcases h2 with h2 | ⟨g, cap, cur, e1, e2, e3, e4⟩
  · exact .inl h2
  · have hlt : g < w.heap.size := (Array.getElem?_eq_some_iff.1 e3).1
    exact .inr ⟨g, cap, cur, e1, e2, (ho.block g hlt (fun hs => by have := hS g hs; omega)).trans e3, e4⟩
end Go.Proofs.YtjofegjiakjjhaaDoor
