/- The library's BinarySearch, Delete and Insert of ints, off the kit's shelf, over slices that the call owns. -/
import Derived.Test.YtmmjkebhcihjlaaRows
import Derived.Test.YtmmjkebhcihjlaaMem
import Derived.Ground.Names2Prog
import Derived.Shelf.Lay
import Derived.Shelf.Slices.SearchI
import Derived.Shelf.Slices.Delete
import Derived.Shelf.Slices.Empties
import Derived.Shelf.Spec.SlicesInsertGrow
import Derived.Sort.OwnSortedInts
namespace Go.Proofs
open Go.Shelf
def Try.lays225_ren : Go.Shelf.Ren := ⟨fun | 25 => 24 | 31 => 30 | 32 => 31 | 37 => 36 | n => n, fun | 22 => 47 | 3 => 3 | 4 => 4 | 40 => 35 | 0 => 0 | n => n, fun | n => n⟩
theorem Try.lays225 : Go.Proofs.Lays2.n25 Try.prog Try.lays225_ren where
  mixed := by kernel_rfl
  f25 := Try.func24.trans (congrArg some (by kernel_rfl))
  f31 := Try.func30.trans (congrArg some (by kernel_rfl))
  f32 := Try.func31.trans (congrArg some (by kernel_rfl))
  f37 := Try.func36.trans (congrArg some (by kernel_rfl))
  t0 := Try.underlying0
  a0 := Try.isAgg0
  z0 := Try.sizeOf0
  v0 := Try.zeroValue0
  t3 := Try.underlying3
  a3 := Try.isAgg3
  z3 := Try.sizeOf3
  v3 := Try.zeroValue3
  t4 := Try.underlying4
  a4 := Try.isAgg4
  z4 := Try.sizeOf4
  v4 := Try.zeroValue4
  t22 := Try.underlying47
  a22 := Try.isAgg47
  z22 := Try.sizeOf47
  v22 := Try.zeroValue47
  t40 := Try.underlying35
  a40 := Try.isAgg35
  z40 := Try.sizeOf35
  v40 := Try.zeroValue35

def Try.lays223_ren : Go.Shelf.Ren := ⟨fun | 23 => 28 | n => n, fun | 22 => 47 | 3 => 3 | 4 => 4 | 0 => 0 | n => n, fun | n => n⟩
theorem Try.lays223 : Go.Proofs.Lays2.n23 Try.prog Try.lays223_ren where
  mixed := by kernel_rfl
  f23 := Try.func28.trans (congrArg some (by kernel_rfl))
  t0 := Try.underlying0
  a0 := Try.isAgg0
  z0 := Try.sizeOf0
  v0 := Try.zeroValue0
  t3 := Try.underlying3
  a3 := Try.isAgg3
  z3 := Try.sizeOf3
  v3 := Try.zeroValue3
  t4 := Try.underlying4
  a4 := Try.isAgg4
  z4 := Try.sizeOf4
  v4 := Try.zeroValue4
  t22 := Try.underlying47
  a22 := Try.isAgg47
  z22 := Try.sizeOf47
  v22 := Try.zeroValue47
  i3 := by kernel_rfl

def Try.lays221_ren : Go.Shelf.Ren := ⟨fun | 21 => 29 | 27 => 34 | 28 => 35 | 35 => 47 | 39 => 53 | n => n, fun | 22 => 47 | 3 => 3 | 4 => 4 | 0 => 0 | n => n, fun | n => n⟩
theorem Try.lays221 : Go.Proofs.Lays2.n21 Try.prog Try.lays221_ren where
  mixed := by kernel_rfl
  f21 := Try.func29.trans (congrArg some (by kernel_rfl))
  f27 := Try.func34.trans (congrArg some (by kernel_rfl))
  f28 := Try.func35.trans (congrArg some (by kernel_rfl))
  f35 := Try.func47.trans (congrArg some (by kernel_rfl))
  f39 := Try.func53.trans (congrArg some (by kernel_rfl))
  t0 := Try.underlying0
  a0 := Try.isAgg0
  z0 := Try.sizeOf0
  v0 := Try.zeroValue0
  t3 := Try.underlying3
  a3 := Try.isAgg3
  z3 := Try.sizeOf3
  v3 := Try.zeroValue3
  t4 := Try.underlying4
  a4 := Try.isAgg4
  z4 := Try.sizeOf4
  v4 := Try.zeroValue4
  t22 := Try.underlying47
  a22 := Try.isAgg47
  z22 := Try.sizeOf47
  v22 := Try.zeroValue47
  i3 := by kernel_rfl

open Go.Sort Go.RowKit Go.Proofs.Ytmmjkebhcihjlaa
abbrev iv : Int → Value := Value.int .i64

/-- slices.BinarySearch of a slice of one's own, rising. -/
theorem bs_own (base : Nat) (e : TypeId) (v : Value) (xs : List Int) (x : Int) (w : World) (h : w.ownsRow base e 1 v xs.length (xs.map iv)) (hs : xs.Pairwise (· < ·)) (hn : xs.length ≤ 4000000) :
    Calls Try.prog 24 #[v, .int .i64 x] w fun e w' => e = .returned (.tuple #[.int .i64 (xs.countP (· < x) : Nat), .bool (xs.contains x)]) ∧ ∃ q, w' = w.drewN q := by
  rcases h.2 with ⟨rfl, h0⟩ | ⟨g, cap, cur, rfl, _⟩
  · have e0 : xs = [] := List.eq_nil_of_length_eq_zero h0
    subst e0
    refine (Any.slices_BinarySearch_int_empty Try.lays225 none 0 x w).mono ?_
    rintro e w' ⟨rfl, rfl⟩
    exact ⟨rfl, 0, rfl⟩
  · have := Any.slices_BinarySearch_int Try.lays225 g 0 xs.length cap xs x w (Nat.le_refl _) (by omega) (fun j hj => by
      rw [Nat.zero_add, h.cellAt j (by omega), List.getElem?_map, List.getElem?_eq_getElem hj, List.getD_eq_getElem?_getD, List.getElem?_eq_getElem hj]; rfl)
      (by rw [List.take_length]; exact hs.imp fun h => Int.le_of_lt h)
    rw [List.take_length] at this
    exact this

/-- A slice of one's own, cut shorter, or longer into its room. -/
theorem own_short {w : World} {base g n m cap : Nat} {e : TypeId} {xs : List Value} (h : w.ownsRow base e 1 (.slice (some ⟨g, 0, none⟩) n cap) n xs) (hm : m ≤ n) : w.ownsRow base e 1 (.slice (some ⟨g, 0, none⟩) m cap) m (xs.take m) := by
  have hl := h.1
  rcases h.2 with ⟨h1, _⟩ | ⟨g', cap', cur, h1, h2, h3, h4, h5, h6, h7⟩
  · cases h1
  · injection h1 with h1 _ h8
    injection h1 with h1
    injection h1 with h1
    subst h1 h8
    refine ⟨by rw [List.length_take]; omega, .inr ⟨g, cap, cur, rfl, h2, h3, by omega, h5, h6, ?_⟩⟩
    rw [← h7, List.take_take, Nat.mul_one, Nat.mul_one, Nat.min_eq_left hm]
theorem own_more {w : World} {base g n cap : Nat} {e : TypeId} {xs : List Value} (h : w.ownsRow base e 1 (.slice (some ⟨g, 0, none⟩) n cap) n xs) (hm : n < cap) : ∃ z, w.ownsRow base e 1 (.slice (some ⟨g, 0, none⟩) (n + 1) cap) (n + 1) (xs ++ [z]) := by
  have hl := h.1
  rcases h.2 with ⟨h1, _⟩ | ⟨g', cap', cur, h1, h2, h3, h4, h5, h6, h7⟩
  · cases h1
  · injection h1 with h1 _ h8
    injection h1 with h1
    injection h1 with h1
    subst h1 h8
    have hs : n < cur.size := by omega
    refine ⟨cur[n], by simp; omega, .inr ⟨g, cap, cur, rfl, h2, h3, by omega, h5, h6, ?_⟩⟩
    rw [Nat.mul_one] at h7 ⊢
    rw [List.take_succ_eq_append_getElem (by simpa using hs), h7]
    simp
theorem own_cap {w : World} {base g n cap : Nat} {e : TypeId} {xs : List Value} (h : w.ownsRow base e 1 (.slice (some ⟨g, 0, none⟩) n cap) n xs) : n ≤ cap ∧ cap ≤ maxLen ∧ base ≤ g ∧ w.shape? g = some (e, cap) ∧ (∀ j, j < cap → (w.cell? ⟨g, j, none⟩).isSome = true) := by
  rcases h.2 with ⟨h1, _⟩ | ⟨g', cap', cur, h1, h2, h3, h4, h5, h6, h7⟩
  · cases h1
  · injection h1 with h1 _ h8
    injection h1 with h1
    injection h1 with h1
    subst h1 h8
    refine ⟨h4, h5, h2, by simp [World.shape?, h3]; omega, fun j hj => ?_⟩
    simp [World.cell?, h3]
    omega

theorem own_setCells {base g n cap : Nat} {e : TypeId} : ∀ (vs : List Value) (o : Nat) (w : World) (xs : List Value), w.ownsRow base e 1 (.slice (some ⟨g, 0, none⟩) n cap) n xs → o + vs.length ≤ n →
    (w.setCells g o vs).ownsRow base e 1 (.slice (some ⟨g, 0, none⟩) n cap) n (xs.take o ++ (vs ++ xs.drop (o + vs.length))) ∧ w.grownBy (w.setCells g o vs) (some g)
  | [], o, w, xs, h, _ => ⟨by rw [show w.setCells g o [] = w from rfl]; simpa using h, World.grownBy.refl _ _⟩
  | v :: r, o, w, xs, h, hl => by
    have h1 := h.stored o v
    have hx : xs.length = n := by have := h.1; simpa using this
    simp only [List.length_cons] at hl
    have ih := own_setCells r (o + 1) _ _ h1.1 (by omega)
    refine ⟨?_, ?_⟩
    · have e : (xs.set o v).take (o + 1) ++ (r ++ (xs.set o v).drop (o + 1 + r.length)) = xs.take o ++ (v :: r ++ xs.drop (o + (v :: r).length)) := by
        rw [List.drop_set_of_lt (by omega), List.take_set, List.take_succ_eq_append_getElem (by omega), List.set_append_right _ _ (by simp; omega)]
        simp [Nat.min_eq_left (show o ≤ xs.length by omega), Nat.add_comm, Nat.add_left_comm]
      rw [← e]
      exact ih.1
    · have a := h1.2
      have b := ih.2
      exact ⟨b.os.trans a.os, b.tape.trans a.tape, b.output.trans a.output, Nat.le_trans a.size b.size, fun k hk hne => (b.block k (Nat.lt_of_lt_of_le hk a.size) hne).trans (a.block k hk hne)⟩

/-- slices.Delete of one element. -/
theorem del_own (base : Nat) (e : TypeId) (v : Value) (xs : List Int) (i : Nat) (w : World) (h : w.ownsRow base e 1 v xs.length (xs.map iv)) (hi : i < xs.length) :
    Calls Try.prog 28 #[v, .int .i64 i, .int .i64 (i + 1 : Nat)] w fun x w' => ∃ v', x = .returned v' ∧ w'.ownsRow base e 1 v' (xs.length - 1) ((xs.take i ++ xs.drop (i + 1)).map iv) ∧ w.grownBy w' v.ownBlock ∧ v'.ownBlock = v.ownBlock := by
  rcases h.2 with ⟨rfl, h0⟩ | ⟨g, cap, cur, rfl, hg, hh, h1, h2, h3, h4⟩
  · omega
  · rw [Nat.mul_one] at h4
    refine (Any.slices_Delete_int Try.lays223 g 0 cap i (i + 1) xs w (holds_of_blockI hh h4) h1 (by unfold maxLen at h2; omega) (by omega) hi).mono ?_
    rintro x w' ⟨rfl, q, rfl⟩
    have hl : (xs.take i ++ xs.drop (i + 1) ++ List.replicate (i + 1 - i) 0).length = xs.length := by simp; omega
    have ho := ownsRow_sortedI (w := w) (g := g) (cap := cap) (n := q) (e := e) (os := #[]) (cur := cur) (ss := xs) (ts := xs.take i ++ xs.drop (i + 1) ++ List.replicate (i + 1 - i) 0) hl hg hh h1 h2 h3
    have hgr := grownBy_sortedI (w := w) (g := g) (n := q) (os := #[]) (xs.take i ++ xs.drop (i + 1) ++ List.replicate (i + 1 - i) 0).toArray
    have eg : ∀ W : World, Go.Sort.grow W #[] = W := fun W => by simp [Go.Sort.grow]
    rw [eg] at ho hgr
    refine ⟨.slice (some ⟨g, 0, none⟩) (xs.length - 1) cap, by rw [show i + 1 - i = 1 by omega], ?_, hgr, rfl⟩
    have hs := own_short ho (show xs.length - 1 ≤ xs.length by omega)
    have e1 : List.take (xs.length - 1) ((xs.take i ++ xs.drop (i + 1) ++ List.replicate (i + 1 - i) 0).map (Value.int .i64)) = (xs.take i ++ xs.drop (i + 1)).map (Value.int .i64) := by
      rw [List.map_append]
      exact List.take_left' (by simp; omega)
    rw [e1] at hs
    exact hs

theorem grownBy_tr3 {w w1 w2 w3 : World} {r : Option Nat} (h : w.grownBy w1 r) (k : w1.grownBy w2 r) (l : w2.grownBy w3 r) : w.grownBy w3 r :=
  ⟨l.os.trans (k.os.trans h.os), l.tape.trans (k.tape.trans h.tape), l.output.trans (k.output.trans h.output), Nat.le_trans h.size (Nat.le_trans k.size l.size),
    fun b hb hne => (l.block b (Nat.lt_of_lt_of_le hb (Nat.le_trans h.size k.size)) hne).trans ((k.block b (Nat.lt_of_lt_of_le hb h.size) hne).trans (h.block b hb hne))⟩

theorem zero_list (n : Nat) : (Builtin.zeroCells (Value.int .i64 0).cells n).toList = List.replicate n (iv 0) := by
  apply List.ext_getElem
  · simp [Builtin.zeroCells, Value.cells]
  · intro i h1 h2
    simp [Builtin.zeroCells, Value.cells, Nat.mod_one]

theorem ins_list {α : Type} (T R D : List α) (x : α) {i : Nat} (hT : T.length = i) (hR : R.length ≤ D.length) : T ++ x :: D = (T ++ ([x] ++ R)).take (i + 1) ++ (D ++ (T ++ ([x] ++ R)).drop (i + 1 + D.length)) := by
  have e : (T ++ ([x] ++ R)).drop (i + 1 + D.length) = [] := List.drop_eq_nil_of_le (by simp; omega)
  rw [e, List.append_nil, ← List.append_assoc T, List.take_left' (by simp; omega), List.append_assoc]
  rfl

/-- A row that is new. -/
theorem own_grown (w : World) (cs : List Value) {base : Nat} (hb : base ≤ w.heap.size) (hm : cs.length ≤ maxLen) (old : Nat) :
    (w.drew.alloc (.cells (cs.toArray ++ Builtin.zeroCells (Value.int .i64 0).cells (grownCap w cs.length old 3 - cs.length)) 3)).ownsRow base 3 1 (.slice (some ⟨w.heap.size, 0, none⟩) cs.length (grownCap w cs.length old 3)) cs.length cs := by
  have h1 := grownCap_ge w cs.length old 3
  have h2 := grownCap_le_maxLen w cs.length old 3 hm
  refine ⟨by simp, .inr ⟨w.heap.size, _, _, rfl, hb, heap_alloc_new w.drew _, h1, h2, ?_, ?_⟩⟩
  · simp [Builtin.zeroCells, Value.cells]; omega
  · simp

/-- slices.Insert of one element, which lies in a block of its own. -/
theorem ins_own (base : Nat) (v : Value) (xs : List Int) (i gb : Nat) (x : Int) (w : World) (h : w.ownsRow base 3 1 v xs.length (xs.map iv)) (hi : i ≤ xs.length) (hn : xs.length ≤ 4000000) (hbase : base ≤ w.heap.size)
    (hb : Blk w gb 3 #[iv x]) (hne : v.ownBlock ≠ some gb) :
    Calls Try.prog 29 #[v, .int .i64 i, .slice (some ⟨gb, 0, none⟩) 1 1] w fun y w' => ∃ v', y = .returned v' ∧ w'.ownsRow base 3 1 v' (xs.length + 1) ((xs.take i ++ x :: xs.drop i).map iv) ∧ w.grownBy w' v.ownBlock ∧ (v'.ownBlock = v.ownBlock ∨ v'.ownBlock = some w.heap.size) := by
  have hvs : ∀ j u, [iv x][j]? = some u → w.cell? ⟨gb, 0 + j, none⟩ = some u := fun j u hj => by
    rw [Nat.zero_add, hb.cell j]; rw [← List.getElem?_toArray] at hj; exact hj
  have h1v : ∀ u ∈ [iv x], u.oneCell' = true := fun u hu => by rw [List.mem_singleton] at hu; subst hu; rfl
  have h1c : ∀ u ∈ xs.map iv, u.oneCell' = true := fun u hu => by obtain ⟨z, _, rfl⟩ := List.mem_map.1 hu; rfl
  rcases h.2 with ⟨rfl, h0⟩ | ⟨g, cap, cur, rfl, _⟩
  · have e0 : xs = [] := List.eq_nil_of_length_eq_zero h0
    subst e0
    obtain rfl : i = 0 := by simpa using hi
    refine (Any2.slices_Insert_int_end_grow Try.lays221 none 0 0 gb 0 1 1 [] [iv x] w (by omega) (by omega) (by omega) (by omega) rfl rfl (fun _ => rfl) (fun a ha => by cases ha) hvs h1v).mono ?_
    rintro y w' ⟨rfl, rfl⟩
    refine ⟨_, rfl, ?_, only_of_below (((Below.refl w.heap.size w).drew).alloc (Nat.le_refl _) _) _, .inr rfl⟩
    exact own_grown w [iv x] hbase (by unfold maxLen; simp) 0
  · obtain ⟨hc1, hc2, hc3, hc4, hc5⟩ := own_cap h
    have hgb : gb ≠ g := fun e => hne (by rw [e]; rfl)
    have hcs : ∀ j u, (xs.map iv)[j]? = some u → w.cell? ⟨g, 0 + j, none⟩ = some u := fun j u hj => by
      rw [Nat.zero_add, h.cellAt j (by have := (List.getElem?_eq_some_iff.1 hj).1; simp at this; omega)]; exact hj
    by_cases hr : xs.length + 1 ≤ cap
    · obtain ⟨z, hz⟩ := own_more h (by omega)
      by_cases hin : i < xs.length
      · refine (Any2.slices_Insert_int_shift Try.lays221 g 0 xs.length cap i gb 0 1 1 (xs.map iv) [iv x] w hin (by omega) hr (by unfold maxLen at hc2; omega) hgb (by simp) rfl hcs
          (fun j hj => by rw [Nat.zero_add]; exact hc5 j (by omega)) (fun j _ => by rw [Nat.zero_add]; exact h.frozenAt j) hvs h1c h1v 3 3 1 cap (by have := hb; unfold Blk at this; simp [World.shape?, this]) hc4 (by omega) (hb.frozen 0) (hb.frozen 1)).mono ?_
        rintro y w' ⟨rfl, rfl⟩
        have hd : w.drew.ownsRow base 3 1 (.slice (some ⟨g, 0, none⟩) (xs.length + 1) cap) (xs.length + 1) (xs.map iv ++ [z]) := hz
        have s1 := own_setCells ((xs.map iv).drop i) (i + 1) _ _ hd (by simp; omega)
        have s2 := own_setCells [iv x] i _ _ s1.1 (by simp; omega)
        refine ⟨.slice (some ⟨g, 0, none⟩) (xs.length + 1) cap, rfl, ?_, ?_, .inl rfl⟩
        · have e : (xs.take i ++ x :: xs.drop i).map iv = ((xs.map iv ++ [z]).take (i + 1) ++ ((xs.map iv).drop i ++ (xs.map iv ++ [z]).drop (i + 1 + ((xs.map iv).drop i).length))).take i ++ ([iv x] ++ ((xs.map iv ++ [z]).take (i + 1) ++ ((xs.map iv).drop i ++ (xs.map iv ++ [z]).drop (i + 1 + ((xs.map iv).drop i).length))).drop (i + [iv x].length)) := by
            have a1 : (xs.map iv ++ [z]).drop (i + 1 + ((xs.map iv).drop i).length) = [] := List.drop_eq_nil_of_le (by simp; omega)
            have a2 : ((xs.map iv ++ [z]).take (i + 1)).length = i + 1 := by simp; omega
            rw [a1, List.append_nil, List.take_append_of_le_length (by omega), List.take_take, Nat.min_eq_left (by omega), List.take_append_of_le_length (by simp; omega), List.length_singleton, List.drop_left' a2, List.map_append, List.map_cons, List.map_take, List.map_drop]
            rfl
          rw [e, Nat.zero_add, Nat.zero_add]
          exact s2.1
        · have a := s1.2
          have b := s2.2
          rw [Nat.zero_add, Nat.zero_add]
          exact grownBy_tr3 (only_of_below ((Below.refl w.heap.size w).drew) _) a b
      · obtain rfl : i = xs.length := by omega
        refine (Any2.slices_Insert_int_end_room Try.lays221 g 0 xs.length cap gb 0 1 1 [iv x] w (by omega) hr (by unfold maxLen at hc2; omega) rfl (fun j hj => by rw [Nat.zero_add]; exact hc5 _ (by omega)) (fun j _ => h.frozenAt _) hvs h1v).mono ?_
        rintro y w' ⟨rfl, rfl⟩
        have s1 := own_setCells [iv x] xs.length _ _ hz (by simp)
        refine ⟨.slice (some ⟨g, 0, none⟩) (xs.length + 1) cap, rfl, ?_, ?_, .inl rfl⟩
        · have e : (xs.take xs.length ++ x :: xs.drop xs.length).map iv = (xs.map iv ++ [z]).take xs.length ++ ([iv x] ++ (xs.map iv ++ [z]).drop (xs.length + [iv x].length)) := by
            rw [List.take_length, List.drop_length, List.take_left' (by simp), List.drop_eq_nil_of_le (by simp)]
            simp
          rw [e, Nat.zero_add]
          exact s1.1
        · rw [Nat.zero_add]; exact s1.2
    · by_cases hin : i < xs.length
      · refine (Any2.slices_Insert_int_grow Try.lays221 g 0 xs.length cap i gb 0 1 1 (xs.map iv) [iv x] w hin (by omega) hc1 (by omega) (by omega) (by simp) rfl hcs hvs h1c h1v).mono ?_
        rintro y w' ⟨rfl, rfl⟩
        obtain ⟨W, hW⟩ : ∃ W, W = w.alloc (.cells (((xs.map iv).take i).toArray ++ Builtin.zeroCells (Value.int .i64 0).cells (xs.length + 1 - i) ++ Builtin.zeroCells (Value.int .i64 0).cells (grownCap w (xs.length + 1) cap 3 - (xs.length + 1))) 3) := ⟨_, rfl⟩
        have hbw : Below w.heap.size w W := by rw [hW]; exact (Below.refl _ _).alloc (Nat.le_refl _) _
        have h1 := grownCap_ge w (xs.length + 1) cap 3
        have h2 := grownCap_le_maxLen w (xs.length + 1) cap 3 (by unfold maxLen; omega)
        have h0 : W.ownsRow base 3 1 (.slice (some ⟨w.heap.size, 0, none⟩) (xs.length + 1) (grownCap w (xs.length + 1) cap 3)) (xs.length + 1) ((xs.map iv).take i ++ List.replicate (xs.length + 1 - i) (iv 0)) := by
          rw [hW]
          refine ⟨by simp; omega, .inr ⟨w.heap.size, _, _, rfl, hbase, heap_alloc_new w _, h1, h2, ?_, ?_⟩⟩
          · simp [Builtin.zeroCells, Value.cells]; omega
          · rw [Array.toList_append, Array.toList_append, Nat.mul_one, zero_list, zero_list]
            exact List.take_left' (by simp; omega)
        have s1 := own_setCells [iv x] i W.drew _ h0 (by simp; omega)
        have s2 := own_setCells ((xs.map iv).drop i) (i + 1) (W.drew.setCells w.heap.size i [iv x]).drew _ s1.1 (by simp; omega)
        have hb1 : Below w.heap.size w (W.drew.setCells w.heap.size i [iv x]).drew := (hbw.drew.grown s1.2 hbw.size (fun k e => by cases e; exact Nat.le_refl _)).drew
        have hb2 := hb1.grown s2.2 hb1.size (fun k e => by cases e; exact Nat.le_refl _)
        refine ⟨.slice (some ⟨w.heap.size, 0, none⟩) (xs.length + 1) (grownCap w (xs.length + 1) cap 3), rfl, ?_, ?_, .inr rfl⟩
        · have e : (xs.take i ++ x :: xs.drop i).map iv = (((xs.map iv).take i ++ List.replicate (xs.length + 1 - i) (iv 0)).take i ++ ([iv x] ++ ((xs.map iv).take i ++ List.replicate (xs.length + 1 - i) (iv 0)).drop (i + [iv x].length))).take (i + 1) ++ ((xs.map iv).drop i ++ (((xs.map iv).take i ++ List.replicate (xs.length + 1 - i) (iv 0)).take i ++ ([iv x] ++ ((xs.map iv).take i ++ List.replicate (xs.length + 1 - i) (iv 0)).drop (i + [iv x].length))).drop (i + 1 + ((xs.map iv).drop i).length)) := by
            have a1 : ((xs.map iv).take i).length = i := by simp; omega
            rw [List.take_left' a1, ← ins_list _ _ _ _ a1 (by simp; omega), List.map_append, List.map_cons, List.map_take, List.map_drop]
          rw [e]
          rw [hW] at s2
          exact s2.1
        · rw [hW] at hb2
          exact only_of_below hb2 _
      · obtain rfl : i = xs.length := by omega
        refine (Any2.slices_Insert_int_end_grow Try.lays221 (some ⟨g, 0, none⟩) xs.length cap gb 0 1 1 (xs.map iv) [iv x] w (by omega) hc1 (by omega) (by omega) (by simp) rfl (fun e => by cases e) (fun a ha j u hj => by cases ha; rw [show (⟨g, 0, none⟩ : Addr).add j = ⟨g, 0 + j, none⟩ from by unfold Addr.add; split <;> simp_all]; exact hcs j u hj) hvs h1v).mono ?_
        rintro y w' ⟨rfl, rfl⟩
        refine ⟨_, rfl, ?_, only_of_below (((Below.refl w.heap.size w).drew).alloc (Nat.le_refl _) _) _, .inr rfl⟩
        have := own_grown w (xs.map iv ++ [iv x]) hbase (by unfold maxLen; simp; omega) cap
        rw [show (xs.map iv ++ [iv x]).length = xs.length + 1 by simp] at this
        rw [List.take_length, List.drop_length, List.map_append]
        exact this
end Go.Proofs
