import Derived.Test.YtjofegjiakjjhaaDoorMScu
import Derived.Shelf.Lay
import Derived.Ground.NamesProg
import Derived.Shelf.Strconv.Itoa3
import Derived.Shelf.Strings.Builder1
import Derived.Shelf.Strings.OnBuilder
import Derived.Shelf.Strings.Split
import Derived.Shelf.Strings.Prefix
import Derived.Shelf.Strconv.AtoiAll
import Derived.Lib.AppendIntMem
import Derived.Lib.SmallJoins
import Derived.Great.BuildSlice
import Derived.Deep.DeepCutAuto
import Derived.Laws.CopyOwn
/- Script: the library's contracts, laid: Itoa, Join, Split, TrimPrefix, strings.Builder. -/
namespace Go.Proofs
open Go.Shelf
shelf_lay LaysM.n171 Nm 171 at Tryd as Tryd.lays171
shelf_lay Lays.n156 Nm 156 at Tryd as Tryd.lays156
shelf_lay Lays.n146 Nm 146 at Tryd as Tryd.lays146
shelf_lay LaysC.n172 Nm 172 at Tryd as Tryd.lays172
shelf_lay Lays.n101 Nm 101 at Tryd as Tryd.lays101
def Tryd.lays166_ren : Go.Shelf.Ren := ⟨fun | 166 => 39 | 240 => 56 | 276 => 67 | n => n, fun | 37 => 35 | 70 => 76 | 72 => 78 | 75 => 80 | 80 => 84 | 164 => 105 | n => n, fun | n => n⟩
theorem Tryd.lays166 : Lays.n166 Tryd.prog Tryd.lays166_ren where
  mixed := by kernel_rfl
  f166 := Tryd.func39.trans (congrArg some (by kernel_rfl))
  f240 := Tryd.func56.trans (congrArg some (by kernel_rfl))
  f276 := Tryd.func67.trans (congrArg some (by kernel_rfl))
  t0 := Tryd.underlying0
  a0 := Tryd.isAgg0
  z0 := Tryd.sizeOf0
  v0 := Tryd.zeroValue0
  t3 := Tryd.underlying3
  a3 := Tryd.isAgg3
  z3 := Tryd.sizeOf3
  v3 := Tryd.zeroValue3
  t4 := Tryd.underlying4
  a4 := Tryd.isAgg4
  z4 := Tryd.sizeOf4
  v4 := Tryd.zeroValue4
  t9 := Tryd.underlying9
  a9 := Tryd.isAgg9
  z9 := Tryd.sizeOf9
  v9 := Tryd.zeroValue9
  t20 := Tryd.underlying20
  a20 := Tryd.isAgg20
  z20 := Tryd.sizeOf20
  v20 := Tryd.zeroValue20
  t37 := Tryd.underlying35
  a37 := Tryd.isAgg35
  z37 := Tryd.sizeOf35
  v37 := Tryd.zeroValue35
  t70 := Tryd.underlying76
  a70 := Tryd.isAgg76
  z70 := Tryd.sizeOf76
  v70 := Tryd.zeroValue76
  t72 := Tryd.underlying78
  a72 := Tryd.isAgg78
  z72 := Tryd.sizeOf78
  v72 := Tryd.zeroValue78
  t75 := Tryd.underlying80
  a75 := Tryd.isAgg80
  z75 := Tryd.sizeOf80
  v75 := Tryd.zeroValue80
  t164 := Tryd.underlying105
  a164 := Tryd.isAgg105
  z164 := Tryd.sizeOf105
  v164 := Tryd.zeroValue105

def Tryd.lays167_ren : Go.Shelf.Ren := ⟨fun | 167 => 40 | 240 => 56 | 276 => 67 | n => n, fun | 37 => 35 | 70 => 76 | 72 => 78 | 75 => 80 | 80 => 84 | 164 => 105 | n => n, fun | n => n⟩
theorem Tryd.lays167 : Lays.n167 Tryd.prog Tryd.lays167_ren where
  mixed := by kernel_rfl
  f167 := Tryd.func40.trans (congrArg some (by kernel_rfl))
  f240 := Tryd.func56.trans (congrArg some (by kernel_rfl))
  f276 := Tryd.func67.trans (congrArg some (by kernel_rfl))
  t0 := Tryd.underlying0
  a0 := Tryd.isAgg0
  z0 := Tryd.sizeOf0
  v0 := Tryd.zeroValue0
  t4 := Tryd.underlying4
  a4 := Tryd.isAgg4
  z4 := Tryd.sizeOf4
  v4 := Tryd.zeroValue4
  t5 := Tryd.underlying5
  a5 := Tryd.isAgg5
  z5 := Tryd.sizeOf5
  v5 := Tryd.zeroValue5
  t9 := Tryd.underlying9
  a9 := Tryd.isAgg9
  z9 := Tryd.sizeOf9
  v9 := Tryd.zeroValue9
  t20 := Tryd.underlying20
  a20 := Tryd.isAgg20
  z20 := Tryd.sizeOf20
  v20 := Tryd.zeroValue20
  t37 := Tryd.underlying35
  a37 := Tryd.isAgg35
  z37 := Tryd.sizeOf35
  v37 := Tryd.zeroValue35
  t70 := Tryd.underlying76
  a70 := Tryd.isAgg76
  z70 := Tryd.sizeOf76
  v70 := Tryd.zeroValue76
  t72 := Tryd.underlying78
  a72 := Tryd.isAgg78
  z72 := Tryd.sizeOf78
  v72 := Tryd.zeroValue78
  t75 := Tryd.underlying80
  a75 := Tryd.isAgg80
  z75 := Tryd.sizeOf80
  v75 := Tryd.zeroValue80
  t164 := Tryd.underlying105
  a164 := Tryd.isAgg105
  z164 := Tryd.sizeOf105
  v164 := Tryd.zeroValue105

shelf_lay Lays.n169 Nm 169 at Tryd as Tryd.lays169
theorem Tryd.extra156 : Builder.Extra Tryd.prog Tryd.lays156_ren where
  sizeBuilder := by kernel_rfl
  liesBuilder := by kernel_rfl
  t5 := Tryd.underlying5
  a5 := Tryd.isAgg5
  z5 := Tryd.sizeOf5
  v5 := Tryd.zeroValue5
  infoByte := by kernel_rfl
  cellsByte := by kernel_rfl
  sizeByte := by kernel_rfl
  neB5 := by decide
theorem Tryd.extra166 : Builder.Extra Tryd.prog Tryd.lays166_ren where
  sizeBuilder := by kernel_rfl
  liesBuilder := by kernel_rfl
  t5 := Tryd.underlying5
  a5 := Tryd.isAgg5
  z5 := Tryd.sizeOf5
  v5 := Tryd.zeroValue5
  infoByte := by kernel_rfl
  cellsByte := by kernel_rfl
  sizeByte := by kernel_rfl
  neB5 := by decide
theorem Tryd.extra167 : Builder.Extra Tryd.prog Tryd.lays167_ren where
  sizeBuilder := by kernel_rfl
  liesBuilder := by kernel_rfl
  t5 := Tryd.underlying5
  a5 := Tryd.isAgg5
  z5 := Tryd.sizeOf5
  v5 := Tryd.zeroValue5
  infoByte := by kernel_rfl
  cellsByte := by kernel_rfl
  sizeByte := by kernel_rfl
  neB5 := by decide
theorem Tryd.extra169 : Builder.Extra Tryd.prog Tryd.lays169_ren where
  sizeBuilder := by kernel_rfl
  liesBuilder := by kernel_rfl
  t5 := Tryd.underlying5
  a5 := Tryd.isAgg5
  z5 := Tryd.sizeOf5
  v5 := Tryd.zeroValue5
  infoByte := by kernel_rfl
  cellsByte := by kernel_rfl
  sizeByte := by kernel_rfl
  neB5 := by decide

namespace YtjofegjiakjjhaaDoor
open Go.RowKit Go.Lib

/-- What the listed variables hold. -/
structure Env (w : World) : Prop where
  mx : ∃ m, w.cell? ⟨0, 0, none⟩ = some (.int .i64 m)
  syn : ∃ te pe, w.cell? ⟨1, 0, none⟩ = some (.iface te pe)
  rng : ∃ te pe, w.cell? ⟨2, 0, none⟩ = some (.iface te pe)
  p10 : Lib.TabIs Tryd.prog w "internal/strconv.uint64pow10" .u64 Lib.pow10Tab
  tz : w.cell? ⟨7, 15, none⟩ = some (.int .u8 4)
theorem Env.below {w w' : World} (h : Env w) (hb : Below w.heap.size w w') : Env w' := by
  obtain ⟨⟨m, h1⟩, ⟨te, pe, h2⟩, ⟨te', pe', h3⟩, h4, h5⟩ := h
  have key : ∀ p v, w.cell? p = some v → w'.cell? p = some v := fun p v hc => (hb.cell (World.block_lt_of_cell? _ _ hc)).trans hc
  exact ⟨⟨m, key _ _ h1⟩, ⟨te, pe, key _ _ h2⟩, ⟨te', pe', key _ _ h3⟩, Go.Joins.var_stays (g := 3) (by kernel_rfl) h4 hb (Nat.le_refl _), key _ _ h5⟩
theorem litoa (n : Int) (h : i64ok n) {w : World} (he : Env w) : Calls Tryd.prog 35 #[.int .i64 n] w (NumIs w (itoa n)) :=
  (Any.strconv_Itoa Tryd.lays171 n h.1 h.2 w he.p10).mono fun e w' hp => by
    obtain ⟨h1, k, os, rfl⟩ := hp
    exact ⟨h1, below_grow w.heap.size w (Nat.le_refl _) k os⟩
theorem own_cases {w : World} {base n : Nat} {e : TypeId} {v : Value} {xs : List Value} (h : w.ownsRow base e 1 v n xs) : (v = .slice none 0 0 ∧ n = 0) ∨ ∃ g cc, v = .slice (some ⟨g, 0, none⟩) n cc ∧ base ≤ g ∧ g < w.heap.size ∧ n ≤ cc ∧ cc ≤ maxLen ∧ ∀ k, k < n → w.cell? ⟨g, k, none⟩ = xs[k]? := by
  have hh := h
  rcases h.2 with ⟨h1, h0⟩ | ⟨g, cap, cur, rfl, hb, hg, hn, hc, _⟩
  · exact .inl ⟨h1, h0⟩
  · exact .inr ⟨g, cap, rfl, hb, (hh.lt g rfl).2, hn, hc, fun k hk => hh.cellAt k (by omega)⟩
theorem ljoin {w : World} {v : Value} {ws : List Bs} (ho : w.ownsRow 0 9 1 v ws.length (ws.map bv)) (hn : ws.length ≤ 100000) (hlen : (join ws [32]).length ≤ 140737488355328) :
    Calls Tryd.prog 27 #[v, bv [32]] w (NumIs w (join ws [32])) := by
  rcases own_cases ho with ⟨rfl, h0⟩ | ⟨g, cc, rfl, _, hg, hn1, _, hc⟩
  · obtain rfl : ws = [] := List.eq_nil_of_length_eq_zero h0
    refine (Any.strings_Join_none Tryd.lays156 Tryd.extra156 none 0 ⟨[32].toArray⟩ w).mono fun e w' hp => ?_
    obtain ⟨h1, h2⟩ := hp
    exact ⟨by rw [h1]; rfl, by rw [h2]; exact Below.refl _ _⟩
  · have e1 : (ws.map fun l => (⟨l.toArray⟩ : ByteArray)).map (·.data.toList) = ws := by
      rw [List.map_map]
      conv => rhs; rw [← List.map_id ws]
      rfl
    have := Any.strings_Join Tryd.lays156 Tryd.extra156 g 0 cc (ws.map fun l => (⟨l.toArray⟩ : ByteArray)) ⟨[32].toArray⟩ w (fun j x hj => by
        rw [List.getElem?_map, Option.map_eq_some_iff] at hj
        obtain ⟨l, hl, rfl⟩ := hj
        have hjl := (List.getElem?_eq_some_iff.1 hl).1
        rw [Nat.zero_add, hc j hjl, List.getElem?_map, hl]; rfl) hg (by rw [List.length_map]; omega) (by rw [List.length_map]; exact hn1) (by rw [e1]; exact hlen)
    rw [e1, List.length_map] at this
    exact this
theorem lsplit (c : UInt8) (l : Bs) (hl : l.length < 4294967281) {w : World} (he : Env w) : Calls Tryd.prog 31 #[bv l, bv [c]] w fun e w' => ∃ v, e = .returned v ∧ w'.ownsRow w.heap.size 9 1 v (cutL c l).length ((cutL c l).map bv) ∧ Below w.heap.size w w' := by
  obtain ⟨m, hm⟩ := he.mx
  refine (Any.strings_Split Tryd.lays146 (by kernel_rfl) ⟨l.toArray⟩ ⟨[c].toArray⟩ m w hl hm (Nat.le_refl _)).mono fun e w' hp => ?_
  obtain ⟨h1, rfl⟩ := hp
  have e1 := split_vals c l
  have e2 : countB ⟨l.toArray⟩ ⟨[c].toArray⟩ + 1 = (cutL c l).length := by
    have h2 := congrArg List.length e1
    rw [List.length_map, List.length_map] at h2
    rw [← h2]
    exact (splitB_all ⟨[c].toArray⟩ (Nat.le_refl _) 0 _ ⟨l.toArray⟩ rfl).symm
  have e3 : (cutL c l).length ≤ l.length + 1 := by
    rw [← e2]
    have := countB_le ⟨[c].toArray⟩ (Nat.le_refl _) _ ⟨l.toArray⟩ (Nat.le_refl _)
    have h9 : (⟨l.toArray⟩ : ByteArray).size = l.length := by simp [ByteArray.size]
    omega
  rw [e2] at h1
  refine ⟨_, h1, ⟨by rw [List.length_map]; omega, .inr ⟨w.heap.size, (cutL c l).length, ((cutL c l).map bv).toArray, rfl, Nat.le_refl _, ?_, Nat.le_refl _, by unfold maxLen; omega, by simp, by simp [List.take_of_length_le]⟩⟩, (Below.refl _ _).alloc (Nat.le_refl _) _⟩
  rw [show ((splitB ⟨[c].toArray⟩ 0 (countB ⟨l.toArray⟩ ⟨[c].toArray⟩) ⟨l.toArray⟩).map Value.string) = (cutL c l).map bv from e1]
  exact heap_alloc_new w _
theorem ltrim (l : Bs) (w : World) : Calls Tryd.prog 51 #[bv l, bv [48, 120]] w fun e w' => e = .returned (bv (trim l)) ∧ w = w' :=
  (Any.strings_TrimPrefix Tryd.lays101 ⟨l.toArray⟩ ⟨[48, 120].toArray⟩ w).mono fun e w' hp => by
    obtain ⟨h1, h2⟩ := hp
    exact ⟨by rw [h1]; rfl, h2.symm⟩
/-- strconv.Atoi: some number, or an error. -/
theorem latoi (l : Bs) (hl : l.length ≤ 281474976710656) {w : World} (he : Env w) : Calls Tryd.prog 49 #[bv l] w fun e w' => (∃ v, atoiO l = some v ∧ e = .returned (.tuple #[.int .i64 v, .nilIface]) ∧ Below w.heap.size w w') ∨ (∃ v te pe, atoiO l = none ∧ e = .returned (.tuple #[.int .i64 v, .iface te pe]) ∧ Below w.heap.size w w') := by
  have h9 : (⟨l.toArray⟩ : ByteArray).size = l.length := by simp [ByteArray.size]
  obtain ⟨te, pe, hsy⟩ := he.syn
  obtain ⟨te', pe', hrg⟩ := he.rng
  cases h : atoiAll l with
  | ok v =>
    refine (Any.strconv_Atoi_ok Tryd.lays172 ⟨l.toArray⟩ (by omega) v h w).mono fun e w' hp => ?_
    refine .inl ⟨v, by unfold atoiO; rw [h], hp.1, ?_⟩
    rcases hp.2 with rfl | ⟨t, rfl⟩
    · exact Below.refl _ _
    · exact Go.Joins.below_bytesWorld _ w _ t (Nat.le_refl _)
  | «syntax» =>
    refine (Any.strconv_Atoi_syntax Tryd.lays172 ⟨l.toArray⟩ (by omega) h _ w hsy (.inr ⟨_, _, rfl⟩)).mono fun e w' hp => ?_
    obtain ⟨N, h1, _, _, h2⟩ := hp
    exact .inr ⟨_, _, _, by unfold atoiO; rw [h], h1, h2⟩
  | range =>
    refine (Any.strconv_Atoi_range Tryd.lays172 ⟨l.toArray⟩ (by omega) h _ w hrg (.inr ⟨_, _, rfl⟩)).mono fun e w' hp => ?_
    obtain ⟨N, h1, _, _, h2⟩ := hp
    exact .inr ⟨_, _, _, by unfold atoiO; rw [h], h1, h2⟩
/-- A builder of the call's own that holds the bytes l. -/
def Bld (B b : Nat) (l : Bs) (w : World) : Prop := IsBuilder 78 5 B b (byteCells l) w
theorem Bld.fresh (w : World) : Bld w.heap.size w.heap.size [] (w.alloc (.cells #[.pointer none, .slice none 0 0] 78)) := fresh_isBuilder _ _ w
theorem lbws {B b : Nat} {l : Bs} {w : World} (h : Bld B b l w) (m : Bs) (hn : l.length + m.length ≤ 140737488355328) (hB : B ≤ w.heap.size) :
    Calls Tryd.prog 39 #[.pointer (some ⟨b, 0, none⟩), bv m] w fun e w' => e = .returned (.tuple #[.int .i64 m.length, .nilIface]) ∧ Bld B b (l ++ m) w' ∧ Below B w w' := by
  have h9 : (⟨m.toArray⟩ : ByteArray).size = m.length := by simp [ByteArray.size]
  refine (Any.Builder_WriteString Tryd.lays166 Tryd.extra166 B b (byteCells l) ⟨m.toArray⟩ w h (by rw [h9]; simpa [byteCells] using hn) hB).mono fun e w' hp => ?_
  obtain ⟨h1, h2, h3⟩ := hp
  refine ⟨by rw [h1, h9], .inr ?_, h3⟩
  have e : byteCells (l ++ m) = byteCells l ++ strCells ⟨m.toArray⟩ := by simp [byteCells, strCells]
  rw [e]
  exact h2
theorem lbwb {B b : Nat} {l : Bs} {w : World} (h : Bld B b l w) (c : UInt8) (hn : l.length + 1 ≤ 140737488355328) (hB : B ≤ w.heap.size) :
    Calls Tryd.prog 40 #[.pointer (some ⟨b, 0, none⟩), .int .u8 (c.toNat : Int)] w fun e w' => e = .returned .nilIface ∧ Bld B b (l ++ [c]) w' ∧ Below B w w' := by
  refine (Any.Builder_WriteByte Tryd.lays167 Tryd.extra167 B b (byteCells l) c.toNat w h (by simpa [byteCells] using hn) hB).mono fun e w' hp => ?_
  obtain ⟨h1, h2, h3⟩ := hp
  refine ⟨h1, .inr ?_, h3⟩
  have e : byteCells (l ++ [c]) = byteCells l ++ [.int .u8 (c.toNat : Int)] := by simp [byteCells]
  rw [e]
  exact h2
theorem lbs {B b : Nat} {l : Bs} {w : World} (h : Bld B b l w) (hB : B ≤ w.heap.size) :
    Calls Tryd.prog 41 #[.pointer (some ⟨b, 0, none⟩)] w fun e w' => e = .returned (bv l) ∧ Below B w w' :=
  Any.Builder_String_any Tryd.lays169 Tryd.extra169 B b l w h hB
end YtjofegjiakjjhaaDoor
end Go.Proofs
/- Script: strconv.FormatUint at base 16. -/
namespace Go.Proofs.YtjofegjiakjjhaaDoor
open Go.RowKit Go.Lib

set_option maxRecDepth 20000 in
theorem ltz {w : World} (htz : w.cell? ⟨7, 15, none⟩ = some (.int .u8 4)) : Calls Tryd.prog 96 #[.int .u64 16] w fun e w' => e = .returned (.int .i64 4) ∧ w = w' := by
  have e1 : IntKind.u64.wrap (-16) = 18446744073709551600 := by decide
  have e2 : bits .and .u64 16 18446744073709551600 = 16 := by decide
  have e3 : IntKind.u64.wrap (16 * 285870213051353865) = 4573923408821661840 := by decide
  go_enter Tryd.func96, Tryd.ntmps96
  go_wp2
  go_ret
  exact ⟨rfl, rfl⟩
theorem mask15 (u : Nat) (hu : u < 18446744073709551616) : bits .and .u64 (u : Int) 15 = ((u % 16 : Nat) : Int) := by
  show IntKind.u64.wrap ((BitVec.ofInt 64 (u : Int) &&& BitVec.ofInt 64 15).toNat : Int) = _
  have e1 : (BitVec.ofInt 64 (15 : Int)).toNat = 2 ^ 4 - 1 := by decide
  have e2 : (BitVec.ofInt 64 (u : Int)).toNat = u := by
    rw [BitVec.toNat_ofInt]; omega
  rw [BitVec.toNat_and, e1, Nat.and_two_pow_sub_one_eq_mod, e2]
  unfold IntKind.wrap
  simp [IntKind.bits, IntKind.signed]
  omega
theorem addr_add (b k j : Nat) : (⟨b, k, none⟩ : Addr).add j = ⟨b, k + j, none⟩ := by
  simp [Addr.add]
  try omega
/-- 'a[k:]' of the sixty-five bytes. -/
theorem slice65 (W : World) (b k : Nat) (hk : k < 65) : (Instr.sliceAt 134 (.pointer (some ⟨b, 0, none⟩)) (some (.int .i64 (k : Int))) none none).run Tryd.prog W = .ok (.slice (some ⟨b, k, none⟩) (65 - k) (65 - k)) W := by
  have hl : Tryd.prog.arrayLen 134 = 65 := by kernel_rfl
  have he : Tryd.prog.elem 134 = 5 := by kernel_rfl
  rw [run_sliceAt_array_l W 134 ⟨b, 0, none⟩ (by rw [hl, he]; exact Tryd.underlying134) .i64 (k : Int) (by omega) (by rw [hl]; omega), hl, he, Tryd.sizeOf5]
  show Result.ok (slicedAt ⟨b, 0, none⟩ (k : Int).toNat 65 65 1) W = _
  unfold slicedAt
  rw [Int.toNat_natCast, if_neg (by omega), Nat.mul_one, addr_add, Nat.zero_add]
def FbR (v : Nat) (w0 : World) (b : Nat) (vu vi : Value) (wr : World) : Prop := ∃ (u : Nat) (acc : Bs) (cur : Array Value), vu = .int .u64 u ∧ vi = .int .i64 ((65 : Int) - (acc.length : Nat)) ∧ u ≤ v ∧ acc.length + (hexD u).length ≤ 16 ∧ Blk wr b 134 cur ∧ cur.size = 65 ∧ (∀ j (h : j < acc.length), cur[65 - acc.length + j]? = some (.int .u8 ((acc[j]).toNat : Int))) ∧ hexD u ++ acc = hexD v ∧ Below w0.heap.size w0 wr
set_option maxRecDepth 20000 in
set_option maxHeartbeats 4000000 in
theorem lfb (v : Nat) (hv : v < 18446744073709551616) {w : World} (he : Env w) :
    Calls Tryd.prog 84 #[.slice none 0 0, .int .u64 v, .int .i64 16, .bool false, .bool false] w fun e w' => e = .returned (.tuple #[.slice none 0 0, bv (hexD v)]) ∧ Below w.heap.size w w' := by
  have htz := fun o => (he.below ((Below.refl _ _).alloc (Nat.le_refl _) o)).tz
  have HTZ := Lib.hid htz
  have HB := Lib.hid (fun o => (Below.refl w.heap.size w).alloc (Nat.le_refl _) o)
  clear htz
  go_enter Tryd.func84, Tryd.ntmps84
  go_wp2_with (first | (go_at_call 96; refine (ltz (HTZ.out _)).mono ?_; rintro e _ ⟨rfl, rfl⟩) | go_in)
  clear HTZ
  have hb0 := hexD_len 16 v (by omega) (by omega)
  have hS : ∀ k, k < 16 → ∀ h : k < (⟨#[48, 49, 50, 51, 52, 53, 54, 55, 56, 57, 97, 98, 99, 100, 101, 102, 103, 104, 105, 106, 107, 108, 109, 110, 111, 112, 113, 114, 115, 116, 117, 118, 119, 120, 121, 122]⟩ : ByteArray).size, (⟨#[48, 49, 50, 51, 52, 53, 54, 55, 56, 57, 97, 98, 99, 100, 101, 102, 103, 104, 105, 106, 107, 108, 109, 110, 111, 112, 113, 114, 115, 116, 117, 118, 119, 120, 121, 122]⟩ : ByteArray)[k]'h = hdg k := by
    intro k hk
    have : ∀ k : Fin 16, ∀ h : k.1 < (⟨#[48, 49, 50, 51, 52, 53, 54, 55, 56, 57, 97, 98, 99, 100, 101, 102, 103, 104, 105, 106, 107, 108, 109, 110, 111, 112, 113, 114, 115, 116, 117, 118, 119, 120, 121, 122]⟩ : ByteArray).size, (⟨#[48, 49, 50, 51, 52, 53, 54, 55, 56, 57, 97, 98, 99, 100, 101, 102, 103, 104, 105, 106, 107, 108, 109, 110, 111, 112, 113, 114, 115, 116, 117, 118, 119, 120, 121, 122]⟩ : ByteArray)[k.1]'h = hdg k.1 := by decide
    exact this ⟨k, hk⟩
  have HS := Lib.hid hS
  clear hS
  go_loopw [1, 13] (FbR v w w.heap.size) (fun vu _ _ => cntZ vu)
  case atStart => exact ⟨v, [], Tryd.zeroCells134, rfl, rfl, Nat.le_refl _, by simp; omega, Blk.new _ _ _, by kernel_rfl, fun j h => absurd h (Nat.not_lt_zero _), by rw [List.append_nil], HB.out _⟩
  case round =>
    clear HB
    obtain ⟨u, acc, cur, rfl, rfl, hu, hl, hblk, hsz, hcs, happ, hbe⟩ := hrel
    obtain ⟨i, hi⟩ : ∃ i : Nat, (65 : Int) - (acc.length : Nat) = (i : Int) := ⟨65 - acc.length, by omega⟩
    have hi2 : i + acc.length = 65 ∧ 49 ≤ i ∧ i ≤ 65 := by omega
    rw [hi]
    have HC := Lib.hid hcs
    have HA := Lib.hid happ
    have HBE := Lib.hid hbe
    have HBL := Lib.hid hblk
    obtain ⟨x, hx⟩ : ∃ x, cur[i - 1]? = some x := ⟨_, Array.getElem?_eq_getElem (by omega)⟩
    have hcell : wr.cell? ⟨w.heap.size, i - 1, none⟩ = some x := (hblk.cell (i - 1)).trans hx
    have hfz := hblk.frozen (i - 1)
    have HSZ := Lib.hid hsz
    clear hx hsz
    clear hcs happ hbe hblk hi
    by_cases h16 : 16 ≤ u
    · have g1 : decide ((u : Int) ≥ 16) = true := by simp; omega
      have g2 : (16 : Int) ≤ (u : Int) := by omega
      have hm : u % 16 < 16 := by omega
      have hmk := mask15 u (by omega)
      go_wp2
      rw [HS.out _ hm]
      refine ⟨⟨u / 16, hdg (u % 16) :: acc, cur.setIfInBounds (i - 1) (.int .u8 ((hdg (u % 16)).toNat : Int)), by go_num, by rw [List.length_cons]; congr 1; omega, by omega, ?_, HBL.out.set_ _ _, by rw [Array.size_setIfInBounds]; exact HSZ.out, fun j hj => ?_, ?_, ?_⟩, ?_⟩
      · rw [List.length_cons]
        have := congrArg List.length HA.out
        rw [hexD_big (by omega : ¬ u < 16)] at hl
        simp only [List.length_append, List.length_cons, List.length_nil] at hl
        omega
      · have e1 : 65 - (hdg (u % 16) :: acc).length = i - 1 := by rw [List.length_cons]; omega
        rw [e1]
        cases j with
        | zero =>
          rw [Nat.add_zero, Array.getElem?_setIfInBounds_self_of_lt (by have := HSZ.out; omega)]
          rfl
        | succ j =>
          have hj' : j < acc.length := by simpa using hj
          have := HC.out j hj'
          rw [Array.getElem?_setIfInBounds_ne (by omega), show i - 1 + (j + 1) = 65 - acc.length + j by omega, this]
          rfl
      · rw [← HA.out, hexD_big (by omega : ¬ u < 16), List.append_assoc]; rfl
      · exact HBE.out.trans ((Below.refl w.heap.size wr).setCell (p := ⟨w.heap.size, i - 1, none⟩) (Nat.le_refl _) _)
      · show ((u : Int) / 16).toNat < (u : Int).toNat
        omega
    · have g1 : decide ((u : Int) ≥ 16) = false := by simp; omega
      have g2 : (u : Int) < 16 := by omega
      have hi1 : ((i : Int) - 1) = ((i - 1 : Nat) : Int) := by omega
      have hsl := fun W => slice65 W w.heap.size (i - 1) (by omega)
      rw [← hi1] at hsl
      have hval := HS.out u (by omega) (by show u < 36; omega)
      have e7 : 65 - (i - 1) = (hdg u :: acc).length := by rw [List.length_cons]; omega
      rw [e7] at hsl
      have hB9 := HBL.out.set_ (i - 1) (.int .u8 ((hdg u).toNat : Int))
      have hcv := run_convert_bytes_back (P := Tryd.prog) (wr.setCell ⟨w.heap.size, i - 1, none⟩ (.int .u8 ((hdg u).toNat : Int))) 35 9 5 ⟨w.heap.size, i - 1, none⟩ (hdg u :: acc).length (hdg u :: acc) Tryd.underlying35 Tryd.underlying5 Tryd.underlying9 (fun j hj => by
        rw [addr_add]
        refine (hB9.cell (i - 1 + j)).trans ?_
        cases j with
        | zero =>
          rw [Nat.add_zero, Array.getElem?_setIfInBounds_self_of_lt (by have := HSZ.out; omega)]
          rfl
        | succ j =>
          have hj' : j < acc.length := by simpa using hj
          have := HC.out j hj'
          rw [Array.getElem?_setIfInBounds_ne (by omega), show i - 1 + (j + 1) = 65 - acc.length + j by omega, this]
          rfl)
      have HE := Lib.hid (show hdg u :: acc = hexD v from by rw [← HA.out, hexD_small (by omega : u < 16)]; rfl)
      have HBF := Lib.hid (HBE.out.trans ((Below.refl w.heap.size wr).setCell (p := ⟨w.heap.size, i - 1, none⟩) (Nat.le_refl _) (.int .u8 ((hdg u).toNat : Int))))
      clear e7 hB9 hi1
      rw [HE.out] at hsl hcv
      go_wp2
      go_ret2
      exact ⟨rfl, HBF.out⟩
set_option maxRecDepth 20000 in
theorem lhexa (v : Nat) (hv : v < 18446744073709551616) {w : World} (he : Env w) : Calls Tryd.prog 36 #[.int .u64 v] w (NumIs w (hexW v)) := by
  have hl := hexD_len 16 v (by omega) (by omega)
  have l3 : ¬ 9223372036854775807 < 2 + (hexD v).length := by omega
  go_enter Tryd.func36, Tryd.ntmps36
  go_wp2_with (first | (go_at_call 84; refine (lfb v hv he).mono ?_; rintro e w1 ⟨rfl, hb⟩) | go_in)
  go_ret
  exact ⟨rfl, hb⟩
end Go.Proofs.YtjofegjiakjjhaaDoor
/- Script, the program: its table of kinds. -/
namespace Go.Proofs.YtjofegjiakjjhaaDoor
open Go.RowKit Go.Lib

/-- The table's cells. -/
def kindC : Array Value := #[.string ⟨#[]⟩, .string ⟨#[]⟩, .string ⟨#[108, 111, 97, 100]⟩, .string ⟨#[103, 120, 115, 119]⟩, .string ⟨#[115, 116, 111, 114, 101]⟩, .string ⟨#[103, 120, 115, 118, 119]⟩, .string ⟨#[102, 101, 116, 99, 104]⟩, .string ⟨#[103, 120, 115, 119]⟩, .string ⟨#[114, 111, 111, 116]⟩, .string ⟨#[103, 111, 120, 97]⟩, .string ⟨#[102, 108, 117, 115, 104]⟩, .string ⟨#[103, 108, 97, 120]⟩, .string ⟨#[111, 102, 102, 101, 114]⟩, .string ⟨#[103, 120]⟩, .string ⟨#[114, 101, 118, 111, 107, 101]⟩, .string ⟨#[103, 120]⟩, .string ⟨#[103, 105, 118, 101]⟩, .string ⟨#[103, 120]⟩, .string ⟨#[99, 114, 101, 97, 116, 101]⟩, .string ⟨#[]⟩, .string ⟨#[100, 101, 115, 116, 114, 111, 121]⟩, .string ⟨#[103]⟩, .string ⟨#[100, 111, 110, 97, 116, 101]⟩, .string ⟨#[103, 120]⟩, .string ⟨#[98, 108, 111, 99, 107]⟩, .string ⟨#[103, 120]⟩, .string ⟨#[110, 101, 119]⟩, .string ⟨#[]⟩, .string ⟨#[100, 114, 111, 112]⟩, .string ⟨#[112]⟩, .string ⟨#[108, 101, 110, 100]⟩, .string ⟨#[112, 103, 120, 114]⟩, .string ⟨#[114, 101, 116, 117, 114, 110]⟩, .string ⟨#[103, 120]⟩, .string ⟨#[103, 101, 116]⟩, .string ⟨#[112, 120, 115]⟩, .string ⟨#[112, 117, 116]⟩, .string ⟨#[112, 120, 115, 118]⟩, .string ⟨#[112, 101, 101, 107]⟩, .string ⟨#[103, 120, 115]⟩, .string ⟨#[112, 111, 107, 101]⟩, .string ⟨#[103, 120, 115, 118]⟩, .string ⟨#[109, 101, 114, 103, 101]⟩, .string ⟨#[103, 120]⟩, .string ⟨#[111, 117, 116]⟩, .string ⟨#[103, 120]⟩, .string ⟨#[105, 110]⟩, .string ⟨#[103, 120]⟩, .string ⟨#[99, 111, 108, 100]⟩, .string ⟨#[]⟩, .string ⟨#[108, 111, 103]⟩, .string ⟨#[103]⟩, .string ⟨#[117, 110, 108, 111, 103]⟩, .string ⟨#[103]⟩, .string ⟨#[99, 111, 108, 108, 101, 99, 116]⟩, .string ⟨#[103]⟩, .string ⟨#[115, 112, 108, 105, 116]⟩, .string ⟨#[103, 120]⟩, .string ⟨#[106, 111, 105, 110]⟩, .string ⟨#[103, 120]⟩, .string ⟨#[101, 118, 105, 99, 116]⟩, .string ⟨#[116, 119]⟩, .string ⟨#[102, 97, 105, 108]⟩, .string ⟨#[102]⟩, .string ⟨#[102, 97, 100, 101]⟩, .string ⟨#[]⟩]
def kindsV : Value := .agg kindC
set_option maxRecDepth 20000 in
set_option maxHeartbeats 4000000 in
theorem lkinds (w : World) : Calls Tryd.prog 24 #[] w fun e w' => e = .returned kindsV ∧ Below w.heap.size w w' := by
  go_enter Tryd.func24, Tryd.ntmps24
  go_upto_region 1 with fail
  rename_i hK
  apply wp_region_lit
  refine wlV1 (v := .agg #[.string ⟨#[108, 111, 97, 100]⟩, .string ⟨#[103, 120, 115, 119]⟩]) (by kernel_rfl) (by kernel_rfl) ?_
  (try simp only [Act.put, List.setIfInBounds_toArray, List.set_cons_zero, List.set_cons_succ])
  refine wlV1 (v := .agg #[.string ⟨#[115, 116, 111, 114, 101]⟩, .string ⟨#[103, 120, 115, 118, 119]⟩]) (by kernel_rfl) (by kernel_rfl) ?_
  (try simp only [Act.put, List.setIfInBounds_toArray, List.set_cons_zero, List.set_cons_succ])
  refine wlV1 (v := .agg #[.string ⟨#[102, 101, 116, 99, 104]⟩, .string ⟨#[103, 120, 115, 119]⟩]) (by kernel_rfl) (by kernel_rfl) ?_
  (try simp only [Act.put, List.setIfInBounds_toArray, List.set_cons_zero, List.set_cons_succ])
  refine wlV1 (v := .agg #[.string ⟨#[114, 111, 111, 116]⟩, .string ⟨#[103, 111, 120, 97]⟩]) (by kernel_rfl) (by kernel_rfl) ?_
  (try simp only [Act.put, List.setIfInBounds_toArray, List.set_cons_zero, List.set_cons_succ])
  refine wlV1 (v := .agg #[.string ⟨#[102, 108, 117, 115, 104]⟩, .string ⟨#[103, 108, 97, 120]⟩]) (by kernel_rfl) (by kernel_rfl) ?_
  (try simp only [Act.put, List.setIfInBounds_toArray, List.set_cons_zero, List.set_cons_succ])
  refine wlV1 (v := .agg #[.string ⟨#[111, 102, 102, 101, 114]⟩, .string ⟨#[103, 120]⟩]) (by kernel_rfl) (by kernel_rfl) ?_
  (try simp only [Act.put, List.setIfInBounds_toArray, List.set_cons_zero, List.set_cons_succ])
  refine wlV1 (v := .agg #[.string ⟨#[114, 101, 118, 111, 107, 101]⟩, .string ⟨#[103, 120]⟩]) (by kernel_rfl) (by kernel_rfl) ?_
  (try simp only [Act.put, List.setIfInBounds_toArray, List.set_cons_zero, List.set_cons_succ])
  refine wlV1 (v := .agg #[.string ⟨#[103, 105, 118, 101]⟩, .string ⟨#[103, 120]⟩]) (by kernel_rfl) (by kernel_rfl) ?_
  (try simp only [Act.put, List.setIfInBounds_toArray, List.set_cons_zero, List.set_cons_succ])
  refine wlV1 (v := .agg #[.string ⟨#[99, 114, 101, 97, 116, 101]⟩, .string ⟨#[]⟩]) (by kernel_rfl) (by kernel_rfl) ?_
  (try simp only [Act.put, List.setIfInBounds_toArray, List.set_cons_zero, List.set_cons_succ])
  refine wlV1 (v := .agg #[.string ⟨#[100, 101, 115, 116, 114, 111, 121]⟩, .string ⟨#[103]⟩]) (by kernel_rfl) (by kernel_rfl) ?_
  (try simp only [Act.put, List.setIfInBounds_toArray, List.set_cons_zero, List.set_cons_succ])
  refine wlV1 (v := .agg #[.string ⟨#[100, 111, 110, 97, 116, 101]⟩, .string ⟨#[103, 120]⟩]) (by kernel_rfl) (by kernel_rfl) ?_
  (try simp only [Act.put, List.setIfInBounds_toArray, List.set_cons_zero, List.set_cons_succ])
  refine wlV1 (v := .agg #[.string ⟨#[98, 108, 111, 99, 107]⟩, .string ⟨#[103, 120]⟩]) (by kernel_rfl) (by kernel_rfl) ?_
  (try simp only [Act.put, List.setIfInBounds_toArray, List.set_cons_zero, List.set_cons_succ])
  refine wlV1 (v := .agg #[.string ⟨#[110, 101, 119]⟩, .string ⟨#[]⟩]) (by kernel_rfl) (by kernel_rfl) ?_
  (try simp only [Act.put, List.setIfInBounds_toArray, List.set_cons_zero, List.set_cons_succ])
  refine wlV1 (v := .agg #[.string ⟨#[100, 114, 111, 112]⟩, .string ⟨#[112]⟩]) (by kernel_rfl) (by kernel_rfl) ?_
  (try simp only [Act.put, List.setIfInBounds_toArray, List.set_cons_zero, List.set_cons_succ])
  refine wlV1 (v := .agg #[.string ⟨#[108, 101, 110, 100]⟩, .string ⟨#[112, 103, 120, 114]⟩]) (by kernel_rfl) (by kernel_rfl) ?_
  (try simp only [Act.put, List.setIfInBounds_toArray, List.set_cons_zero, List.set_cons_succ])
  refine wlV1 (v := .agg #[.string ⟨#[114, 101, 116, 117, 114, 110]⟩, .string ⟨#[103, 120]⟩]) (by kernel_rfl) (by kernel_rfl) ?_
  (try simp only [Act.put, List.setIfInBounds_toArray, List.set_cons_zero, List.set_cons_succ])
  refine wlV1 (v := .agg #[.string ⟨#[103, 101, 116]⟩, .string ⟨#[112, 120, 115]⟩]) (by kernel_rfl) (by kernel_rfl) ?_
  (try simp only [Act.put, List.setIfInBounds_toArray, List.set_cons_zero, List.set_cons_succ])
  refine wlV1 (v := .agg #[.string ⟨#[112, 117, 116]⟩, .string ⟨#[112, 120, 115, 118]⟩]) (by kernel_rfl) (by kernel_rfl) ?_
  (try simp only [Act.put, List.setIfInBounds_toArray, List.set_cons_zero, List.set_cons_succ])
  refine wlV1 (v := .agg #[.string ⟨#[112, 101, 101, 107]⟩, .string ⟨#[103, 120, 115]⟩]) (by kernel_rfl) (by kernel_rfl) ?_
  (try simp only [Act.put, List.setIfInBounds_toArray, List.set_cons_zero, List.set_cons_succ])
  refine wlV1 (v := .agg #[.string ⟨#[112, 111, 107, 101]⟩, .string ⟨#[103, 120, 115, 118]⟩]) (by kernel_rfl) (by kernel_rfl) ?_
  (try simp only [Act.put, List.setIfInBounds_toArray, List.set_cons_zero, List.set_cons_succ])
  refine wlV1 (v := .agg #[.string ⟨#[109, 101, 114, 103, 101]⟩, .string ⟨#[103, 120]⟩]) (by kernel_rfl) (by kernel_rfl) ?_
  (try simp only [Act.put, List.setIfInBounds_toArray, List.set_cons_zero, List.set_cons_succ])
  refine wlV1 (v := .agg #[.string ⟨#[111, 117, 116]⟩, .string ⟨#[103, 120]⟩]) (by kernel_rfl) (by kernel_rfl) ?_
  (try simp only [Act.put, List.setIfInBounds_toArray, List.set_cons_zero, List.set_cons_succ])
  refine wlV1 (v := .agg #[.string ⟨#[105, 110]⟩, .string ⟨#[103, 120]⟩]) (by kernel_rfl) (by kernel_rfl) ?_
  (try simp only [Act.put, List.setIfInBounds_toArray, List.set_cons_zero, List.set_cons_succ])
  refine wlV1 (v := .agg #[.string ⟨#[99, 111, 108, 100]⟩, .string ⟨#[]⟩]) (by kernel_rfl) (by kernel_rfl) ?_
  (try simp only [Act.put, List.setIfInBounds_toArray, List.set_cons_zero, List.set_cons_succ])
  refine wlV1 (v := .agg #[.string ⟨#[108, 111, 103]⟩, .string ⟨#[103]⟩]) (by kernel_rfl) (by kernel_rfl) ?_
  (try simp only [Act.put, List.setIfInBounds_toArray, List.set_cons_zero, List.set_cons_succ])
  refine wlV1 (v := .agg #[.string ⟨#[117, 110, 108, 111, 103]⟩, .string ⟨#[103]⟩]) (by kernel_rfl) (by kernel_rfl) ?_
  (try simp only [Act.put, List.setIfInBounds_toArray, List.set_cons_zero, List.set_cons_succ])
  refine wlV1 (v := .agg #[.string ⟨#[99, 111, 108, 108, 101, 99, 116]⟩, .string ⟨#[103]⟩]) (by kernel_rfl) (by kernel_rfl) ?_
  (try simp only [Act.put, List.setIfInBounds_toArray, List.set_cons_zero, List.set_cons_succ])
  refine wlV1 (v := .agg #[.string ⟨#[115, 112, 108, 105, 116]⟩, .string ⟨#[103, 120]⟩]) (by kernel_rfl) (by kernel_rfl) ?_
  (try simp only [Act.put, List.setIfInBounds_toArray, List.set_cons_zero, List.set_cons_succ])
  refine wlV1 (v := .agg #[.string ⟨#[106, 111, 105, 110]⟩, .string ⟨#[103, 120]⟩]) (by kernel_rfl) (by kernel_rfl) ?_
  (try simp only [Act.put, List.setIfInBounds_toArray, List.set_cons_zero, List.set_cons_succ])
  refine wlV1 (v := .agg #[.string ⟨#[101, 118, 105, 99, 116]⟩, .string ⟨#[116, 119]⟩]) (by kernel_rfl) (by kernel_rfl) ?_
  (try simp only [Act.put, List.setIfInBounds_toArray, List.set_cons_zero, List.set_cons_succ])
  refine wlV1 (v := .agg #[.string ⟨#[102, 97, 105, 108]⟩, .string ⟨#[102]⟩]) (by kernel_rfl) (by kernel_rfl) ?_
  (try simp only [Act.put, List.setIfInBounds_toArray, List.set_cons_zero, List.set_cons_succ])
  refine wlV1 (v := .agg #[.string ⟨#[102, 97, 100, 101]⟩, .string ⟨#[]⟩]) (by kernel_rfl) (by kernel_rfl) ?_
  (try simp only [Act.put, List.setIfInBounds_toArray, List.set_cons_zero, List.set_cons_succ])
  refine wlV1 (v := .agg kindC) (by kernel_rfl) (by kernel_rfl) ?_
  (try simp only [Act.put, List.setIfInBounds_toArray, List.set_cons_zero, List.set_cons_succ])
  refine wpList_store_rowTo rfl 63 _ _ rfl rfl w.heap.size kindC rfl rfl 63 _ (heap_alloc_new w _) (by kernel_rfl) (by kernel_rfl) (by kernel_rfl) ?_
  refine wpList_nil ?_
  refine hK _ _ ?_
  apply wp_ret
  have hg := setRow_heap (w.alloc (.cells Tryd.zeroCells63 63)) w.heap.size Tryd.zeroCells63 kindC 63 (0, 0) (heap_alloc_new w _)
  refine bodyPost_ret (results_cell_row rfl _ _ w.heap.size 63 kindC (0, 0) _ rfl hg Tryd.underlying63 rfl (by kernel_rfl)) rfl ?_
  exact ⟨rfl, below_setRow ((Below.refl _ _).alloc (Nat.le_refl _) _) (Nat.le_refl _) _⟩
set_option maxRecDepth 20000 in
theorem lwhats (w : World) : Calls Tryd.prog 44 #[] w fun e w' => e = .returned (.agg #[bv [], bv [97, 108, 108], bv [97, 115, 105, 100], bv [118, 97]]) ∧ Below w.heap.size w w' := by
  go_enter Tryd.func44, Tryd.ntmps44
  go_wp2
  have hg := heap_alloc_new w (.cells #[.string ⟨#[]⟩, .string ⟨#[97, 108, 108]⟩, .string ⟨#[97, 115, 105, 100]⟩, .string ⟨#[118, 97]⟩] 88)
  refine bodyPost_ret (results_cell_row rfl _ _ w.heap.size 88 _ (0, 0) _ rfl hg Tryd.underlying88 rfl (by kernel_rfl)) rfl ?_
  exact ⟨rfl, (Below.refl _ _).alloc (Nat.le_refl _) _⟩
/-- The table's row n. -/
theorem kind_at {n : Nat} {w0 : Bs} {fs : List Fd} (h1 : 1 ≤ n) (h2 : n ≤ 32) (h : kdT[n]? = some (w0, fs)) : kindC[n * 2]? = some (bv w0) ∧ kindC[n * 2 + 1]? = some (bv (fs.map pcd)) := by
  rcases kind_cases h1 h2 with rfl | rfl | rfl | rfl | rfl | rfl | rfl | rfl | rfl | rfl | rfl | rfl | rfl | rfl | rfl | rfl | rfl | rfl | rfl | rfl | rfl | rfl | rfl | rfl | rfl | rfl | rfl | rfl | rfl | rfl | rfl | rfl
  all_goals
    cases h
    exact ⟨rfl, rfl⟩
end Go.Proofs.YtjofegjiakjjhaaDoor
