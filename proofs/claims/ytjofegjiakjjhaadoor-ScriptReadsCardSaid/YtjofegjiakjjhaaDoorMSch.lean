import Derived.Test.YtjofegjiakjjhaaDoorMScc
import Derived.Test.YtjofegjiakjjhaaDoorMBuilt
import Derived.Test.YtjofegjiakjjhaaDoorChecked
import Derived.WalkSpells
import Derived.WalkLawsBesides
import Derived.RegionTactic
import Derived.Laws.IdiomStrings
import Derived.Lib.Hide
/- Script, the document's own: numbers. -/
namespace Go.Proofs.YtjofegjiakjjhaaDoor
open Go.RowKit Go.Lib

theorem bv_app (a b : Bs) : (⟨a.toArray⟩ ++ ⟨b.toArray⟩ : ByteArray) = ⟨(a ++ b).toArray⟩ := by
  apply ByteArray.ext
  simp
/-- 'string([]byte{k})'. -/
theorem conv1 (w : World) (k : UInt8) (z : Int) (hz : z = (k.toNat : Int)) : (convert 35 9 (.slice (some ⟨w.heap.size, 0, none⟩) 1 1)).run Tryd.prog (w.alloc (.cells #[.int .u8 z] 5)) = .ok (bv [k]) (w.alloc (.cells #[.int .u8 z] 5)) :=
  run_convert_bytes_back _ 35 9 5 ⟨w.heap.size, 0, none⟩ 1 [k] Tryd.underlying35 Tryd.underlying5 Tryd.underlying9 fun j hj => by
    have : j = 0 := by simp at hj; exact hj
    subst this
    subst hz
    exact World.cell?_alloc_at _ _ _ _ (by simp)
def NumIs (w : World) (l : Bs) (e : Ending) (w' : World) : Prop := e = .returned (bv l) ∧ Below w.heap.size w w'
set_option maxRecDepth 20000 in
set_option maxHeartbeats 1000000 in
theorem rnum_nat (n : Nat) (h : n ≤ 9223372036854775807) (w : World) :
    Calls Tryd.prog 37 #[.int .i64 n] w (NumIs w (decDigits n)) := by
  induction n using Nat.strongRecOn generalizing w with
  | ind n ih =>
    obtain ⟨z, hz⟩ : ∃ z : Int, (n : Int) = z := ⟨_, rfl⟩
    rw [hz]
    have q0 : decide (z < 0) = false := by simp; omega
    by_cases hn : n < 10
    · have q1 : decide (z < 10) = true := by simp; omega
      clear ih
      obtain ⟨k, hk⟩ : ∃ k, UInt8.ofNat (48 + n) = k := ⟨_, rfl⟩
      have e1 := conv1 w k (48 + z) (by rw [← hk, decB hn]; omega)
      rw [decD_small hn, hk]
      clear hk
      have hb := (Below.refl w.heap.size w).alloc (Nat.le_refl _) (.cells #[.int .u8 (48 + z)] 5)
      go_enter Tryd.func37, Tryd.ntmps37
      go_wp2
      go_ret
      exact ⟨rfl, hb⟩
    · have q1 : decide (z < 10) = false := by simp; omega
      have c1 := fun w => ih (n / 10) (by omega) (by omega) w
      have c2 := fun w => ih (n % 10) (by omega) (by omega) w
      rw [show ((n / 10 : Nat) : Int) = z / 10 by omega] at c1
      rw [show ((n % 10 : Nat) : Int) = z % 10 by omega] at c2
      have HC1 := Lib.hid c1
      have HC2 := Lib.hid c2
      have hzz : 0 ≤ z := by omega
      have HE := Lib.hid (show decDigits n = decDigits (n / 10) ++ decDigits (n % 10) by rw [decD_big hn, decD_small (show n % 10 < 10 by omega)])
      clear ih c1 c2
      go_enter Tryd.func37, Tryd.ntmps37
      go_wp2_with fail
      refine (HC1.out _).mono ?_; rintro e w1 ⟨rfl, hb1⟩
      go_wp2_with fail
      refine (HC2.out _).mono ?_; rintro e w2 ⟨rfl, hb2⟩
      have hb := hb1.trans (hb2.mono hb1.size)
      clear hb1 hb2
      have l1 := decD_len 19 (n / 10) (by omega) (by omega)
      have l2 := decD_len 19 (n % 10) (by omega) (by omega)
      have l3 : ¬ 9223372036854775807 < (decDigits (n / 10)).length + (decDigits (n % 10)).length := by omega
      go_wp2
      go_ret
      exact ⟨by rw [HE.out, bv_app]; rfl, hb⟩
set_option maxRecDepth 20000 in
set_option maxHeartbeats 1000000 in
theorem rnum (z : Int) (h0 : -9223372036854775808 ≤ z) (h1 : z ≤ 9223372036854775807) (w : World) :
    Calls Tryd.prog 37 #[.int .i64 z] w (NumIs w (itoa z)) := by
  by_cases hz : z < 0
  · have q0 : decide (z < 0) = true := by simp; exact hz
    by_cases hm : z = -9223372036854775808
    · subst hm
      go_enter Tryd.func37, Tryd.ntmps37
      go_wp2
      go_ret
      exact ⟨by simp [itoa, decDigits], Below.refl _ _⟩
    · have q1 : (z == -9223372036854775808) = false := by simp; exact hm
      have c1 := fun w => rnum_nat z.natAbs (by omega) w
      rw [show ((z.natAbs : Nat) : Int) = -z by omega] at c1
      have HC1 := Lib.hid c1
      clear c1
      go_enter Tryd.func37, Tryd.ntmps37
      go_wp2_with fail
      refine (HC1.out _).mono ?_; rintro e w1 ⟨rfl, hb1⟩
      have l1 := decD_len 19 z.natAbs (by omega) (by omega)
      have l3 : ¬ 9223372036854775807 < 1 + (decDigits z.natAbs).length := by omega
      go_wp2
      go_ret
      exact ⟨by rw [itoa, if_pos hz]; rfl, hb1⟩
  · have := rnum_nat z.toNat (by omega) w
    rw [Int.toNat_of_nonneg (by omega)] at this
    rw [itoa, if_neg hz]
    exact this
def HxR (v : Nat) (w : World) (vv vs : Value) (wr : World) : Prop := ∃ (u : Nat) (acc : Bs), vv = .int .u64 u ∧ vs = bv acc ∧ wr = w ∧ u ≤ v ∧ ((acc = [] ∧ u = v) ∨ (acc ≠ [] ∧ ((u = 0 ∧ acc = hexD v) ∨ (0 < u ∧ hexD u ++ acc = hexD v))))
def hxM (vv vs : Value) : Nat := match vv, vs with | .int _ u, .string s => u.toNat + (if s.size = 0 then 1 else 0) | _, _ => 0
set_option maxRecDepth 20000 in
set_option maxHeartbeats 1000000 in
theorem rhex (v : Nat) (hv : v < 18446744073709551616) (w : World) :
    Calls Tryd.prog 38 #[.int .u64 v] w fun e w' => e = .returned (bv (hexW v)) ∧ w' = w := by
  go_enter Tryd.func38, Tryd.ntmps38
  go_wp2
  go_loopw [0, 3] (HxR v w) (fun vv vs _ => hxM vv vs)
  case atStart => exact ⟨v, [], rfl, rfl, rfl, Nat.le_refl _, .inl ⟨rfl, rfl⟩⟩
  case round =>
    obtain ⟨u, acc, rfl, rfl, rfl, hu, hc⟩ := hrel
    have hx : ∀ k, k < 16 → (⟨#[48, 49, 50, 51, 52, 53, 54, 55, 56, 57, 97, 98, 99, 100, 101, 102]⟩ : ByteArray).extract k (k + 1) = ⟨[hdg k].toArray⟩ := fun k hk => by
      have : ∀ k : Fin 16, (⟨#[48, 49, 50, 51, 52, 53, 54, 55, 56, 57, 97, 98, 99, 100, 101, 102]⟩ : ByteArray).extract k.1 (k.1 + 1) = ⟨[hdg k.1].toArray⟩ := by decide
      exact this ⟨k, hk⟩
    have HX := Lib.hid hx
    clear hx
    by_cases ha : acc = []
    · subst ha
      obtain rfl : u = v := by
        rcases hc with h | h
        · exact h.2
        · exact absurd rfl h.1
      have l3 : ¬ 9223372036854775807 < 1 := by omega
      clear hc
      go_wp2
      rw [HX.out _ (by omega)]
      refine ⟨⟨u / 16, [hdg (u % 16)], by go_num, ?_, rfl, by omega, .inr ⟨by simp, ?_⟩⟩, ?_⟩
      · rw [show (⟨#[]⟩ : ByteArray) = ⟨([] : Bs).toArray⟩ from rfl, bv_app]; rfl
      · by_cases h : u < 16
        · exact .inl ⟨by omega, by rw [hexD_small h, Nat.mod_eq_of_lt h]⟩
        · exact .inr ⟨by omega, (hexD_big h).symm⟩
      · rw [show (⟨#[]⟩ : ByteArray) = ⟨([] : Bs).toArray⟩ from rfl, bv_app]
        simp [hxM, ByteArray.size]; omega
    · have i1 : List.isEmpty acc = false := by cases acc with | nil => exact absurd rfl ha | cons b l => rfl
      have l1 := hexD_len 16 v (by omega) (by omega)
      rcases hc with h | ⟨_, ⟨rfl, h⟩ | ⟨h0, h⟩⟩
      · exact absurd h.1 ha
      · have l3 : ¬ 9223372036854775807 < 2 + (hexD v).length := by omega
        rw [h] at i1
        clear ha
        subst h
        go_wp2
        go_ret
        exact ⟨rfl, rfl⟩
      · have l3 : ¬ 9223372036854775807 < 1 + acc.length := by
          have := congrArg List.length h
          rw [List.length_append] at this
          omega
        have i2 : decide (0 < u) = true := by simp; exact h0
        have i3 : (0 : Int) < (u : Int) := by omega
        clear ha
        go_wp2
        rw [HX.out _ (by omega), bv_app]
        have hs : (u : Int).toNat = u := by omega
        refine ⟨⟨u / 16, [hdg (u % 16)] ++ acc, by go_num, rfl, rfl, by omega, .inr ⟨by simp, ?_⟩⟩, ?_⟩
        · by_cases h5 : u < 16
          · exact .inl ⟨by omega, by rw [← h, hexD_small h5, Nat.mod_eq_of_lt h5]⟩
          · exact .inr ⟨by omega, by rw [← h, hexD_big h5, List.append_assoc]⟩
        · simp [hxM, ByteArray.size]; omega
end Go.Proofs.YtjofegjiakjjhaaDoor
/- Script, the document's own: has. -/
namespace Go.Proofs.YtjofegjiakjjhaaDoor
open Go.RowKit Go.Lib

def cntZ : Value → Nat | .int _ k => k.toNat | _ => 0
theorem cntZ_lt {a n : Nat} {k : IntKind} (h : a < n) : n - cntZ (.int k ((a : Int) + 1)) < n - cntZ (.int k (a : Int)) := by
  have e : (((a : Int) + 1).toNat) = a + 1 := by omega
  show n - ((a : Int) + 1).toNat < n - ((a : Int)).toNat
  rw [e]; omega
theorem byte_get (l : Bs) (i : Nat) (h : i < (⟨l.toArray⟩ : ByteArray).size) (h' : i < l.length) : (⟨l.toArray⟩ : ByteArray)[i]'h = l[i] := rfl
/-- Is a letter among those? -/
def HasR (l : Bs) (c : UInt8) (w : World) (v : Value) (wr : World) : Prop := ∃ i : Nat, v = .int .i64 i ∧ i ≤ l.length ∧ c ∉ l.take i ∧ wr = w
set_option maxRecDepth 20000 in
set_option maxHeartbeats 1000000 in
theorem rhas (l : Bs) (c : UInt8) (hl : l.length ≤ 1000) (w : World) :
    Calls Tryd.prog 47 #[bv l, .int .u8 (c.toNat : Int)] w fun e w' => e = .returned (.bool (l.contains c)) ∧ w = w' := by
  obtain ⟨z, hz⟩ : ∃ z : Int, (c.toNat : Int) = z := ⟨_, rfl⟩
  obtain ⟨n, hn⟩ : ∃ n, l.length = n := ⟨_, rfl⟩
  rw [hz]
  go_enter Tryd.func47, Tryd.ntmps47
  go_wp2
  go_loopw [5] (HasR l c w) (fun v _ => n - cntZ v)
  case atStart => exact ⟨0, rfl, Nat.zero_le _, by simp, rfl⟩
  case round =>
    obtain ⟨i, rfl, hi, hc, rfl⟩ := hrel
    by_cases hin : i < n
    · have g1 : decide ((i : Int) < (n : Int)) = true := by simp; exact hin
      have g1' : decide (i < n) = true := by simp; exact hin
      have hil : i < l.length := by omega
      have hsz : i < (⟨l.toArray⟩ : ByteArray).size := hil
      by_cases he : l[i] = c
      · have hq : ((((⟨l.toArray⟩ : ByteArray)[i]'hsz).toNat : Int) == z) = true := by
          rw [byte_get l i hsz hil, he, hz]; simp
        go_wp2
        go_ret
        exact ⟨by rw [show l.contains c = true from List.contains_iff_mem.2 (he ▸ List.getElem_mem hil)]; rfl, rfl⟩
      · have hq : ((((⟨l.toArray⟩ : ByteArray)[i]'hsz).toNat : Int) == z) = false := by
          rw [byte_get l i hsz hil, ← hz]
          simp only [beq_eq_false_iff_ne, ne_eq]
          exact fun e => he (UInt8.toNat_inj.1 (by omega))
        go_wp2
        refine ⟨⟨i + 1, by go_num, by omega, fun hm => ?_, rfl⟩, cntZ_lt hin⟩
        rw [List.take_succ_eq_append_getElem hil, List.mem_append, List.mem_singleton] at hm
        rcases hm with hm | hm
        · exact hc hm
        · exact he hm.symm
    · have g1 : decide ((i : Int) < (n : Int)) = false := by simp; omega
      have g1' : decide (i < n) = false := by simp; omega
      go_wp2
      go_ret
      refine ⟨?_, rfl⟩
      rw [List.take_of_length_le (by omega)] at hc
      have : l.contains c = false := by simpa using hc
      rw [this]; rfl
end Go.Proofs.YtjofegjiakjjhaaDoor
/- Script, the document's own: a field as a word. -/
namespace Go.Proofs.YtjofegjiakjjhaaDoor
open Go.RowKit Go.Lib

def rcd : Fd → UInt8
  | .g => 103 | .p => 112 | .s => 115 | .a => 97 | .w => 119 | .t => 101 | .x => 120 | .v => 118 | .o => 111 | .r => 109 | .l => 102 | .f => 98
def pcd : Fd → UInt8
  | .g => 103 | .p => 112 | .s => 115 | .a => 97 | .w => 119 | .t => 116 | .x => 120 | .v => 118 | .o => 111 | .r => 114 | .l => 108 | .f => 102
/-- A step's cells. -/
abbrev stC (s : St) (F : Value) : Array Value := #[.int .i64 s.kind, .int .i64 s.guest, .int .u64 s.addr, .int .i64 s.size, .int .u64 s.value, .int .i64 s.page, .bool s.on, .int .i64 s.asid, .int .i64 s.what, .int .i64 s.set, .int .i64 s.way, F]
abbrev i64ok (n : Int) : Prop := -9223372036854775808 ≤ n ∧ n ≤ 9223372036854775807
structure St.ok (s : St) : Prop extends St.wf s where
  kind : i64ok s.kind
  guest : i64ok s.guest
  size : i64ok s.size
  page : i64ok s.page
  asid : i64ok s.asid
  what : i64ok s.what
  set : i64ok s.set
  way : i64ok s.way
/-- A step in memory: F are its Fails. -/
def FailsAt (w : World) (B : Nat) (F : Value) (l : List Bool) : Prop := ∃ A c, F = .slice A l.length c ∧ Reads w B 1 A l.length (l.map Value.bool)
def FieldIs (s : St) (c : Fd) (w : World) (e : Ending) (w' : World) : Prop := ∃ x ok, e = .returned (.tuple #[bv x, .bool ok]) ∧ wrd s c = (if ok then some x else none) ∧ Below w.heap.size w w'
theorem decW_cases (n : Int) : (decide (0 ≤ n) = true ∧ decide (n < 2147483648) = true ∧ decW n = some (itoa n)) ∨ (decide (0 ≤ n) = true ∧ decide (n < 2147483648) = false ∧ decW n = none) ∨ (decide (0 ≤ n) = false ∧ decW n = none) := by
  by_cases h0 : 0 ≤ n
  · by_cases h1 : n < 2147483648
    · refine .inl ⟨by simpa using h0, by simpa using h1, ?_⟩
      rw [decW, if_pos ⟨h0, h1⟩, itoa, if_neg (by omega)]
    · refine .inr (.inl ⟨by simpa using h0, by simpa using h1, ?_⟩)
      rw [decW, if_neg (fun h => h1 h.2)]
  · refine .inr (.inr ⟨by simpa using h0, ?_⟩)
    rw [decW, if_neg (fun h => h0 h.1)]
set_option maxRecDepth 20000 in
set_option maxHeartbeats 8000000 in
theorem rfield_g (s : St) (hs : s.ok) (F : Value) (w : World) :
    Calls Tryd.prog 30 #[.agg (stC s F), .int .u8 103] w (FieldIs s .g w) := by
  obtain ⟨n, hn⟩ : ∃ n, s.guest = n := ⟨_, rfl⟩
  have hk := hs.guest
  rw [hn] at hk
  have HD := Lib.hid (show wrd s .g = decW n from by rw [← hn]; rfl)
  have hdc := decW_cases n
  unfold stC
  rw [hn]
  generalize s.kind = a0, s.guest = a1, s.addr = a2, s.size = a3, s.value = a4, s.page = a5, s.on = a6, s.asid = a7, s.what = a8, s.set = a9, s.way = a10
  have hbx := fun (cs : Array Value) => (Below.refl w.heap.size w).alloc (Nat.le_refl _) (.cells cs 25)
  clear hs hn
  rcases hdc with ⟨q1, q2, e9⟩ | ⟨q1, q2, e9⟩ | ⟨q1, e9⟩
  · have HE := Lib.hid e9
    clear e9
    go_enter Tryd.func30, Tryd.ntmps30
    go_wp2_with fail
    refine (rnum n hk.1 hk.2 _).mono ?_; rintro e w1 ⟨rfl, hb⟩
    go_wp2
    go_ret2
    exact ⟨_, true, rfl, HD.out.trans HE.out, (hbx _).trans (hb.mono (hbx _).size)⟩
  · have HE := Lib.hid e9
    clear e9
    go_enter Tryd.func30, Tryd.ntmps30
    go_wp2_with fail
    refine (rnum n hk.1 hk.2 _).mono ?_; rintro e w1 ⟨rfl, hb⟩
    go_wp2
    go_ret2
    exact ⟨_, false, rfl, HD.out.trans HE.out, (hbx _).trans (hb.mono (hbx _).size)⟩
  · have HE := Lib.hid e9
    clear e9
    go_enter Tryd.func30, Tryd.ntmps30
    go_wp2_with fail
    refine (rnum n hk.1 hk.2 _).mono ?_; rintro e w1 ⟨rfl, hb⟩
    go_wp2
    go_ret2
    exact ⟨_, false, rfl, HD.out.trans HE.out, (hbx _).trans (hb.mono (hbx _).size)⟩
set_option maxRecDepth 20000 in
set_option maxHeartbeats 8000000 in
theorem rfield_p (s : St) (hs : s.ok) (F : Value) (w : World) :
    Calls Tryd.prog 30 #[.agg (stC s F), .int .u8 112] w (FieldIs s .p w) := by
  obtain ⟨n, hn⟩ : ∃ n, s.page = n := ⟨_, rfl⟩
  have hk := hs.page
  rw [hn] at hk
  have HD := Lib.hid (show wrd s .p = decW n from by rw [← hn]; rfl)
  have hdc := decW_cases n
  unfold stC
  rw [hn]
  generalize s.kind = a0, s.guest = a1, s.addr = a2, s.size = a3, s.value = a4, s.page = a5, s.on = a6, s.asid = a7, s.what = a8, s.set = a9, s.way = a10
  have hbx := fun (cs : Array Value) => (Below.refl w.heap.size w).alloc (Nat.le_refl _) (.cells cs 25)
  clear hs hn
  rcases hdc with ⟨q1, q2, e9⟩ | ⟨q1, q2, e9⟩ | ⟨q1, e9⟩
  · have HE := Lib.hid e9
    clear e9
    go_enter Tryd.func30, Tryd.ntmps30
    go_wp2_with fail
    refine (rnum n hk.1 hk.2 _).mono ?_; rintro e w1 ⟨rfl, hb⟩
    go_wp2
    go_ret2
    exact ⟨_, true, rfl, HD.out.trans HE.out, (hbx _).trans (hb.mono (hbx _).size)⟩
  · have HE := Lib.hid e9
    clear e9
    go_enter Tryd.func30, Tryd.ntmps30
    go_wp2_with fail
    refine (rnum n hk.1 hk.2 _).mono ?_; rintro e w1 ⟨rfl, hb⟩
    go_wp2
    go_ret2
    exact ⟨_, false, rfl, HD.out.trans HE.out, (hbx _).trans (hb.mono (hbx _).size)⟩
  · have HE := Lib.hid e9
    clear e9
    go_enter Tryd.func30, Tryd.ntmps30
    go_wp2_with fail
    refine (rnum n hk.1 hk.2 _).mono ?_; rintro e w1 ⟨rfl, hb⟩
    go_wp2
    go_ret2
    exact ⟨_, false, rfl, HD.out.trans HE.out, (hbx _).trans (hb.mono (hbx _).size)⟩
set_option maxRecDepth 20000 in
set_option maxHeartbeats 8000000 in
theorem rfield_s (s : St) (hs : s.ok) (F : Value) (w : World) :
    Calls Tryd.prog 30 #[.agg (stC s F), .int .u8 115] w (FieldIs s .s w) := by
  obtain ⟨n, hn⟩ : ∃ n, s.size = n := ⟨_, rfl⟩
  have hk := hs.size
  rw [hn] at hk
  have HD := Lib.hid (show wrd s .s = decW n from by rw [← hn]; rfl)
  have hdc := decW_cases n
  unfold stC
  rw [hn]
  generalize s.kind = a0, s.guest = a1, s.addr = a2, s.size = a3, s.value = a4, s.page = a5, s.on = a6, s.asid = a7, s.what = a8, s.set = a9, s.way = a10
  have hbx := fun (cs : Array Value) => (Below.refl w.heap.size w).alloc (Nat.le_refl _) (.cells cs 25)
  clear hs hn
  rcases hdc with ⟨q1, q2, e9⟩ | ⟨q1, q2, e9⟩ | ⟨q1, e9⟩
  · have HE := Lib.hid e9
    clear e9
    go_enter Tryd.func30, Tryd.ntmps30
    go_wp2_with fail
    refine (rnum n hk.1 hk.2 _).mono ?_; rintro e w1 ⟨rfl, hb⟩
    go_wp2
    go_ret2
    exact ⟨_, true, rfl, HD.out.trans HE.out, (hbx _).trans (hb.mono (hbx _).size)⟩
  · have HE := Lib.hid e9
    clear e9
    go_enter Tryd.func30, Tryd.ntmps30
    go_wp2_with fail
    refine (rnum n hk.1 hk.2 _).mono ?_; rintro e w1 ⟨rfl, hb⟩
    go_wp2
    go_ret2
    exact ⟨_, false, rfl, HD.out.trans HE.out, (hbx _).trans (hb.mono (hbx _).size)⟩
  · have HE := Lib.hid e9
    clear e9
    go_enter Tryd.func30, Tryd.ntmps30
    go_wp2_with fail
    refine (rnum n hk.1 hk.2 _).mono ?_; rintro e w1 ⟨rfl, hb⟩
    go_wp2
    go_ret2
    exact ⟨_, false, rfl, HD.out.trans HE.out, (hbx _).trans (hb.mono (hbx _).size)⟩
set_option maxRecDepth 20000 in
set_option maxHeartbeats 8000000 in
theorem rfield_a (s : St) (hs : s.ok) (F : Value) (w : World) :
    Calls Tryd.prog 30 #[.agg (stC s F), .int .u8 97] w (FieldIs s .a w) := by
  obtain ⟨n, hn⟩ : ∃ n, s.asid = n := ⟨_, rfl⟩
  have hk := hs.asid
  rw [hn] at hk
  have HD := Lib.hid (show wrd s .a = decW n from by rw [← hn]; rfl)
  have hdc := decW_cases n
  unfold stC
  rw [hn]
  generalize s.kind = a0, s.guest = a1, s.addr = a2, s.size = a3, s.value = a4, s.page = a5, s.on = a6, s.asid = a7, s.what = a8, s.set = a9, s.way = a10
  have hbx := fun (cs : Array Value) => (Below.refl w.heap.size w).alloc (Nat.le_refl _) (.cells cs 25)
  clear hs hn
  rcases hdc with ⟨q1, q2, e9⟩ | ⟨q1, q2, e9⟩ | ⟨q1, e9⟩
  · have HE := Lib.hid e9
    clear e9
    go_enter Tryd.func30, Tryd.ntmps30
    go_wp2_with fail
    refine (rnum n hk.1 hk.2 _).mono ?_; rintro e w1 ⟨rfl, hb⟩
    go_wp2
    go_ret2
    exact ⟨_, true, rfl, HD.out.trans HE.out, (hbx _).trans (hb.mono (hbx _).size)⟩
  · have HE := Lib.hid e9
    clear e9
    go_enter Tryd.func30, Tryd.ntmps30
    go_wp2_with fail
    refine (rnum n hk.1 hk.2 _).mono ?_; rintro e w1 ⟨rfl, hb⟩
    go_wp2
    go_ret2
    exact ⟨_, false, rfl, HD.out.trans HE.out, (hbx _).trans (hb.mono (hbx _).size)⟩
  · have HE := Lib.hid e9
    clear e9
    go_enter Tryd.func30, Tryd.ntmps30
    go_wp2_with fail
    refine (rnum n hk.1 hk.2 _).mono ?_; rintro e w1 ⟨rfl, hb⟩
    go_wp2
    go_ret2
    exact ⟨_, false, rfl, HD.out.trans HE.out, (hbx _).trans (hb.mono (hbx _).size)⟩
set_option maxRecDepth 20000 in
set_option maxHeartbeats 8000000 in
theorem rfield_w (s : St) (hs : s.ok) (F : Value) (w : World) :
    Calls Tryd.prog 30 #[.agg (stC s F), .int .u8 119] w (FieldIs s .w w) := by
  obtain ⟨n, hn⟩ : ∃ n, s.way = n := ⟨_, rfl⟩
  have hk := hs.way
  rw [hn] at hk
  have HD := Lib.hid (show wrd s .w = decW n from by rw [← hn]; rfl)
  have hdc := decW_cases n
  unfold stC
  rw [hn]
  generalize s.kind = a0, s.guest = a1, s.addr = a2, s.size = a3, s.value = a4, s.page = a5, s.on = a6, s.asid = a7, s.what = a8, s.set = a9, s.way = a10
  have hbx := fun (cs : Array Value) => (Below.refl w.heap.size w).alloc (Nat.le_refl _) (.cells cs 25)
  clear hs hn
  rcases hdc with ⟨q1, q2, e9⟩ | ⟨q1, q2, e9⟩ | ⟨q1, e9⟩
  · have HE := Lib.hid e9
    clear e9
    go_enter Tryd.func30, Tryd.ntmps30
    go_wp2_with fail
    refine (rnum n hk.1 hk.2 _).mono ?_; rintro e w1 ⟨rfl, hb⟩
    go_wp2
    go_ret2
    exact ⟨_, true, rfl, HD.out.trans HE.out, (hbx _).trans (hb.mono (hbx _).size)⟩
  · have HE := Lib.hid e9
    clear e9
    go_enter Tryd.func30, Tryd.ntmps30
    go_wp2_with fail
    refine (rnum n hk.1 hk.2 _).mono ?_; rintro e w1 ⟨rfl, hb⟩
    go_wp2
    go_ret2
    exact ⟨_, false, rfl, HD.out.trans HE.out, (hbx _).trans (hb.mono (hbx _).size)⟩
  · have HE := Lib.hid e9
    clear e9
    go_enter Tryd.func30, Tryd.ntmps30
    go_wp2_with fail
    refine (rnum n hk.1 hk.2 _).mono ?_; rintro e w1 ⟨rfl, hb⟩
    go_wp2
    go_ret2
    exact ⟨_, false, rfl, HD.out.trans HE.out, (hbx _).trans (hb.mono (hbx _).size)⟩
set_option maxRecDepth 20000 in
set_option maxHeartbeats 8000000 in
theorem rfield_t (s : St) (hs : s.ok) (F : Value) (w : World) :
    Calls Tryd.prog 30 #[.agg (stC s F), .int .u8 101] w (FieldIs s .t w) := by
  obtain ⟨n, hn⟩ : ∃ n, s.set = n := ⟨_, rfl⟩
  have hk := hs.set
  rw [hn] at hk
  have HD := Lib.hid (show wrd s .t = decW n from by rw [← hn]; rfl)
  have hdc := decW_cases n
  unfold stC
  rw [hn]
  generalize s.kind = a0, s.guest = a1, s.addr = a2, s.size = a3, s.value = a4, s.page = a5, s.on = a6, s.asid = a7, s.what = a8, s.set = a9, s.way = a10
  have hbx := fun (cs : Array Value) => (Below.refl w.heap.size w).alloc (Nat.le_refl _) (.cells cs 25)
  clear hs hn
  rcases hdc with ⟨q1, q2, e9⟩ | ⟨q1, q2, e9⟩ | ⟨q1, e9⟩
  · have HE := Lib.hid e9
    clear e9
    go_enter Tryd.func30, Tryd.ntmps30
    go_wp2_with fail
    refine (rnum n hk.1 hk.2 _).mono ?_; rintro e w1 ⟨rfl, hb⟩
    go_wp2
    go_ret2
    exact ⟨_, true, rfl, HD.out.trans HE.out, (hbx _).trans (hb.mono (hbx _).size)⟩
  · have HE := Lib.hid e9
    clear e9
    go_enter Tryd.func30, Tryd.ntmps30
    go_wp2_with fail
    refine (rnum n hk.1 hk.2 _).mono ?_; rintro e w1 ⟨rfl, hb⟩
    go_wp2
    go_ret2
    exact ⟨_, false, rfl, HD.out.trans HE.out, (hbx _).trans (hb.mono (hbx _).size)⟩
  · have HE := Lib.hid e9
    clear e9
    go_enter Tryd.func30, Tryd.ntmps30
    go_wp2_with fail
    refine (rnum n hk.1 hk.2 _).mono ?_; rintro e w1 ⟨rfl, hb⟩
    go_wp2
    go_ret2
    exact ⟨_, false, rfl, HD.out.trans HE.out, (hbx _).trans (hb.mono (hbx _).size)⟩
set_option maxRecDepth 20000 in
set_option maxHeartbeats 8000000 in
theorem rfield_x (s : St) (hs : s.ok) (F : Value) (w : World) :
    Calls Tryd.prog 30 #[.agg (stC s F), .int .u8 120] w (FieldIs s .x w) := by
  have hk0 := hs.a0
  have hk1 := hs.a1
  obtain ⟨n, hn⟩ : ∃ n, s.addr = n := ⟨_, rfl⟩
  rw [hn] at hk0 hk1
  have HD := Lib.hid (show wrd s .x = some (hexW n.toNat) from by rw [← hn]; rfl)
  have HC := Lib.hid (fun w => rhex n.toNat (by omega) w)
  rw [Int.toNat_of_nonneg hk0] at HC
  unfold stC
  rw [hn]
  generalize s.kind = a0, s.guest = a1, s.addr = a2, s.size = a3, s.value = a4, s.page = a5, s.on = a6, s.asid = a7, s.what = a8, s.set = a9, s.way = a10
  have hbx := fun (cs : Array Value) => (Below.refl w.heap.size w).alloc (Nat.le_refl _) (.cells cs 25)
  clear hs hn hk0 hk1
  go_enter Tryd.func30, Tryd.ntmps30
  go_wp2_with fail
  refine (HC.out _).mono ?_; rintro e _ ⟨rfl, rfl⟩
  go_wp2
  go_ret2
  exact ⟨_, true, rfl, HD.out, hbx _⟩
set_option maxRecDepth 20000 in
set_option maxHeartbeats 8000000 in
theorem rfield_v (s : St) (hs : s.ok) (F : Value) (w : World) :
    Calls Tryd.prog 30 #[.agg (stC s F), .int .u8 118] w (FieldIs s .v w) := by
  have hk0 := hs.v0
  have hk1 := hs.v1
  obtain ⟨n, hn⟩ : ∃ n, s.value = n := ⟨_, rfl⟩
  rw [hn] at hk0 hk1
  have HD := Lib.hid (show wrd s .v = some (hexW n.toNat) from by rw [← hn]; rfl)
  have HC := Lib.hid (fun w => rhex n.toNat (by omega) w)
  rw [Int.toNat_of_nonneg hk0] at HC
  unfold stC
  rw [hn]
  generalize s.kind = a0, s.guest = a1, s.addr = a2, s.size = a3, s.value = a4, s.page = a5, s.on = a6, s.asid = a7, s.what = a8, s.set = a9, s.way = a10
  have hbx := fun (cs : Array Value) => (Below.refl w.heap.size w).alloc (Nat.le_refl _) (.cells cs 25)
  clear hs hn hk0 hk1
  go_enter Tryd.func30, Tryd.ntmps30
  go_wp2_with fail
  refine (HC.out _).mono ?_; rintro e _ ⟨rfl, rfl⟩
  go_wp2
  go_ret2
  exact ⟨_, true, rfl, HD.out, hbx _⟩
set_option maxRecDepth 20000 in
set_option maxHeartbeats 8000000 in
theorem rfield_o (s : St) (F : Value) (w : World) :
    Calls Tryd.prog 30 #[.agg (stC s F), .int .u8 111] w (FieldIs s .o w) := by
  have HD := Lib.hid (show wrd s .o = some (if s.on then [111, 110] else [111, 102, 102]) from rfl)
  have hbx := fun (cs : Array Value) => (Below.refl w.heap.size w).alloc (Nat.le_refl _) (.cells cs 25)
  cases hon : s.on with
  | true =>
    rw [hon] at HD
    unfold stC
    rw [hon]
    clear hon
    go_enter Tryd.func30, Tryd.ntmps30
    go_wp2
    go_ret2
    exact ⟨[111, 110], true, rfl, HD.out, hbx _⟩
  | false =>
    rw [hon] at HD
    unfold stC
    rw [hon]
    clear hon
    go_enter Tryd.func30, Tryd.ntmps30
    go_wp2
    go_ret2
    exact ⟨[111, 102, 102], true, rfl, HD.out, hbx _⟩
set_option maxRecDepth 20000 in
set_option maxHeartbeats 8000000 in
theorem rfield_r (s : St) (F : Value) (w : World) :
    Calls Tryd.prog 30 #[.agg (stC s F), .int .u8 109] w (FieldIs s .r w) := by
  have HD := Lib.hid (show wrd s .r = some (if s.on then [114, 119] else [114, 111]) from rfl)
  have hbx := fun (cs : Array Value) => (Below.refl w.heap.size w).alloc (Nat.le_refl _) (.cells cs 25)
  cases hon : s.on with
  | true =>
    rw [hon] at HD
    unfold stC
    rw [hon]
    clear hon
    go_enter Tryd.func30, Tryd.ntmps30
    go_wp2
    go_ret2
    exact ⟨[114, 119], true, rfl, HD.out, hbx _⟩
  | false =>
    rw [hon] at HD
    unfold stC
    rw [hon]
    clear hon
    go_enter Tryd.func30, Tryd.ntmps30
    go_wp2
    go_ret2
    exact ⟨[114, 111], true, rfl, HD.out, hbx _⟩
theorem what_cases (n : Int) : (decide (n < 1) = true ∧ whatW n = none) ∨ (decide (n < 1) = false ∧ decide (n > 3) = true ∧ whatW n = none) ∨ (n = 1 ∧ whatW n = some [97, 108, 108]) ∨ (n = 2 ∧ whatW n = some [97, 115, 105, 100]) ∨ (n = 3 ∧ whatW n = some [118, 97]) := by
  by_cases h1 : n < 1
  · exact .inl ⟨by simpa using h1, by rw [whatW, if_neg (by omega), if_neg (by omega), if_neg (by omega)]⟩
  · by_cases h3 : 3 < n
    · exact .inr (.inl ⟨by simpa using h1, by simpa using h3, by rw [whatW, if_neg (by omega), if_neg (by omega), if_neg (by omega)]⟩)
    · rcases (show n = 1 ∨ n = 2 ∨ n = 3 by omega) with rfl | rfl | rfl
      · exact .inr (.inr (.inl ⟨rfl, rfl⟩))
      · exact .inr (.inr (.inr (.inl ⟨rfl, rfl⟩)))
      · exact .inr (.inr (.inr (.inr ⟨rfl, rfl⟩)))
set_option maxRecDepth 20000 in
set_option maxHeartbeats 8000000 in
theorem rfield_l (s : St) (F : Value) (w : World) :
    Calls Tryd.prog 30 #[.agg (stC s F), .int .u8 102] w (FieldIs s .l w) := by
  have hbx := fun (cs : Array Value) => (Below.refl w.heap.size w).alloc (Nat.le_refl _) (.cells cs 25)
  have hby := fun (cs ds : Array Value) => ((Below.refl w.heap.size w).alloc (Nat.le_refl _) (.cells cs 25)).alloc (show w.heap.size ≤ _ from by simp) (.cells ds 9)
  obtain ⟨n, hn⟩ : ∃ n, s.what = n := ⟨_, rfl⟩
  unfold stC
  rw [hn]
  have hd : wrd s .l = whatW n := by rw [← hn]; rfl
  clear hn
  rcases what_cases n with ⟨q1, e⟩ | ⟨q1, q2, e⟩ | ⟨rfl, e⟩ | ⟨rfl, e⟩ | ⟨rfl, e⟩
  · have HD := Lib.hid (hd.trans e)
    clear hd e
    go_enter Tryd.func30, Tryd.ntmps30
    go_wp2
    go_ret2
    exact ⟨_, false, rfl, HD.out, hbx _⟩
  · have HD := Lib.hid (hd.trans e)
    clear hd e
    go_enter Tryd.func30, Tryd.ntmps30
    go_wp2
    go_ret2
    exact ⟨_, false, rfl, HD.out, hbx _⟩
  · have HD := Lib.hid (hd.trans e)
    clear hd e
    go_enter Tryd.func30, Tryd.ntmps30
    go_wp2
    go_ret2
    exact ⟨_, true, rfl, HD.out, hby _ _⟩
  · have HD := Lib.hid (hd.trans e)
    clear hd e
    go_enter Tryd.func30, Tryd.ntmps30
    go_wp2
    go_ret2
    exact ⟨_, true, rfl, HD.out, hby _ _⟩
  · have HD := Lib.hid (hd.trans e)
    clear hd e
    go_enter Tryd.func30, Tryd.ntmps30
    go_wp2
    go_ret2
    exact ⟨_, true, rfl, HD.out, hby _ _⟩
end Go.Proofs.YtjofegjiakjjhaaDoor
/- Script, the document's own: Fails as a word; field. -/
namespace Go.Proofs.YtjofegjiakjjhaaDoor
open Go.RowKit Go.Lib

def failM (l : List Bool) : Bs := l.map fun b => if b then 120 else 111
theorem failM_snoc {l : List Bool} {i : Nat} {b : Bool} (h : l[i]? = some b) : failM (l.take (i + 1)) = failM (l.take i) ++ [if b then 120 else 111] := by
  unfold failM
  obtain ⟨hl, e⟩ := List.getElem?_eq_some_iff.1 h
  rw [List.take_succ_eq_append_getElem hl, List.map_append, e]; rfl
def FlR (l : List Bool) (w : World) (v vi : Value) (wr : World) : Prop := ∃ i : Nat, vi = .int .i64 i ∧ i ≤ l.length ∧ v = bv (failM (l.take i)) ∧ wr = w
theorem failM_len (l : List Bool) (i : Nat) (h : i ≤ l.length) : (failM (l.take i)).length = i := by
  unfold failM; rw [List.length_map, List.length_take]; omega
set_option maxRecDepth 20000 in
set_option maxHeartbeats 8000000 in
theorem rfield_f (s : St) (F : Value) (w : World) (hf : FailsAt w w.heap.size F s.fails) (hl : s.fails.length ≤ 1000000) :
    Calls Tryd.prog 30 #[.agg (stC s F), .int .u8 98] w (FieldIs s .f w) := by
  have hbx := (Below.refl w.heap.size w).alloc (Nat.le_refl _) (.cells (stC s F) 25)
  obtain ⟨A, cc, rfl, hr⟩ := hf
  have HR := Lib.hid (hr.below hbx)
  have HB := Lib.hid hbx
  obtain ⟨l, hl9⟩ : ∃ l, s.fails = l := ⟨_, rfl⟩
  have HD := Lib.hid (show wrd s .f = some (failW l) from by rw [← hl9]; rfl)
  rw [hl9] at hl HR HB ⊢
  obtain ⟨n, hn⟩ : ∃ n, l.length = n := ⟨_, rfl⟩
  rw [hn] at hl HR HB ⊢
  clear hr hbx hl9
  unfold stC at HR HB ⊢
  generalize s.kind = a0, s.guest = a1, s.addr = a2, s.size = a3, s.value = a4, s.page = a5, s.on = a6, s.asid = a7, s.what = a8, s.set = a9, s.way = a10 at *
  have HN := Lib.hid hn
  clear hn
  go_enter Tryd.func30, Tryd.ntmps30
  have c11 : (w.alloc (.cells #[.int .i64 a0, .int .i64 a1, .int .u64 a2, .int .i64 a3, .int .u64 a4, .int .i64 a5, .bool a6, .int .i64 a7, .int .i64 a8, .int .i64 a9, .int .i64 a10, .slice A n cc] 25)).cell? ⟨w.heap.size, 11, none⟩ = some (.slice A n cc) := World.cell?_alloc_at _ _ _ _ (by simp)
  go_wp2_with fail
  generalize w.alloc (.cells #[.int .i64 a0, .int .i64 a1, .int .u64 a2, .int .i64 a3, .int .u64 a4, .int .i64 a5, .bool a6, .int .i64 a7, .int .i64 a8, .int .i64 a9, .int .i64 a10, .slice A n cc] 25) = w0 at *
  go_loopw [7, 8] (FlR l w0) (fun _ v _ => n - cntZ v)
  case atStart => exact ⟨0, rfl, Nat.zero_le _, rfl, rfl⟩
  case round =>
    obtain ⟨i, rfl, hi, rfl, rfl⟩ := hrel
    have hi' : i ≤ n := by rw [← HN.out]; exact hi
    by_cases hin : i < n
    · have g1 : decide ((i : Int) < (n : Int)) = true := by simp; exact hin
      have g1' : decide (i < n) = true := by simp; exact hin
      have hin2 : (i : Int) < (n : Int) := by omega
      obtain ⟨b, hb⟩ : ∃ b, l[i]? = some b := ⟨_, List.getElem?_eq_getElem (by rw [HN.out]; exact hin)⟩
      obtain ⟨ad, rfl, hadb, hc⟩ := HR.out.2 (by omega)
      have ci := hc i (.bool b) (by rw [List.getElem?_map, hb]; rfl)
      have HF := Lib.hid (failM_snoc hb)
      have l1 := failM_len l i hi
      have l3 : ¬ 9223372036854775807 < (failM (l.take i)).length + 1 := by omega
      clear hb hc hadb
      cases b with
      | true =>
        go_wp2
        exact ⟨⟨i + 1, by go_num, by rw [HN.out]; omega, by rw [HF.out]; exact congrArg Value.string (bv_app _ [120]), rfl⟩, cntZ_lt hin⟩
      | false =>
        go_wp2
        exact ⟨⟨i + 1, by go_num, by rw [HN.out]; omega, by rw [HF.out]; exact congrArg Value.string (bv_app _ [111]), rfl⟩, cntZ_lt hin⟩
    · obtain rfl : i = n := by omega
      have g1 : decide ((i : Int) < (i : Int)) = false := by simp
      rw [List.take_of_length_le (by rw [HN.out]; exact Nat.le_refl _)]
      by_cases he : l = []
      · have HE := Lib.hid (show failW l = [45] from by rw [failW, if_pos he])
        have i1 : List.isEmpty (failM l) = true := by rw [he]; rfl
        clear he
        go_wp2
        go_ret2
        exact ⟨[45], true, rfl, by rw [HD.out, HE.out]; rfl, HB.out⟩
      · have HE := Lib.hid (show failW l = failM l from by rw [failW, if_neg he]; rfl)
        have i1 : List.isEmpty (failM l) = false := by cases l with | nil => exact absurd rfl he | cons b l => rfl
        clear he
        go_wp2
        go_ret2
        exact ⟨failM l, true, rfl, by rw [HD.out, HE.out]; rfl, HB.out⟩
theorem rfield (s : St) (hs : s.ok) (F : Value) (w : World) (hf : FailsAt w w.heap.size F s.fails) (hl : s.fails.length ≤ 1000000) (c : Fd) :
    Calls Tryd.prog 30 #[.agg (stC s F), .int .u8 ((rcd c).toNat : Int)] w (FieldIs s c w) := by
  cases c
  · exact rfield_g s hs F w
  · exact rfield_p s hs F w
  · exact rfield_s s hs F w
  · exact rfield_a s hs F w
  · exact rfield_w s hs F w
  · exact rfield_t s hs F w
  · exact rfield_x s hs F w
  · exact rfield_v s hs F w
  · exact rfield_o s F w
  · exact rfield_r s F w
  · exact rfield_l s F w
  · exact rfield_f s F w hf hl
end Go.Proofs.YtjofegjiakjjhaaDoor
