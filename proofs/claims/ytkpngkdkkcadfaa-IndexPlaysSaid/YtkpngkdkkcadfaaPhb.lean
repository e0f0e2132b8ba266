/- Rows of bytes; package bits: Get, Put. -/
import Derived.Test.YtkpngkdkkcadfaaPha
import Derived.Test.YtkpngkdkkcadfaaBuilt
namespace Go.Proofs.Ytkpngkdkkcadfaa
open Go.RowKit

def byI (g : Nat → Nat) (n : Nat) : List Int := (List.range n).map fun j => (g j : Int)
def byL (g : Nat → Nat) (n : Nat) : List Value := (byI g n).map (Value.int .u8)
section
variable {g g' : Nat → Nat} {n : Nat}
theorem byI_len : (byI g n).length = n := by unfold byI; rw [List.length_map, List.length_range]
theorem byL_len : (byL g n).length = n := by unfold byL; rw [List.length_map, byI_len]
theorem byI_get {j : Nat} (h : j < n) : (byI g n)[j]? = some (g j : Int) := by unfold byI; rw [List.getElem?_map, List.getElem?_range h]; rfl
theorem byL_get {j : Nat} (h : j < n) : (byL g n)[j]? = some (.int .u8 (g j)) := by unfold byL; rw [List.getElem?_map, byI_get h]; rfl
theorem byL_congr (h : ∀ j, j < n → g j = g' j) : byL g n = byL g' n := by
  apply List.ext_getElem?
  intro j
  by_cases hj : j < n
  · rw [byL_get hj, byL_get hj, h j hj]
  · rw [List.getElem?_eq_none (by rw [byL_len]; omega), List.getElem?_eq_none (by rw [byL_len]; omega)]
theorem byL_set {q x : Nat} : (byL g n).set q (.int .u8 x) = byL (fun j => if j = q then x else g j) n := by
  apply List.ext_getElem?
  intro j
  rw [List.getElem?_set]
  by_cases hj : j < n
  · rw [byL_get hj, byL_get hj, byL_len]
    by_cases e : q = j
    · subst e; rw [if_pos rfl, if_pos hj, if_pos rfl]
    · rw [if_neg e, if_neg (fun h => e h.symm)]
  · rw [List.getElem?_eq_none (l := byL _ n) (by rw [byL_len]; omega), List.getElem?_eq_none (l := byL _ n) (by rw [byL_len]; omega), byL_len]
    split
    · rw [if_neg (by omega)]
    · rfl
theorem byL_one : ∀ u ∈ byL g n, u.oneCell' = true := fun u hu => by
  unfold byL at hu
  obtain ⟨x, _, rfl⟩ := List.mem_map.1 hu
  rfl
end
/-- A row of bytes that a call owns. -/
abbrev BRow (w : World) (B : Nat) (v : Value) (g : Nat → Nat) : Prop := w.ownsRow B 5 1 v 4096 (byL g 4096)
def putB (G : Nat → Nat) (a s v : Nat) : Nat → Nat := fun j => if a ≤ j ∧ j < a + s then v / 2 ^ (8 * (j - a)) % 256 else G j
theorem infoY : (Try.prog.info? 5).map (fun i => (i.zero, i.size, i.bytes)) = some (some (.int .u8 0), 1, 1) := by kernel_rfl
def cntJ : Value → Nat
  | .int _ n => n.toNat
  | _ => 0
def PutR (w : World) (G : Nat → Nat) (a v s : Nat) (A : Option Addr) (cc : Nat) (vi : Value) (wr : World) : Prop := ∃ i : Nat, vi = .int .i64 i ∧ i ≤ s ∧ BRow wr w.heap.size (.slice A 4096 cc) (putB G a i v) ∧ Below w.heap.size w wr

set_option maxRecDepth 100000 in
set_option maxHeartbeats 4000000 in
theorem bput {w : World} {s a v Bd cc : Nat} {A : Option Addr} {G : Nat → Nat} (hs : s = 1 ∨ s = 8) (ha : a % s = 0) (hb : a + s ≤ 4096) (hr : Reads w Bd 1 A 4096 (byL G 4096)) :
    Calls Try.prog 27 #[.slice A 4096 cc, .int .i64 a, .int .i64 s, .int .u64 v] w fun e w' => ∃ v', e = .returned (.tuple #[v', .int .i64 0]) ∧ BRow w' w.heap.size v' (putB G a s v) ∧ Below w.heap.size w w' := by
  have C := Lib.hid (bcheck hs ha hb A cc w)
  have HR := Lib.hid hr
  have hs8 : s ≤ 8 := by omega
  obtain ⟨i0, hi0, hz0', hz1, hz2⟩ := info_parts infoY
  clear ha hs hr
  go_enter Try.func27, Try.ntmps27
  go_wp2_with fail
  refine C.out.mono ?_; rintro e w1 ⟨rfl, rfl⟩
  clear C
  go_wp2_with (first
    | (at_builtin; refine wpList_append_any _ rfl (.const (.slice none 0 0)) (.tmp 20) _ rfl w.heap.size 5 i0 _ 1 1 Try.underlying30 hi0 hz0' hz1 hz2 rfl (by omega) _ 0 [] rfl (World.ownsRow_nil _ _ _ _) Bd A 4096 cc (byL G 4096) rfl HR.out byL_one (by unfold maxLen; omega) (by omega) (Nat.le_refl _) ?_; intro v2 w4 hown2 hg4 hat2)
    | go_in)
  have hown : BRow w4 w.heap.size v2 G := hown2
  obtain ⟨g, cap, rfl, hgs, hgl⟩ := hown.form (by omega)
  have HO := Lib.hid hown
  have HB := Lib.hid (show Below w.heap.size w w4 from (Below.refl _ w).grown hg4 (Nat.le_refl _) (fun g h => by cases h))
  clear hown hown2 hg4 hat2 HR
  go_loopw [23] (PutR w G a v s (some ⟨g, 0, none⟩) cap) (fun v _ => s - cntJ v)
  case atStart => exact ⟨0, rfl, Nat.zero_le _, by
    rw [show putB G a 0 v = G from by funext j; unfold putB; rw [if_neg (by omega)]]
    exact HO.out, HB.out⟩
  case round =>
    clear HO HB
    obtain ⟨i, rfl, hi, hO, hB⟩ := hrel
    have HO := Lib.hid hO
    have HB := Lib.hid hB
    clear hO hB
    by_cases his : i < s
    · have g1 : decide ((i : Int) < (s : Int)) = true := by simp; exact his
      have g1' : decide (i < s) = true := by simp; exact his
      obtain ⟨q, hq, hq2⟩ : ∃ q : Nat, (a : Int) + (i : Int) = (q : Int) ∧ q = a + i := ⟨a + i, by simp, rfl⟩
      obtain ⟨k, hk, hk2⟩ : ∃ k : Nat, 8 * (i : Int) = (k : Int) ∧ k = 8 * i := ⟨8 * i, by simp, rfl⟩
      have hq4 : q < 4096 := by omega
      have hq4' : (q : Int) < 4096 := by omega
      have cw := (HO.out.cellAt q (by omega)).trans (byL_get hq4)
      have cz := HO.out.frozenAt q
      have HQ := Lib.hid hq2
      have HK := Lib.hid hk2
      clear hq2 hk2
      have HST := Lib.hid (HO.out.stored q (.int .u8 ((v / 2 ^ k % 256 : Nat) : Int))).1
      have hgq : w.heap.size ≤ g := (HO.out.lt g rfl).1
      go_wp2
      rw [show (v : Int) / 2 ^ k % 256 = ((v / 2 ^ k % 256 : Nat) : Int) from by simp]
      refine ⟨⟨i + 1, by go_num, by omega, ?_, HB.out.setCell (p := ⟨g, q, none⟩) hgq _⟩, by simp [cntJ]; omega⟩
      have h9 := HST.out
      rw [byL_set] at h9
      unfold BRow
      rw [show byL (putB G a (i + 1) v) 4096 = byL (fun j => if j = q then v / 2 ^ k % 256 else putB G a i v j) 4096 from byL_congr fun j _ => by
        have h1 := HQ.out
        have h2 := HK.out
        unfold putB
        by_cases e : j = q
        · rw [if_pos e, if_pos (by omega), show j - a = i by omega, h2]
        · rw [if_neg e]
          by_cases e2 : a ≤ j ∧ j < a + i
          · rw [if_pos (by omega), if_pos e2]
          · rw [if_neg (by omega), if_neg e2]]
      exact h9
    · obtain rfl : i = s := by omega
      have g1 : decide ((i : Int) < (i : Int)) = false := by simp
      go_wp2
      go_ret2
      exact ⟨_, rfl, HO.out, HB.out⟩
def GetR (w : World) (s : Nat) (vx vi : Value) (wr : World) : Prop := ∃ (i : Nat) (x : Int), vi = .int .i64 i ∧ vx = .int .u64 x ∧ i ≤ s ∧ wr = w
set_option maxRecDepth 100000 in
set_option maxHeartbeats 4000000 in
theorem bget {w : World} {s a Bd cc : Nat} {A : Option Addr} {G : Nat → Nat} (hs : s = 1 ∨ s = 8) (ha : a % s = 0) (hb : a + s ≤ 4096) (hr : Reads w Bd 1 A 4096 (byL G 4096)) :
    Calls Try.prog 44 #[.slice A 4096 cc, .int .i64 a, .int .i64 s] w fun e w' => ∃ x : Int, e = .returned (.tuple #[.int .u64 x, .int .i64 0]) ∧ w = w' := by
  have C := Lib.hid (bcheck hs ha hb A cc w)
  have HR := Lib.hid hr
  have hs8 : s ≤ 8 := by omega
  clear ha hs hr
  go_enter Try.func44, Try.ntmps44
  go_wp2_with fail
  refine C.out.mono ?_; rintro e w1 ⟨rfl, rfl⟩
  clear C
  go_wp2_with fail
  obtain ⟨wo, rfl⟩ : ∃ wo : World, wo = w := ⟨_, rfl⟩
  go_loopw [9, 19] (GetR wo s) (fun _ v _ => s - cntJ v)
  case atStart => exact ⟨0, 0, rfl, rfl, Nat.zero_le _, rfl⟩
  case round =>
    obtain ⟨i, x, rfl, rfl, hi, rfl⟩ := hrel
    by_cases his : i < s
    · have g1 : decide ((i : Int) < (s : Int)) = true := by simp; exact his
      have g1' : decide (i < s) = true := by simp; exact his
      obtain ⟨q, hq, hq2⟩ : ∃ q : Nat, (a : Int) + (i : Int) = (q : Int) ∧ q = a + i := ⟨a + i, by simp, rfl⟩
      obtain ⟨k, hk, hk2⟩ : ∃ k : Nat, 8 * (i : Int) = (k : Int) ∧ k ≤ 64 := ⟨8 * i, by simp, by omega⟩
      have hq4 : q < 4096 := by omega
      have hq4' : (q : Int) < 4096 := by omega
      obtain ⟨ad, y, rfl, _, hy, cw⟩ := HR.out.at_ hq4
      rw [byL_get hq4] at hy
      cases hy
      clear hq2
      go_wp2
      exact ⟨⟨i + 1, _, by go_num, rfl, by omega, rfl⟩, by simp [cntJ]; omega⟩
    · obtain rfl : i = s := by omega
      have g1 : decide ((i : Int) < (i : Int)) = false := by simp
      go_wp2
      go_ret2
      exact ⟨x, rfl, rfl⟩
end Go.Proofs.Ytkpngkdkkcadfaa
