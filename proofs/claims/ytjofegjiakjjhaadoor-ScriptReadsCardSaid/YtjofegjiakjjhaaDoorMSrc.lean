import Derived.Test.YtjofegjiakjjhaaDoorMScu
import Derived.Test.YtjofegjiakjjhaaDoorMSpt
/- Script, the document's own: num. -/
namespace Go.Proofs.YtjofegjiakjjhaaDoor
open Go.RowKit Go.Lib

def NmR (l : Bs) (w : World) (v3 vi : Value) (wr : World) : Prop := ∃ i k : Nat, vi = .int .i64 i ∧ v3 = .int .i64 k ∧ i ≤ l.length ∧ numF 0 (l.take i) = some k ∧ k < 10 ^ i ∧ wr = w
theorem numF_snoc {l : Bs} {i k : Nat} (h : i < l.length) (hk : numF 0 (l.take i) = some k) : numF 0 (l.take (i + 1)) = if 48 ≤ (l[i]).toNat ∧ (l[i]).toNat ≤ 57 then some (k * 10 + ((l[i]).toNat - 48)) else none := by
  rw [List.take_succ_eq_append_getElem h, numF_app, hk, Option.bind_some, numF]
  split <;> rfl
theorem numF_none {l : Bs} {i : Nat} (h : numF 0 (l.take i) = none) : numF 0 l = none := by
  rw [← List.take_append_drop i l, numF_app, h]; rfl
set_option maxRecDepth 20000 in
set_option maxHeartbeats 4000000 in
theorem rnumr (l : Bs) (hl0 : l.length ≤ 100000) (w : World) : Calls Tryd.prog 52 #[bv l] w fun e w' => e = .returned (.int .i64 (numR l)) ∧ w = w' := by
  obtain ⟨n, hn⟩ : ∃ n, l.length = n := ⟨_, rfl⟩
  by_cases h0 : n = 0
  · have hq : ((n : Int) == 0) = true := by simp; exact h0
    have HE := Lib.hid (show numR l = -1 from by rw [numR, if_pos (.inl (hn.trans h0))])
    clear hl0
    go_enter Tryd.func52, Tryd.ntmps52
    go_wp2
    go_ret
    exact ⟨by rw [HE.out]; rfl, rfl⟩
  · have hq : ((n : Int) == 0) = false := by simp; exact h0
    by_cases h10 : 10 < n
    · have hq2 : decide ((n : Int) > 10) = true := decide_eq_true (by omega)
      have hq2' : decide (10 < n) = true := decide_eq_true h10
      have HE := Lib.hid (show numR l = -1 from by rw [numR, if_pos (.inr (by omega))])
      clear hl0
      go_enter Tryd.func52, Tryd.ntmps52
      go_wp2
      go_ret
      exact ⟨by rw [HE.out]; rfl, rfl⟩
    · have hq2 : decide ((n : Int) > 10) = false := decide_eq_false (by omega)
      have hq2' : decide (10 < n) = false := decide_eq_false h10
      have HE := Lib.hid (show numR l = match numF 0 l with | some n => (n : Int) | none => -1 from by rw [numR, if_neg (by omega)]; cases numF 0 l <;> rfl)
      go_enter Tryd.func52, Tryd.ntmps52
      go_wp2
      go_loopw [3, 4] (NmR l w) (fun _ v _ => n - cntZ v)
      case atStart => exact ⟨0, 0, rfl, rfl, Nat.zero_le _, rfl, by simp, rfl⟩
      case round =>
        obtain ⟨i, k, rfl, rfl, hi, hk, hkb, rfl⟩ := hrel
        have hk10 : k ≤ 9999999999 := by
          have : 10 ^ i ≤ 10 ^ 10 := Nat.pow_le_pow_right (by omega) (by omega)
          omega
        have HKB := Lib.hid hkb
        have HKK := Lib.hid hk
        clear hkb hk
        by_cases hin : i < n
        · have g1 : decide ((i : Int) < (n : Int)) = true := by simp; exact hin
          have g1' : decide (i < n) = true := by simp; exact hin
          have hil : i < l.length := by omega
          have hsz : i < (⟨l.toArray⟩ : ByteArray).size := hil
          obtain ⟨z, hz⟩ : ∃ z : Nat, ((⟨l.toArray⟩ : ByteArray)[i]'hsz).toNat = z := ⟨_, rfl⟩
          have hz256 : z < 256 := by rw [← hz]; exact UInt8.toNat_lt _
          have HS := Lib.hid (numF_snoc hil HKK.out)
          have HZ := Lib.hid (show (l[i]).toNat = z from hz)
          by_cases h48 : z < 48
          · have g2 : decide ((z : Int) < 48) = true := decide_eq_true (by omega)
            have g2' : decide (z < 48) = true := decide_eq_true h48
            have HN := Lib.hid (show numF 0 l = none from numF_none (i := i + 1) (by rw [HS.out, HZ.out, if_neg (by omega)]))
            go_wp2
            go_ret
            exact ⟨by rw [HE.out, HN.out]; rfl, rfl⟩
          · have g2 : decide ((z : Int) < 48) = false := decide_eq_false (by omega)
            have g2' : decide (z < 48) = false := decide_eq_false h48
            by_cases h57 : 57 < z
            · have g3 : decide ((z : Int) > 57) = true := decide_eq_true (by omega)
              have g3' : decide (57 < z) = true := decide_eq_true h57
              have HN := Lib.hid (show numF 0 l = none from numF_none (i := i + 1) (by rw [HS.out, HZ.out, if_neg (by omega)]))
              go_wp2
              go_ret
              exact ⟨by rw [HE.out, HN.out]; rfl, rfl⟩
            · have g3 : decide ((z : Int) > 57) = false := decide_eq_false (by omega)
              have g3' : decide (57 < z) = false := decide_eq_false h57
              go_wp2
              refine ⟨⟨i + 1, k * 10 + (z - 48), by go_num, by congr 1; omega, by omega, by rw [HS.out, HZ.out, if_pos (by omega)], by have := HKB.out; rw [Nat.pow_succ]; omega, rfl⟩, cntZ_lt hin⟩
        · have g1 : decide ((i : Int) < (n : Int)) = false := by simp; omega
          have g1' : decide (i < n) = false := by simp; omega
          have HN := Lib.hid (show numF 0 l = some k from by rw [← HKK.out, List.take_of_length_le (by omega)])
          go_wp2
          go_ret
          exact ⟨by rw [HE.out, HN.out]; rfl, rfl⟩
end Go.Proofs.YtjofegjiakjjhaaDoor
/- Script, the document's own: hex. -/
namespace Go.Proofs.YtjofegjiakjjhaaDoor
open Go.RowKit Go.Lib

def hxo (o : Option Nat) (v k : Nat) : Nat := match o with | some j => if j < k then v * 16 + j else v | none => v
theorem hval_iff {b : UInt8} {k : Nat} (hk : k < 16) : hdg k = b ↔ hval b = some k := by
  constructor
  · rintro rfl; exact hval_hdg hk
  · have : ∀ n : Fin 256, ∀ k : Fin 16, hval (UInt8.ofNat n.1) = some k.1 → hdg k.1 = UInt8.ofNat n.1 := by decide +kernel
    have h9 := this ⟨b.toNat, UInt8.toNat_lt b⟩ ⟨k, hk⟩
    have e : UInt8.ofNat b.toNat = b := by simp
    rw [e] at h9
    exact h9
theorem hval_lt {b : UInt8} {k : Nat} (h : hval b = some k) : k < 16 := by
  unfold hval at h
  split at h
  · injection h with h; omega
  · split at h
    · injection h with h; omega
    · cases h
def HrI (w : World) (b : UInt8) (v : Nat) (v3 vk : Value) (wr : World) : Prop := ∃ k : Nat, vk = .int .i64 k ∧ k ≤ 16 ∧ v3 = .int .u64 (hxo (hval b) v k) ∧ ∃ q, wr = w.drewN q
def HrO (w : World) (l : Bs) (v3 vi : Value) (wr : World) : Prop := ∃ i v : Nat, vi = .int .i64 i ∧ v3 = .int .u64 v ∧ 2 ≤ i ∧ (i = 2 ∨ (i ≤ l.length ∧ i ≤ 18)) ∧ v = hexF 0 ((l.drop 2).take (i - 2)) ∧ v < 16 ^ (i - 2) ∧ ∃ q, wr = w.drewN q
theorem hexF_snoc {l : Bs} {i : Nat} (h : i < l.length) (h2 : 2 ≤ i) : hexF 0 ((l.drop 2).take (i + 1 - 2)) = hxo (hval (l[i])) (hexF 0 ((l.drop 2).take (i - 2))) 16 := by
  have hd : i - 2 < (l.drop 2).length := by rw [List.length_drop]; omega
  rw [show i + 1 - 2 = (i - 2) + 1 by omega, List.take_succ_eq_append_getElem hd, hexF_app]
  have e : (l.drop 2)[i - 2] = l[i] := by rw [List.getElem_drop]; congr 1; omega
  rw [e, hexF, hexF]
  unfold hxo
  cases hv : hval (l[i]) with
  | none => rfl
  | some j =>
    dsimp only
    rw [if_pos (hval_lt hv)]
set_option maxRecDepth 20000 in
set_option maxHeartbeats 4000000 in
theorem rhexr (l : Bs) (hl0 : l.length ≤ 100000) (w : World) : Calls Tryd.prog 53 #[bv l] w fun e w' => e = .returned (.int .u64 (hexR l)) ∧ ∃ q, w' = w.drewN q := by
  obtain ⟨n, hn⟩ : ∃ n, l.length = n := ⟨_, rfl⟩
  have hS : ∀ k, k < 16 → ∀ h : k < (⟨#[48, 49, 50, 51, 52, 53, 54, 55, 56, 57, 97, 98, 99, 100, 101, 102]⟩ : ByteArray).size, (⟨#[48, 49, 50, 51, 52, 53, 54, 55, 56, 57, 97, 98, 99, 100, 101, 102]⟩ : ByteArray)[k]'h = hdg k := by
    intro k hk
    have : ∀ k : Fin 16, ∀ h : k.1 < (⟨#[48, 49, 50, 51, 52, 53, 54, 55, 56, 57, 97, 98, 99, 100, 101, 102]⟩ : ByteArray).size, (⟨#[48, 49, 50, 51, 52, 53, 54, 55, 56, 57, 97, 98, 99, 100, 101, 102]⟩ : ByteArray)[k.1]'h = hdg k.1 := by decide
    exact this ⟨k, hk⟩
  have HS := Lib.hid hS
  clear hS
  go_enter Tryd.func53, Tryd.ntmps53
  go_wp2
  go_loopw [3, 4] (HrO w l) (fun _ v _ => 18 - cntZ v)
  case atStart => exact ⟨2, 0, rfl, rfl, Nat.le_refl _, .inl rfl, by simp [hexF], by simp, 0, rfl⟩
  case round =>
    obtain ⟨i, v, rfl, rfl, hi2, hi, hv, hvb, q, rfl⟩ := hrel
    have HV := Lib.hid hv
    have HVB := Lib.hid hvb
    clear hv hvb
    by_cases hin : i < n ∧ i < 18
    · obtain ⟨hin, h18⟩ := hin
      have g1 : decide ((i : Int) < (n : Int)) = true := by simp; exact hin
      have g1' : decide (i < n) = true := by simp; exact hin
      have g2 : decide ((i : Int) < 18) = true := decide_eq_true (by omega)
      have g2' : decide (i < 18) = true := decide_eq_true h18
      have hil : i < l.length := by omega
      have hsz : i < (⟨l.toArray⟩ : ByteArray).size := hil
      obtain ⟨b, hb⟩ : ∃ b, l[i] = b := ⟨_, rfl⟩
      have HSN := Lib.hid (hexF_snoc hil hi2)
      obtain ⟨z, hz⟩ : ∃ z : Nat, ((⟨l.toArray⟩ : ByteArray)[i]'hsz).toNat = z := ⟨_, rfl⟩
      have HZ := Lib.hid (show b.toNat = z from by rw [← hb]; exact hz)
      have HB := Lib.hid hb
      have hvv : v ≤ 1152921504606846975 := by
        have : 16 ^ (i - 2) ≤ 16 ^ 15 := Nat.pow_le_pow_right (by omega) (by omega)
        have := HVB.out
        omega
      clear hb
      go_wp2_with fail
      go_loopw [3, 5] (HrI w b v) (fun _ x _ => 16 - cntZ x)
      case atStart => exact ⟨0, rfl, by omega, by unfold hxo; cases hval b <;> simp, _, rfl⟩
      case round =>
        obtain ⟨k, rfl, hk, rfl, q', rfl⟩ := hrel
        obtain ⟨x, hx⟩ : ∃ x, hxo (hval b) v k = x := ⟨_, rfl⟩
        have HX := Lib.hid hx
        rw [hx]
        clear hx
        by_cases hk16 : k < 16
        · have r1 : decide ((k : Int) < 16) = true := decide_eq_true (by omega)
          have r1' : decide (k < 16) = true := decide_eq_true hk16
          have r3 : (k : Int) < 16 := by omega
          have r4 : (i : Int) < (n : Int) := by omega
          have hsk : k < (⟨#[48, 49, 50, 51, 52, 53, 54, 55, 56, 57, 97, 98, 99, 100, 101, 102]⟩ : ByteArray).size := hk16
          obtain ⟨y, hy⟩ : ∃ y : Nat, ((⟨#[48, 49, 50, 51, 52, 53, 54, 55, 56, 57, 97, 98, 99, 100, 101, 102]⟩ : ByteArray)[k]'hsk).toNat = y := ⟨_, rfl⟩
          have HY := Lib.hid (show (hdg k).toNat = y from by rw [← HS.out k hk16 hsk]; exact hy)
          by_cases hyz : y = z
          · have r2 : ((y : Int) == (z : Int)) = true := by simp; omega
            have r2' : (y == z) = true := by simp; exact hyz
            have hvk : hval b = some k := (hval_iff hk16).1 (UInt8.toNat_inj.1 (by rw [HY.out, HZ.out, hyz]))
            have hxv : x = v := by rw [← HX.out, hvk]; unfold hxo; dsimp only; rw [if_neg (by omega)]
            have HK2 := Lib.hid (show hxo (hval b) v (k + 1) = v * 16 + k from by rw [hvk]; unfold hxo; dsimp only; rw [if_pos (by omega)])
            subst hxv
            clear hvk hyz
            go_wp2_with fail
            go_quiet (fail)
            go_wp2
            go_roundw
            case rel => exact ⟨k + 1, by go_num, by omega, by rw [HK2.out]; go_num, _, rfl⟩
            case measure => simp [cntZ]; omega
          · have r2 : ((y : Int) == (z : Int)) = false := by simp; omega
            have r2' : (y == z) = false := by simp; exact hyz
            have hvk : hval b ≠ some k := fun e => hyz (by rw [← HY.out, ← HZ.out, (hval_iff hk16).2 e])
            have HK2 := Lib.hid (show hxo (hval b) v (k + 1) = x from by
              rw [← HX.out]
              cases hv : hval b with
              | none => rfl
              | some j =>
                have hjk : j ≠ k := fun e => hvk (by rw [hv, e])
                unfold hxo; dsimp only
                by_cases hj : j < k
                · rw [if_pos hj, if_pos (by omega)]
                · rw [if_neg hj, if_neg (by omega)])
            clear hvk hyz
            go_wp2_with fail
            go_quiet (fail)
            go_wp2
            go_roundw
            case rel => exact ⟨k + 1, by go_num, by omega, by rw [HK2.out], _, rfl⟩
            case measure => simp [cntZ]; omega
        · obtain rfl : k = 16 := by omega
          have HX2 := Lib.hid (show hexF 0 ((l.drop 2).take (i + 1 - 2)) = x from by rw [HSN.out, HB.out, ← HV.out, HX.out])
          have HXB := Lib.hid (show x < 16 ^ (i + 1 - 2) from by
            rw [← HX.out, show i + 1 - 2 = (i - 2) + 1 by omega, Nat.pow_succ]
            have := HVB.out
            cases hv : hval b with
            | none => unfold hxo; dsimp only; omega
            | some j => have := hval_lt hv; unfold hxo; dsimp only; rw [if_pos (by omega)]; omega)
          go_wp2
          go_roundw
          case rel => exact ⟨i + 1, x, by go_num, rfl, by omega, .inr (by omega), HX2.out.symm, HXB.out, _, rfl⟩
          case measure => simp [cntZ]; omega
    · have HE := Lib.hid (show hexR l = v from by
        rw [HV.out]
        unfold hexR
        rcases hi with e | ⟨e1, e2⟩
        · subst e
          have : l.drop 2 = [] := List.drop_eq_nil_of_le (by omega)
          rw [this]; rfl
        · congr 1
          by_cases h18 : i = 18
          · subst h18; rfl
          · rw [List.take_of_length_le (by rw [List.length_drop]; omega), List.take_of_length_le (by rw [List.length_drop]; omega)])
      rcases (show n ≤ i ∨ (i < n ∧ 18 ≤ i) by omega) with h | ⟨h, h'⟩
      · have g1 : decide ((i : Int) < (n : Int)) = false := decide_eq_false (by omega)
        have g1' : decide (i < n) = false := decide_eq_false (by omega)
        go_wp2
        go_ret
        exact ⟨by rw [HE.out]; rfl, _, rfl⟩
      · have g1 : decide ((i : Int) < (n : Int)) = true := decide_eq_true (by omega)
        have g1' : decide (i < n) = true := decide_eq_true h
        have g2 : decide ((i : Int) < 18) = false := decide_eq_false (by omega)
        have g2' : decide (i < 18) = false := decide_eq_false (by omega)
        go_wp2
        go_ret
        exact ⟨by rw [HE.out]; rfl, _, rfl⟩
end Go.Proofs.YtjofegjiakjjhaaDoor
/- Script, the document's own: split. -/
namespace Go.Proofs.YtjofegjiakjjhaaDoor
open Go.RowKit Go.Lib Mf

theorem extract_bv (l : Bs) (j i : Nat) : (⟨l.toArray⟩ : ByteArray).extract j i = ⟨((l.take i).drop j).toArray⟩ := by
  apply ByteArray.ext
  apply Array.toList_inj.1
  rw [extract_data]
  simp [List.drop_take]
def SpR (w : World) (l : Bs) (v3 vj vi : Value) (wr : World) : Prop := ∃ (i j : Nat) (ws : List Bs), vi = .int .i64 i ∧ vj = .int .i64 j ∧ i ≤ l.length + 1 ∧ ((i ≤ l.length ∧ j ≤ i ∧ cutL 32 l = ws ++ cutL 32 (l.drop j) ∧ (32 : UInt8) ∉ (l.take i).drop j) ∨ (i = l.length + 1 ∧ j = i ∧ cutL 32 l = ws)) ∧ ws.length ≤ i ∧ wr.ownsRow w.heap.size 9 1 v3 ws.length (ws.map bv) ∧ Below w.heap.size w wr
theorem drop_cut {l : Bs} {i j : Nat} {c : UInt8} (hi : i < l.length) (hj : j ≤ i) (hc : l[i] = c) : l.drop j = (l.take i).drop j ++ c :: l.drop (i + 1) := by
  have h1 : l = l.take i ++ c :: l.drop (i + 1) := by
    conv => lhs; rw [← List.take_append_drop i l, List.drop_eq_getElem_cons hi, hc]
  conv => lhs; rw [h1]
  rw [List.drop_append_of_le_length (by rw [List.length_take]; omega)]
set_option maxRecDepth 20000 in
set_option maxHeartbeats 4000000 in
theorem rsplit (l : Bs) (hl0 : l.length ≤ 100000) (w : World) : Calls Tryd.prog 33 #[bv l] w fun e w' => ∃ v, e = .returned v ∧ w'.ownsRow w.heap.size 9 1 v (cutL 32 l).length ((cutL 32 l).map bv) ∧ Below w.heap.size w w' := by
  obtain ⟨n, hn⟩ : ∃ n, l.length = n := ⟨_, rfl⟩
  obtain ⟨i0, hi0, hz0', hz1, hz2⟩ := info_parts infoS
  go_enter Tryd.func33, Tryd.ntmps33
  go_wp2
  go_loopw [3, 4, 5] (SpR w l) (fun _ _ v _ => n + 1 - cntZ v)
  case atStart => exact ⟨0, 0, [], rfl, rfl, Nat.zero_le _, .inl ⟨Nat.zero_le _, Nat.le_refl _, rfl, by simp⟩, Nat.le_refl _, World.ownsRow_nil _ _ _ _, Below.refl _ _⟩
  case round =>
    obtain ⟨i, j, ws, rfl, rfl, hi, hc, hwl, hW, hbe⟩ := hrel
    have HW := Lib.hid hW
    have HBE := Lib.hid hbe
    clear hW hbe
    by_cases hin : i ≤ n
    · have g1 : decide ((i : Int) ≤ (n : Int)) = true := decide_eq_true (by omega)
      have g1' : decide (i ≤ n) = true := decide_eq_true hin
      rcases hc with ⟨_, hji, hcut, hno⟩ | ⟨e, _⟩
      · have HCU := Lib.hid hcut
        have HNO := Lib.hid hno
        clear hcut hno
        by_cases hie : i = n
        · have g2 : ((i : Int) == (n : Int)) = true := by simp; omega
          have g2' : (i == n) = true := by simp; exact hie
          have HF := Lib.hid (show cutL 32 l = ws ++ [(l.take i).drop j] from by
            have e1 : l.take i = l := List.take_of_length_le (by omega)
            have h9 := HNO.out
            rw [e1] at h9 ⊢
            rw [HCU.out, cutL_no 32 _ h9])
          clear hie
          have hbx := (Below.refl wr.heap.size wr).alloc (Nat.le_refl _) (.cells #[bv ((l.take i).drop j)] 9)
          have HBX := Lib.hid hbx
          clear hbx
          have hsz9 := HBE.out.size
          have hex := extract_bv l j i
          go_wp2_with (first
            | (at_builtin; refine wpList_append_any _ rfl (.tmp 22) (.tmp 27) _ rfl w.heap.size 9 i0 _ 1 16 Tryd.underlying36 hi0 hz0' hz1 hz2 rfl (by omega) u3 _ _ rfl (HW.out.alloc _) _ (some ⟨wr.heap.size, 0, none⟩) 1 1 [bv ((l.take i).drop j)] rfl (reads_one1 wr _ _) (by simp; rfl) (by unfold maxLen; omega) (by omega) (by simp; omega) ?_; intro v2 w4 hown2 hg4 hat4)
            | fail)
          refine ⟨⟨i + 1, i + 1, ws ++ [(l.take i).drop j], by go_num, by go_num, by omega, .inr ⟨by simp at g2'; omega, rfl, HF.out⟩, by simp; omega, by rw [List.length_append, List.map_append]; exact hown2, (HBE.out.trans (HBX.out.mono hsz9)).grown hg4 (by simp; omega) (fun g hg => (HW.out.lt g hg).1)⟩, ?_⟩
          have := cntZ_lt (a := i) (n := n + 1) (k := .i64) (by omega)
          exact this
        · have g2 : ((i : Int) == (n : Int)) = false := by simp; omega
          have g2' : (i == n) = false := by simp; exact hie
          have hil : i < l.length := by omega
          have hin2 : i < n := by omega
          have hsz : i < (⟨l.toArray⟩ : ByteArray).size := hil
          obtain ⟨z, hz⟩ : ∃ z : Nat, ((⟨l.toArray⟩ : ByteArray)[i]'hsz).toNat = z := ⟨_, rfl⟩
          have HZ := Lib.hid (show (l[i]).toNat = z from hz)
          clear hie
          by_cases h32 : z = 32
          · have g3 : ((z : Int) == 32) = true := by simp; omega
            have g3' : (z == 32) = true := by simp; exact h32
            have hl32 : l[i] = 32 := UInt8.toNat_inj.1 (by rw [HZ.out, h32]; rfl)
            have HF := Lib.hid (show cutL 32 l = (ws ++ [(l.take i).drop j]) ++ cutL 32 (l.drop (i + 1)) from by
              rw [HCU.out, drop_cut hil hji hl32, cutL_hit 32 _ _ HNO.out, List.append_assoc]; rfl)
            clear h32 hl32
            have hbx := (Below.refl wr.heap.size wr).alloc (Nat.le_refl _) (.cells #[bv ((l.take i).drop j)] 9)
            have HBX := Lib.hid hbx
            clear hbx
            have hsz9 := HBE.out.size
            have hex := extract_bv l j i
            go_wp2_with (first
              | (at_builtin; refine wpList_append_any _ rfl (.tmp 22) (.tmp 27) _ rfl w.heap.size 9 i0 _ 1 16 Tryd.underlying36 hi0 hz0' hz1 hz2 rfl (by omega) u3 _ _ rfl (HW.out.alloc _) _ (some ⟨wr.heap.size, 0, none⟩) 1 1 [bv ((l.take i).drop j)] rfl (reads_one1 wr _ _) (by simp; rfl) (by unfold maxLen; omega) (by omega) (by simp; omega) ?_; intro v2 w4 hown2 hg4 hat4)
              | fail)
            refine ⟨⟨i + 1, i + 1, ws ++ [(l.take i).drop j], by go_num, by go_num, by omega, .inl ⟨by omega, Nat.le_refl _, HF.out, by rw [List.drop_eq_nil_of_le (by rw [List.length_take]; omega)]; simp⟩, by simp; omega, by rw [List.length_append, List.map_append]; exact hown2, (HBE.out.trans (HBX.out.mono hsz9)).grown hg4 (by simp; omega) (fun g hg => (HW.out.lt g hg).1)⟩, ?_⟩
            have := cntZ_lt (a := i) (n := n + 1) (k := .i64) (by omega)
            exact this
          · have g3 : ((z : Int) == 32) = false := by simp; omega
            have g3' : (z == 32) = false := by simp; exact h32
            have hne : l[i] ≠ 32 := fun e => h32 (by rw [← HZ.out, e]; rfl)
            clear h32
            go_wp2
            refine ⟨⟨i + 1, j, ws, by go_num, rfl, by omega, .inl ⟨by omega, by omega, HCU.out, ?_⟩, by omega, HW.out, HBE.out⟩, ?_⟩
            · rw [List.take_succ_eq_append_getElem hil, List.drop_append_of_le_length (by rw [List.length_take]; omega), List.mem_append, List.mem_singleton]
              rintro (h | h)
              · exact HNO.out h
              · exact hne h.symm
            · have := cntZ_lt (a := i) (n := n + 1) (k := .i64) (by omega)
              exact this
      · omega
    · have g1 : decide ((i : Int) ≤ (n : Int)) = false := decide_eq_false (by omega)
      have g1' : decide (i ≤ n) = false := decide_eq_false hin
      rcases hc with ⟨h, _⟩ | ⟨_, _, hcut⟩
      · omega
      · have HCU := Lib.hid hcut
        clear hcut
        go_wp2
        go_ret
        exact ⟨_, rfl, by rw [HCU.out]; exact HW.out, HBE.out⟩
end Go.Proofs.YtjofegjiakjjhaaDoor
