import Derived.Test.YtjofegjiakjjhaaDoorMSpt
import Derived.Test.YtjofegjiakjjhaaDoorMSrf
import Derived.Lib.ConvBytes
/- Script, the program: ParseUint at base 16, within package internal/strconv. -/
namespace Go.Proofs.YtjofegjiakjjhaaDoor
open Go.RowKit Go.Lib Mf

theorem low32 (z : Nat) (h : z < 256) : bits .or .u8 (z : Int) 32 = ((z ||| 32 : Nat) : Int) ∧ (z ||| 32) < 256 := by
  have : ∀ n : Fin 256, bits .or .u8 ((n.1 : Nat) : Int) 32 = ((n.1 ||| 32 : Nat) : Int) ∧ (n.1 ||| 32) < 256 := by decide +kernel
  exact this ⟨z, h⟩
theorem llower (z : Nat) (h : z < 256) (w : World) : Calls Tryd.prog 78 #[.int .u8 (z : Int)] w fun e w' => e = .returned (.int .u8 ((z ||| 32 : Nat) : Int)) ∧ w = w' := by
  have e1 := (low32 z h).1
  go_enter Tryd.func78, Tryd.ntmps78
  go_wp2
  go_ret
  exact ⟨rfl, rfl⟩
/-- A byte as a digit, the three ways. -/
theorem puD_cases (b : UInt8) : (48 ≤ b.toNat ∧ b.toNat ≤ 57 ∧ puD b = some (b.toNat - 48)) ∨ (¬ (48 ≤ b.toNat ∧ b.toNat ≤ 57) ∧ 97 ≤ (b.toNat ||| 32) ∧ (b.toNat ||| 32) ≤ 122 ∧ puD b = some ((b.toNat ||| 32) - 87)) ∨ (¬ (48 ≤ b.toNat ∧ b.toNat ≤ 57) ∧ ¬ (97 ≤ (b.toNat ||| 32) ∧ (b.toNat ||| 32) ≤ 122) ∧ puD b = none) := by
  have : ∀ n : Fin 256, (48 ≤ (UInt8.ofNat n.1).toNat ∧ (UInt8.ofNat n.1).toNat ≤ 57 ∧ puD (UInt8.ofNat n.1) = some ((UInt8.ofNat n.1).toNat - 48)) ∨ (¬ (48 ≤ (UInt8.ofNat n.1).toNat ∧ (UInt8.ofNat n.1).toNat ≤ 57) ∧ 97 ≤ ((UInt8.ofNat n.1).toNat ||| 32) ∧ ((UInt8.ofNat n.1).toNat ||| 32) ≤ 122 ∧ puD (UInt8.ofNat n.1) = some (((UInt8.ofNat n.1).toNat ||| 32) - 87)) ∨ (¬ (48 ≤ (UInt8.ofNat n.1).toNat ∧ (UInt8.ofNat n.1).toNat ≤ 57) ∧ ¬ (97 ≤ ((UInt8.ofNat n.1).toNat ||| 32) ∧ ((UInt8.ofNat n.1).toNat ||| 32) ≤ 122) ∧ puD (UInt8.ofNat n.1) = none) := by decide +kernel
  have h := this ⟨b.toNat, UInt8.toNat_lt b⟩
  have e : UInt8.ofNat b.toNat = b := by simp
  rw [e] at h
  exact h
theorem puG_lt {n : Nat} {l : Bs} {k : Nat} (hn : n < 18446744073709551616) (h : puG n l = .ok k) : k < 18446744073709551616 := by
  induction l generalizing n with
  | nil => rw [puG] at h; injection h with h; omega
  | cons b l ih =>
    rw [puG] at h
    cases hd : puD b with
    | none => rw [hd] at h; cases h
    | some d =>
      rw [hd] at h
      dsimp only at h
      by_cases h1 : 16 ≤ d
      · rw [if_pos h1] at h; cases h
      · by_cases h2 : 1152921504606846976 ≤ n
        · rw [if_neg h1, if_pos h2] at h; cases h
        · rw [if_neg h1, if_neg h2] at h
          exact ih (by omega) h
theorem puG_stop {n : Nat} {l m : Bs} {e : PuR} (h : puG n l = e) (he : ∀ k, e ≠ .ok k) : puG n (l ++ m) = e := by
  induction l generalizing n with
  | nil => rw [puG] at h; exact absurd h.symm (he n)
  | cons b l ih =>
    rw [puG] at h
    rw [List.cons_append, puG]
    cases hd : puD b with
    | none => rw [hd] at h; exact h
    | some d =>
      rw [hd] at h
      dsimp only at h ⊢
      by_cases h1 : 16 ≤ d
      · rw [if_pos h1] at h ⊢; exact h
      · by_cases h2 : 1152921504606846976 ≤ n
        · rw [if_neg h1, if_pos h2] at h ⊢; exact h
        · rw [if_neg h1, if_neg h2] at h ⊢
          exact ih h
def IpuIs (l : Bs) (w : World) (e : Ending) (w' : World) : Prop := ((∃ v, hexO l = some v ∧ e = .returned (.tuple #[.int .u64 v, .nilIface])) ∨ (∃ v k, hexO l = none ∧ (k = 1 ∨ k = 2) ∧ e = .returned (.tuple #[.int .u64 v, .iface 111 (.int .i64 k)]))) ∧ Below w.heap.size w w'
def IpR (l : Bs) (w1 : World) (v12 v13 vi : Value) (wr : World) : Prop := v12 = .bool false ∧ ∃ i n : Nat, vi = .int .i64 i ∧ v13 = .int .u64 n ∧ i ≤ l.length ∧ puG 0 (l.take i) = .ok n ∧ wr = w1
set_option maxRecDepth 20000 in
set_option maxHeartbeats 4000000 in
theorem lipu (l : Bs) (hl0 : l.length ≤ 1000000) (w : World) : Calls Tryd.prog 63 #[bv l, .int .i64 16, .int .i64 64] w (IpuIs l w) := by
  by_cases hl : l = []
  · subst hl
    go_enter Tryd.func63, Tryd.ntmps63
    go_wp2
    go_ret2
    exact ⟨.inr ⟨_, 2, rfl, .inr rfl, rfl⟩, Below.refl _ _⟩
  · have i1 : List.isEmpty l = false := by cases l with | nil => exact absurd rfl hl | cons b l => rfl
    have HNE := Lib.hid hl
    obtain ⟨n, hn⟩ : ∃ n, l.length = n := ⟨_, rfl⟩
    clear hl
    have hcv := Go.Lib.run_convert_string_bytes (P := Tryd.prog) w 9 35 5 ⟨l.toArray⟩ Tryd.underlying9 Tryd.underlying35 Tryd.underlying5
    rw [show (⟨l.toArray⟩ : ByteArray).size = n from by rw [← hn]; simp [ByteArray.size]] at hcv
    have HCL := Lib.hid (fun j (hj : j < l.length) => (show (Go.Lib.bytesWorld w 5 ⟨l.toArray⟩).cell? ⟨w.heap.size, j, none⟩ = some (.int .u8 ((l[j]).toNat : Int)) from by
      rw [Go.Lib.bytesWorld_cell w 5 ⟨l.toArray⟩ j (by simpa [ByteArray.size] using hj)]
      congr 3
      simp [List.getD, hj]))
    have HBE := Lib.hid (Go.Joins.below_bytesWorld w.heap.size w 5 ⟨l.toArray⟩ (Nat.le_refl _))
    have hw1 : IntKind.u64.wrap (IntKind.u64.wrap 18446744073709551616 - 1) = 18446744073709551615 := by decide
    generalize Go.Lib.bytesWorld w 5 ⟨l.toArray⟩ = w1 at *
    generalize grownCap w n 0 5 = cap at *
    go_enter Tryd.func63, Tryd.ntmps63
    go_wp2_with fail
    clear hcv
    go_loopw [12, 13, 101] (IpR l w1) (fun _ _ v _ => n - cntZ v)
    case atStart => exact ⟨rfl, 0, 0, rfl, rfl, Nat.zero_le _, rfl, rfl⟩
    case round =>
      obtain ⟨rfl, i, a, rfl, rfl, hi, hpu, rfl⟩ := hrel
      have HPU := Lib.hid hpu
      have ha64 := puG_lt (by omega) hpu
      clear hpu
      by_cases hin : i < n
      · have g1 : decide ((i : Int) < (n : Int)) = true := by simp; exact hin
        have g1' : decide (i < n) = true := by simp; exact hin
        have hil : i < l.length := by omega
        have hin2 : (i : Int) < (n : Int) := by omega
        have hci := HCL.out i hil
        obtain ⟨b, hb⟩ : ∃ b, l[i] = b := ⟨_, rfl⟩
        rw [hb] at hci
        have HTK := Lib.hid (show l.take (i + 1) = l.take i ++ [b] from by rw [List.take_succ_eq_append_getElem hil, hb])
        have HLT := Lib.hid (show l = l.take i ++ b :: l.drop (i + 1) from by
          conv => lhs; rw [← List.take_append_drop i l, List.drop_eq_getElem_cons hil, hb])
        have hpc := puD_cases b
        obtain ⟨z, hz⟩ : ∃ z, b.toNat = z := ⟨_, rfl⟩
        have hz256 : z < 256 := by rw [← hz]; exact UInt8.toNat_lt b
        rw [hz] at hci hpc
        have q0 : (((z : Int) == 95) && false) = false := by simp
        obtain ⟨b95, hb95⟩ : ∃ x, ((z : Int) == 95) = x := ⟨_, rfl⟩
        clear hb hz
        rcases hpc with ⟨h1, h2, hd⟩ | ⟨hno, h1, h2, hd⟩ | ⟨hno, hno2, hd⟩
        · have r1 : decide ((48 : Int) ≤ (z : Int)) = true := decide_eq_true (by omega)
          have r1' : decide (48 ≤ z) = true := decide_eq_true h1
          have r2 : decide ((z : Int) ≤ 57) = true := decide_eq_true (by omega)
          have r2' : decide (z ≤ 57) = true := decide_eq_true h2
          have HD := Lib.hid hd
          clear hd
          cases b95 with
          | true => (exfalso; simp at hb95; omega)
          | false =>
            have r3 : decide ((z : Int) - 48 ≥ 16) = false := decide_eq_false (by omega)
            by_cases hcut : 1152921504606846976 ≤ a
            · have c1 : decide ((a : Int) ≥ 1152921504606846976) = true := decide_eq_true (by omega)
              have c1' : decide (1152921504606846976 ≤ a) = true := decide_eq_true hcut
              have HN := Lib.hid (show hexO l = none from by
                unfold hexO
                rw [if_neg HNE.out, HLT.out, puG_app _ HPU.out, puG, HD.out]
                dsimp only
                rw [if_neg (by omega), if_pos hcut])
              go_wp2
              go_ret2
              exact ⟨.inr ⟨_, 1, HN.out, .inl rfl, rfl⟩, HBE.out⟩
            · have c1 : decide ((a : Int) ≥ 1152921504606846976) = false := decide_eq_false (by omega)
              have c1' : decide (1152921504606846976 ≤ a) = false := decide_eq_false hcut
              have c2 : decide ((a : Int) * 16 + ((z : Int) - 48) < (a : Int) * 16) = false := decide_eq_false (by omega)
              have c3 : decide ((a : Int) * 16 + ((z : Int) - 48) > 18446744073709551615) = false := decide_eq_false (by omega)
              have HS := Lib.hid (show puG 0 (l.take (i + 1)) = .ok (a * 16 + (z - 48)) from by
                rw [HTK.out, puG_app _ HPU.out, puG, HD.out]
                dsimp only
                rw [if_neg (by omega), if_neg hcut, puG])
              go_wp2
              refine ⟨⟨rfl, i + 1, a * 16 + (z - 48), by go_num, ?_, by omega, HS.out, rfl⟩, cntZ_lt hin⟩
              congr 1
              omega
        · have hq95 : b95 = false := by
            cases b95 with
            | false => rfl
            | true =>
              have e5 : z = 95 := by simp at hb95; omega
              subst e5
              exact absurd h2 (by decide)
          subst hq95
          obtain ⟨y, hy⟩ : ∃ y, (z ||| 32) = y := ⟨_, rfl⟩
          rw [hy] at h1 h2 hd
          have HD := Lib.hid hd
          clear hd
          have s1 : decide ((97 : Int) ≤ (y : Int)) = true := decide_eq_true (by omega)
          have s1' : decide (97 ≤ y) = true := decide_eq_true h1
          have s2 : decide ((y : Int) ≤ 122) = true := decide_eq_true (by omega)
          have s2' : decide (y ≤ 122) = true := decide_eq_true h2
          rcases (show (¬ 48 ≤ z) ∨ (48 ≤ z ∧ ¬ z ≤ 57) by omega) with h48 | ⟨h48, h57⟩
          · have r1 : decide ((48 : Int) ≤ (z : Int)) = false := decide_eq_false (by omega)
            have r1' : decide (48 ≤ z) = false := decide_eq_false h48
            clear hno
            by_cases h16 : 16 ≤ y - 87
            · have t1 : decide ((y : Int) - 97 + 10 ≥ 16) = true := decide_eq_true (by omega)
              have HN := Lib.hid (show hexO l = none from by
                unfold hexO
                rw [if_neg HNE.out, HLT.out, puG_app _ HPU.out, puG, HD.out]
                dsimp only
                rw [if_pos h16])
              go_wp2_with (first | (go_at_call 78; refine (llower z hz256 _).mono ?_; rintro e _ ⟨rfl, rfl⟩; rw [hy]) | fail)
              go_ret2
              exact ⟨.inr ⟨_, 2, HN.out, .inr rfl, rfl⟩, HBE.out⟩
            · have t1 : decide ((y : Int) - 97 + 10 ≥ 16) = false := decide_eq_false (by omega)
              by_cases hcut : 1152921504606846976 ≤ a
              · have c1 : decide ((a : Int) ≥ 1152921504606846976) = true := decide_eq_true (by omega)
                have c1' : decide (1152921504606846976 ≤ a) = true := decide_eq_true hcut
                have HN := Lib.hid (show hexO l = none from by
                  unfold hexO
                  rw [if_neg HNE.out, HLT.out, puG_app _ HPU.out, puG, HD.out]
                  dsimp only
                  rw [if_neg (by omega), if_pos hcut])
                go_wp2_with (first | (go_at_call 78; refine (llower z hz256 _).mono ?_; rintro e _ ⟨rfl, rfl⟩; rw [hy]) | fail)
                go_ret2
                exact ⟨.inr ⟨_, 1, HN.out, .inl rfl, rfl⟩, HBE.out⟩
              · have c1 : decide ((a : Int) ≥ 1152921504606846976) = false := decide_eq_false (by omega)
                have c1' : decide (1152921504606846976 ≤ a) = false := decide_eq_false hcut
                have c2 : decide ((a : Int) * 16 + ((y : Int) - 97 + 10) < (a : Int) * 16) = false := decide_eq_false (by omega)
                have c3 : decide ((a : Int) * 16 + ((y : Int) - 97 + 10) > 18446744073709551615) = false := decide_eq_false (by omega)
                have HS := Lib.hid (show puG 0 (l.take (i + 1)) = .ok (a * 16 + (y - 87)) from by
                  rw [HTK.out, puG_app _ HPU.out, puG, HD.out]
                  dsimp only
                  rw [if_neg (by omega), if_neg hcut, puG])
                go_wp2_with (first | (go_at_call 78; refine (llower z hz256 _).mono ?_; rintro e _ ⟨rfl, rfl⟩; rw [hy]) | fail)
                refine ⟨⟨rfl, i + 1, a * 16 + (y - 87), by go_num, ?_, by omega, HS.out, rfl⟩, cntZ_lt hin⟩
                congr 1
                omega
          · have r1 : decide ((48 : Int) ≤ (z : Int)) = true := decide_eq_true (by omega)
            have r1' : decide (48 ≤ z) = true := decide_eq_true h48
            have r2 : decide ((z : Int) ≤ 57) = false := decide_eq_false (by omega)
            have r2' : decide (z ≤ 57) = false := decide_eq_false h57
            clear hno
            by_cases h16 : 16 ≤ y - 87
            · have t1 : decide ((y : Int) - 97 + 10 ≥ 16) = true := decide_eq_true (by omega)
              have HN := Lib.hid (show hexO l = none from by
                unfold hexO
                rw [if_neg HNE.out, HLT.out, puG_app _ HPU.out, puG, HD.out]
                dsimp only
                rw [if_pos h16])
              go_wp2_with (first | (go_at_call 78; refine (llower z hz256 _).mono ?_; rintro e _ ⟨rfl, rfl⟩; rw [hy]) | fail)
              go_ret2
              exact ⟨.inr ⟨_, 2, HN.out, .inr rfl, rfl⟩, HBE.out⟩
            · have t1 : decide ((y : Int) - 97 + 10 ≥ 16) = false := decide_eq_false (by omega)
              by_cases hcut : 1152921504606846976 ≤ a
              · have c1 : decide ((a : Int) ≥ 1152921504606846976) = true := decide_eq_true (by omega)
                have c1' : decide (1152921504606846976 ≤ a) = true := decide_eq_true hcut
                have HN := Lib.hid (show hexO l = none from by
                  unfold hexO
                  rw [if_neg HNE.out, HLT.out, puG_app _ HPU.out, puG, HD.out]
                  dsimp only
                  rw [if_neg (by omega), if_pos hcut])
                go_wp2_with (first | (go_at_call 78; refine (llower z hz256 _).mono ?_; rintro e _ ⟨rfl, rfl⟩; rw [hy]) | fail)
                go_ret2
                exact ⟨.inr ⟨_, 1, HN.out, .inl rfl, rfl⟩, HBE.out⟩
              · have c1 : decide ((a : Int) ≥ 1152921504606846976) = false := decide_eq_false (by omega)
                have c1' : decide (1152921504606846976 ≤ a) = false := decide_eq_false hcut
                have c2 : decide ((a : Int) * 16 + ((y : Int) - 97 + 10) < (a : Int) * 16) = false := decide_eq_false (by omega)
                have c3 : decide ((a : Int) * 16 + ((y : Int) - 97 + 10) > 18446744073709551615) = false := decide_eq_false (by omega)
                have HS := Lib.hid (show puG 0 (l.take (i + 1)) = .ok (a * 16 + (y - 87)) from by
                  rw [HTK.out, puG_app _ HPU.out, puG, HD.out]
                  dsimp only
                  rw [if_neg (by omega), if_neg hcut, puG])
                go_wp2_with (first | (go_at_call 78; refine (llower z hz256 _).mono ?_; rintro e _ ⟨rfl, rfl⟩; rw [hy]) | fail)
                refine ⟨⟨rfl, i + 1, a * 16 + (y - 87), by go_num, ?_, by omega, HS.out, rfl⟩, cntZ_lt hin⟩
                congr 1
                omega
        · obtain ⟨y, hy⟩ : ∃ y, (z ||| 32) = y := ⟨_, rfl⟩
          rw [hy] at hno2
          have HD := Lib.hid hd
          clear hd
          have HN := Lib.hid (show hexO l = none from by
            unfold hexO
            rw [if_neg HNE.out, HLT.out, puG_app _ HPU.out, puG, HD.out])
          rcases (show (¬ 48 ≤ z) ∨ (48 ≤ z ∧ ¬ z ≤ 57) by omega) with h48 | ⟨h48, h57⟩
          · have r1 : decide ((48 : Int) ≤ (z : Int)) = false := decide_eq_false (by omega)
            have r1' : decide (48 ≤ z) = false := decide_eq_false h48
            clear hno
            rcases (show (¬ 97 ≤ y) ∨ (97 ≤ y ∧ ¬ y ≤ 122) by omega) with h97 | ⟨h97, h122⟩
            · have s1 : decide ((97 : Int) ≤ (y : Int)) = false := decide_eq_false (by omega)
              have s1' : decide (97 ≤ y) = false := decide_eq_false h97
              clear hno2
              cases b95 with
              | true =>
                go_wp2_with (first | (go_at_call 78; refine (llower z hz256 _).mono ?_; rintro e _ ⟨rfl, rfl⟩; rw [hy]) | fail)
                go_ret2
                exact ⟨.inr ⟨_, 2, HN.out, .inr rfl, rfl⟩, HBE.out⟩
              | false =>
                go_wp2_with (first | (go_at_call 78; refine (llower z hz256 _).mono ?_; rintro e _ ⟨rfl, rfl⟩; rw [hy]) | fail)
                go_ret2
                exact ⟨.inr ⟨_, 2, HN.out, .inr rfl, rfl⟩, HBE.out⟩
            · have s1 : decide ((97 : Int) ≤ (y : Int)) = true := decide_eq_true (by omega)
              have s1' : decide (97 ≤ y) = true := decide_eq_true h97
              have s2 : decide ((y : Int) ≤ 122) = false := decide_eq_false (by omega)
              have s2' : decide (y ≤ 122) = false := decide_eq_false h122
              clear hno2
              cases b95 with
              | true =>
                go_wp2_with (first | (go_at_call 78; refine (llower z hz256 _).mono ?_; rintro e _ ⟨rfl, rfl⟩; rw [hy]) | fail)
                go_ret2
                exact ⟨.inr ⟨_, 2, HN.out, .inr rfl, rfl⟩, HBE.out⟩
              | false =>
                go_wp2_with (first | (go_at_call 78; refine (llower z hz256 _).mono ?_; rintro e _ ⟨rfl, rfl⟩; rw [hy]) | fail)
                go_ret2
                exact ⟨.inr ⟨_, 2, HN.out, .inr rfl, rfl⟩, HBE.out⟩
          · have r1 : decide ((48 : Int) ≤ (z : Int)) = true := decide_eq_true (by omega)
            have r1' : decide (48 ≤ z) = true := decide_eq_true h48
            have r2 : decide ((z : Int) ≤ 57) = false := decide_eq_false (by omega)
            have r2' : decide (z ≤ 57) = false := decide_eq_false h57
            clear hno
            rcases (show (¬ 97 ≤ y) ∨ (97 ≤ y ∧ ¬ y ≤ 122) by omega) with h97 | ⟨h97, h122⟩
            · have s1 : decide ((97 : Int) ≤ (y : Int)) = false := decide_eq_false (by omega)
              have s1' : decide (97 ≤ y) = false := decide_eq_false h97
              clear hno2
              cases b95 with
              | true =>
                go_wp2_with (first | (go_at_call 78; refine (llower z hz256 _).mono ?_; rintro e _ ⟨rfl, rfl⟩; rw [hy]) | fail)
                go_ret2
                exact ⟨.inr ⟨_, 2, HN.out, .inr rfl, rfl⟩, HBE.out⟩
              | false =>
                go_wp2_with (first | (go_at_call 78; refine (llower z hz256 _).mono ?_; rintro e _ ⟨rfl, rfl⟩; rw [hy]) | fail)
                go_ret2
                exact ⟨.inr ⟨_, 2, HN.out, .inr rfl, rfl⟩, HBE.out⟩
            · have s1 : decide ((97 : Int) ≤ (y : Int)) = true := decide_eq_true (by omega)
              have s1' : decide (97 ≤ y) = true := decide_eq_true h97
              have s2 : decide ((y : Int) ≤ 122) = false := decide_eq_false (by omega)
              have s2' : decide (y ≤ 122) = false := decide_eq_false h122
              clear hno2
              cases b95 with
              | true =>
                go_wp2_with (first | (go_at_call 78; refine (llower z hz256 _).mono ?_; rintro e _ ⟨rfl, rfl⟩; rw [hy]) | fail)
                go_ret2
                exact ⟨.inr ⟨_, 2, HN.out, .inr rfl, rfl⟩, HBE.out⟩
              | false =>
                go_wp2_with (first | (go_at_call 78; refine (llower z hz256 _).mono ?_; rintro e _ ⟨rfl, rfl⟩; rw [hy]) | fail)
                go_ret2
                exact ⟨.inr ⟨_, 2, HN.out, .inr rfl, rfl⟩, HBE.out⟩
      · obtain rfl : i = n := by omega
        have g1 : decide ((i : Int) < (i : Int)) = false := by simp
        have HN := Lib.hid (show hexO l = some (a : Int) from by
          unfold hexO
          rw [if_neg HNE.out]
          have h8 := HPU.out
          rw [List.take_of_length_le (by omega)] at h8
          rw [h8])
        go_wp2
        go_ret2
        exact ⟨.inl ⟨_, HN.out, rfl⟩, HBE.out⟩
end Go.Proofs.YtjofegjiakjjhaaDoor
